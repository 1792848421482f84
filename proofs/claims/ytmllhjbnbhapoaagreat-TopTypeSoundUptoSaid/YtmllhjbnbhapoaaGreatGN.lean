/- Texts F3, QU, QV, F4. Conditions: none. -/
import Derived.Test.YtmllhjbnbhapoaaGreatGM
import Derived.Test.YtmllhjbnbhapoaaGreatGL
set_option linter.unusedSimpArgs false
set_option linter.unusedVariables false
namespace Go.Ab
open Go Go.Proofs
set_option maxRecDepth 10000
def TS(s:Spc)(m:Mdl)(ck:AV)(l:Scp)(ty:List (ByteArray×Int))(ins:Bool)(n:Nd)(a:Int):Prop:=
 ∃ u v,Exa ck l n.ex ins (.agg [u,v])∧(n.isR→∃ k:Kn,(k.1:Int)=a∧AV.agg [u,v]=k.av∧∀ (st:Int) (env:List (ByteArray×Int)),0≤st→st<m.states.length→(∀ x∈env,0≤x.2∧x.2<m.n)→tyE env=ty→FitE m l env→Snd m.scope k.2 k.1 (ev s m n st env).r)
section
variable {s:Spc} {m:Mdl} {ck:AV} {l:Scp} {ty:List (ByteArray×Int)} {ins:Bool} {n k0 k1:Nd} {a c:Int} {ts:List Bool}
theorem TS.ofK(k:Kn)(ha:(k.1:Int)=a)(hx:Exa ck l n.ex ins k.av)(hs:∀ (st:Int) (env:List (ByteArray×Int)),0≤st→st<m.states.length→(∀ x∈env,0≤x.2∧x.2<m.n)→tyE env=ty→FitE m l env→Snd m.scope k.2 k.1 (ev s m n st env).r):TS s m ck l ty ins n a:=
 ⟨_,_,hx,fun _=>⟨k,ha,rfl,hs⟩⟩
theorem TS.ofZ{u v:AV}(hn:¬ n.isR)(hx:Exa ck l n.ex ins (.agg [u,v])):TS s m ck l ty ins n a:=⟨u,v,hx,fun h=>absurd h hn⟩
theorem ex_0(hk:n.kids=[]):n.ex=ndA n.op n.name n.n [] n.at_:=by
 show AV.agg [_,_,_,.slice 5 (n.kids.map Nd.av),_]=_
 rw[hk];rfl
theorem ex_1k(hk:n.kids=[k0]):n.ex=ndA n.op n.name n.n [k0.ex] n.at_:=by
 show AV.agg [_,_,_,.slice 5 (n.kids.map Nd.av),_]=_
 rw[hk,Nd.av_ex];rfl
theorem ex_2k(hk:n.kids=[k0,k1]):n.ex=ndA n.op n.name n.n [k0.ex,k1.ex] n.at_:=by
 show AV.agg [_,_,_,.slice 5 (n.kids.map Nd.av),_]=_
 rw[hk,Nd.av_ex];rfl
theorem xa0(hk:n.kids=[])(ho:n.op≠1∧n.op≠47∧n.op≠15∧n.op≠45∧n.op≠46)(hi:ins=true→timeB n.op=false){u v:AV}
 (hap:AFun Tryz.prog 93 [ckG s c ts,ndA n.op n.name n.n [] n.at_,.slice 2 []] (.p (.agg [u,v]))):Exa (ckG s c ts) l n.ex ins (.agg [u,v]):=by
 rw[ex_0 hk]
 exact exa0 s c ts l ins n.op ho hi n.name n.n n.at_ u v hap
theorem xa1(hk:n.kids=[k0])(ho:n.op≠1∧n.op≠47∧n.op≠15∧n.op≠45∧n.op≠46)(hi:ins=true→timeB n.op=false){x0 y0 u v:AV}
 (hap:Ap n.op (ckG s c ts) [.agg [x0,y0]] (.agg [u,v]))(h0:Exa (ckG s c ts) l k0.ex (ins||decide (n.op=12∨n.op=13)) (.agg [x0,y0])):Exa (ckG s c ts) l n.ex ins (.agg [u,v]):=by
 rw[ex_1k hk]
 exact exa1 s c ts l ins n.op ho hi n.name n.n n.at_ k0.op k0.n k0.at_ k0.name (k0.kids.map Nd.av) x0 y0 u v (hap _ _ _ _) h0
theorem xa2(hk:n.kids=[k0,k1])(ho:n.op≠1∧n.op≠47∧n.op≠15∧n.op≠45∧n.op≠46)(hi:ins=true→timeB n.op=false){x0 y0 x1 y1 u v:AV}
 (hap:Ap n.op (ckG s c ts) [.agg [x0,y0],.agg [x1,y1]] (.agg [u,v]))(h0:Exa (ckG s c ts) l k0.ex (ins||decide (n.op=12∨n.op=13)) (.agg [x0,y0]))(h1:Exa (ckG s c ts) l k1.ex (ins||decide (n.op=12∨n.op=13)) (.agg [x1,y1])):Exa (ckG s c ts) l n.ex ins (.agg [u,v]):=by
 rw[ex_2k hk]
 exact exa2 s c ts l ins n.op ho hi n.name n.n n.at_ k0.op k0.n k0.at_ k0.name (k0.kids.map Nd.av) x0 y0 k1.op k1.n k1.at_ k1.name (k1.kids.map Nd.av) x1 y1 u v (hap _ _ _ _) h0 h1
theorem xaB(hk:n.kids=[k0,k1])(ho:n.op=15∨n.op=45∨n.op=46){P:Nat→Bool}{u v:AV}(h0:Exa (ckG s c ts) l k0.ex (ins||decide (n.op=15)) (kdP 1 P))(h1:Exa (ckG s c ts) ((n.name,1,P)::l) k1.ex (ins||decide (n.op=15)) (.agg [u,v])):Exa (ckG s c ts) l n.ex ins (kdP 1 P):=by
 rw[ex_2k hk]
 exact exaB s c ts l ins n.op ho n.name n.n n.at_ k0.op k0.n k0.at_ k0.name (k0.kids.map Nd.av) k1.op k1.n k1.at_ k1.name (k1.kids.map Nd.av) P _ h0 h1 ⟨u,v,rfl⟩
theorem env0_ty(hl:ScT l ty):tyE (ty.map fun x=>(x.1,(0:Int)))=ty:=by
 have h1:∀ x∈ty,x.2=1:=fun x hx=>by
  have:x∈l.map (fun x=>(x.1,x.2.1)):=by rw[hl.1];exact List.mem_reverse.2 hx
  obtain⟨y,hy,rfl⟩:=List.mem_map.1 this
  exact hl.2 y hy
 unfold tyE
 rw[List.map_map]
 conv=>rhs;rw[← List.map_id ty]
 refine List.map_congr_left fun x hx=>?_
 have:=h1 x hx
 obtain⟨p,q⟩:=x
 dsimp only at this
 subst this
 rfl
end
set_option maxHeartbeats 2000000 in
theorem tsound{s:Spc}{m:Mdl}(hm:MOk s m)(hf:FTy s m)(h4:s.sorts.length≤4)(hf6:s.fields.length≤6)(hnm:∀ x∈s.sorts,x.name.size≤1048576)(c:Int)(ts:List Bool)(n:Nd):
 n.WF→n.hasCall=false→∀ (l:Scp) (ty:List (ByteArray×Int)) (ins:Bool) (a:Int),ScT l ty→Ty s ty n a→NoT ins n→TS s m (ckG s c ts) l ty ins n a:=by
 induction n using Nd.ind with
 | h n ih=>
  intro hw hc l ty ins a hl ht hN
  have hne:=hm.ne
  have hA:∀ (k:Nd) (b:Int),k.WF→k.hasCall=false→k.isR→Ty s ty k b→1≤b∧b≤3:=fun k b w hcc hR hT=>by
   obtain⟨h1,h2⟩:=ev_ok hm k w hcc (ty.map fun x=>(x.1,(0:Int))) 0 b (by rw[env0_ty hl];exact hT) (by omega) (by omega) (fun x hx=>by
    obtain⟨y,_,rfl⟩:=List.mem_map.1 hx
    exact⟨Int.le_refl _,hm.pos⟩) hR
   rw[← h2];exact h1.a
  have h47:=nc_op hc
  obtain⟨hN1,hN2⟩:(ins=true→timedOp n.op=false)∧∀ k∈n.kids,NoT (ins||decide (n.op=12∨n.op=13∨n.op=15)) k:=by
   cases hN with
   | mk h hk=>exact⟨h,hk h47⟩
  have hi:ins=true→timeB n.op=false:=fun e=>by
   have h0:=hN1 e
   unfold timedOp at h0
   replace h0:=of_decide_eq_false h0
   exact decide_eq_false (by omega)
  have kid:∀ {k:Nd} {b:Int},k∈n.kids→k.WF→n.op≠15→Ty s ty k b→TS s m (ckG s c ts) l ty (ins||decide (n.op=12∨n.op=13)) k b:=fun {k b} hk w h15 t=>by
   refine ih k hk w (nc_kid hc hk) l ty _ b hl t ?_
   have:=hN2 k hk
   rwa [show decide (n.op=12∨n.op=13∨n.op=15)=decide (n.op=12∨n.op=13) by simp[h15]] at this
  have evk:∀ {k:Nd} {b:Int},k∈n.kids→k.WF→k.isR→Ty s ty k b→∀ (st:Int) (env:List (ByteArray×Int)),0≤st→st<m.states.length→(∀ x∈env,0≤x.2∧x.2<m.n)→tyE env=ty→(ev s m k st env).r.Ok m.n∧(ev s m k st env).r.arity=b:=fun {k b} hk w hR t st env s0 s1 he hty=>ev_ok hm k w (nc_kid hc hk) env st b (by rw[hty];exact t) s0 s1 he hR
  have m0:∀ {k0},n.kids=[k0]→k0∈n.kids:=fun {k0} h=>by rw[h];simp
  have m1:∀ {k0 k1},n.kids=[k0,k1]→k0∈n.kids∧k1∈n.kids:=fun {k0 k1} h=>by rw[h];simp
  have none1:∀ (hn:¬ n.isR) (ho:n.op≠1∧n.op≠47∧n.op≠15∧n.op≠45∧n.op≠46) (ho2:n.op≠2∧n.op≠3∧n.op≠4∧n.op≠5∧n.op≠6∧n.op≠14∧n.op≠7∧n.op≠8∧n.op≠32∧n.op≠33∧n.op≠9∧n.op≠10∧n.op≠11∧n.op≠12∧n.op≠13) (k0:Nd),n.kids=[k0]→k0.WF→TS s m (ckG s c ts) l ty ins n a:=fun hn ho ho2 k0 hk w=>by
   obtain⟨a0,t0,_⟩:=ht.inv_1 ho hk
   obtain⟨x0,y0,h0,_⟩:=kid (m0 hk) w ho.2.2.1 t0
   exact TS.ofZ hn (xa1 hk ho hi (apply_none _ n.op ho2 _) h0)
  have none2:∀ (hn:¬ n.isR) (ho:n.op≠1∧n.op≠47∧n.op≠15∧n.op≠45∧n.op≠46) (ho2:n.op≠2∧n.op≠3∧n.op≠4∧n.op≠5∧n.op≠6∧n.op≠14∧n.op≠7∧n.op≠8∧n.op≠32∧n.op≠33∧n.op≠9∧n.op≠10∧n.op≠11∧n.op≠12∧n.op≠13) (k0 k1:Nd),n.kids=[k0,k1]→k0.WF→k1.WF→TS s m (ckG s c ts) l ty ins n a:=fun hn ho ho2 k0 k1 hk w0 w1=>by
   obtain⟨a0,a1,t0,t1,_⟩:=ht.inv_2 ho hk
   obtain⟨x0,y0,h0,_⟩:=kid (m1 hk).1 w0 ho.2.2.1 t0
   obtain⟨x1,y1,h1,_⟩:=kid (m1 hk).2 w1 ho.2.2.1 t1
   exact TS.ofZ hn (xa2 hk ho hi (apply_none _ n.op ho2 _) h0 h1)
  have none0:∀ (hn:¬ n.isR) (ho:n.op≠1∧n.op≠47∧n.op≠15∧n.op≠45∧n.op≠46) (ho2:n.op≠2∧n.op≠3∧n.op≠4∧n.op≠5∧n.op≠6∧n.op≠14∧n.op≠7∧n.op≠8∧n.op≠32∧n.op≠33∧n.op≠9∧n.op≠10∧n.op≠11∧n.op≠12∧n.op≠13),n.kids=[]→TS s m (ckG s c ts) l ty ins n a:=fun hn ho ho2 hk=>
   TS.ofZ hn (xa0 hk ho hi (apply_none _ n.op ho2 _ _ _ _ _))
  have binder:n.op=15∨n.op=45∨n.op=46→∃ (k0 k1:Nd) (P:Nat→Bool),n.kids=[k0,k1]∧a=1∧Exa (ckG s c ts) l n.ex ins (kdP 1 P)∧∀ (st:Int) (env:List (ByteArray×Int)),0≤st→st<m.states.length→(∀ x∈env,0≤x.2∧x.2<m.n)→tyE env=ty→FitE m l env→Snd m.scope P 1 (ev s m k0 st env).r:=fun ho=>by
   obtain⟨k0,k1,hk,⟨w0,r0⟩,w1,r1⟩:=wf_ef hw ho
   obtain⟨e1,t0,b,t1⟩:=ht.inv_bind ho hk
   have hfl:decide (n.op=12∨n.op=13∨n.op=15)=decide (n.op=15):=by
    rcases ho with h | h | h <;> rw[h] <;> rfl
   have n0:=hN2 k0 (m1 hk).1
   have n1:=hN2 k1 (m1 hk).2
   rw[hfl] at n0 n1
   obtain⟨u,v,h0,hR⟩:=ih k0 (m1 hk).1 w0 (nc_kid hc (m1 hk).1) l ty _ 1 hl t0 n0
   obtain⟨k,ek,hav,hs⟩:=hR r0
   rw[hav] at h0
   obtain⟨kn,P⟩:=k
   obtain rfl:kn=1:=by have:(kn:Int)=1:=ek;omega
   obtain⟨x,y,h1,_⟩:=ih k1 (m1 hk).2 w1 (nc_kid hc (m1 hk).2) ((n.name,1,P)::l) (ty++[(n.name,1)]) _ b (hl.snoc n.name P) t1 n1
   exact⟨k0,k1,P,hk,e1,xaB hk ho h0 h1,hs⟩
  rcases WF_op hw with hR | hI | hF
  ·unfold Nd.isR at hR
   have hcase:n.op=1∨n.op=2∨n.op=3∨n.op=4∨n.op=5∨n.op=6∨n.op=7∨n.op=8∨n.op=9∨n.op=10∨n.op=11∨n.op=12∨n.op=13∨n.op=14∨n.op=15:=by omega
   rcases hcase with h | h | h | h | h | h | h | h | h | h | h | h | h | h | h
   ·
    obtain⟨k,ek,hor,hs⟩:=name_snd hm hf hl (ht.inv_name h)
    refine TS.ofK k ek ?_ fun st env s0 s1 he hty hfit=>by rw[ev_1 h];exact hs st env s0 s1 he hfit
    have he:n.ex=ndA 1 n.name n.n (n.kids.map Nd.av) n.at_:=by
     show AV.agg [eI n.op,_,_,_,_]=_
     rw[h]
    rw[he]
    refine exaN s c ts l ins n.name n.n n.at_ (n.kids.map Nd.av) k.1 k.2 ?_
    rcases hor with ⟨x,r,h1,h2,h3⟩ | ⟨h1,h2⟩
    ·rw[h2,h3]
     exact nameScope s c ts l n.name n.n n.at_ _ h1
    ·refine nameMean s c ts l n.name n.n n.at_ _ h1 ?_
     have:=meanG s h4 hf6 hm.fs hnm n.name
     rw[mean_K,h2] at this
     exact this
   ·obtain⟨al,_,_,hap⟩:=ht.inv_app (by omega)
    have hnum:=((Nd.WF_iff n).1 hw).1.2.1 h
    have ea:a=n.n:=hap.1 h
    refine TS.ofK (n.n.toNat,fun _=>false) (by show((n.n.toNat:Nat):Int)=a;omega) (xa0 (wf_0 hw (by omega)) (by omega) hi ?_) fun st env s0 s1 he hty hfit=>by rw[ev_2 h];exact fun t ht=>by cases ht
    have:=apply2 (ckG s c ts) [] n.name n.n [] n.at_
    rw[h]
    have e2:((n.n.toNat:Nat):Int)=n.n:=by omega
    show AFun _ _ _ (.p (kdP ((n.n.toNat:Nat):Int) _))
    rw[e2];exact this
   ·obtain⟨al,_,_,hap⟩:=ht.inv_app (by omega)
    have ea:a=1:=hap.2.1 h
    refine TS.ofK (1,diagP s.sorts.length 1) (by rw[ea];rfl) (xa0 (wf_0 hw (by omega)) (by omega) hi ?_) fun st env s0 s1 he hty hfit=>by rw[ev_3 h];exact snd_univ hm h4
    rw[h];exact apply3 s h4 c ts _ _ _ _
   ·obtain⟨al,_,_,hap⟩:=ht.inv_app (by omega)
    have ea:a=2:=hap.2.2.1 h
    refine TS.ofK (2,diagP s.sorts.length 2) (by rw[ea];rfl) (xa0 (wf_0 hw (by omega)) (by omega) hi ?_) fun st env s0 s1 he hty hfit=>by rw[ev_4 h];exact snd_iden hm h4
    rw[h];exact apply4 s h4 c ts _ _ _ _
   ·obtain⟨k0,hk,w0,r0⟩:=wf_e hw (by omega)
    obtain⟨a0,t0,hap⟩:=ht.inv_1 (by omega) hk
    have ea:a0=a:=by have:=hap.2.2.2.1 h;simpa using this
    obtain⟨u,v,h0,hR0⟩:=kid (m0 hk) w0 (by omega) t0
    obtain⟨k,ek,hav,hs⟩:=hR0 r0
    rw[hav] at h0
    refine TS.ofK k (by rw[ek,ea]) (xa1 hk (by omega) hi (by rw[h];exact apply5 _ _ _) h0) fun st env s0 s1 he hty hfit=>by
     rw[ev_5 h hk]
     obtain⟨q0,q1⟩:=nextSt_ok hm s0 s1
     exact hs _ env q0 q1 he hty hfit
   ·obtain⟨k0,k1,hk,⟨w0,r0⟩,w1,r1⟩:=wf_ee hw (by omega)
    obtain⟨a0,a1,t0,t1,hap⟩:=ht.inv_2 (by omega) hk
    obtain⟨_,_,h0,hR0⟩:=kid (m1 hk).1 w0 (by omega) t0
    obtain⟨⟨pn,P⟩,ep,hav0,hs0⟩:=hR0 r0
    rw[hav0] at h0
    obtain⟨_,_,h1,hR1⟩:=kid (m1 hk).2 w1 (by omega) t1
    obtain⟨⟨qn,Q⟩,eq,hav1,hs1⟩:=hR1 r1
    rw[hav1] at h1
    have ep:(pn:Int)=a0:=ep
    have eq:(qn:Int)=a1:=eq
    obtain⟨rfl,rfl⟩:a0=a∧a1=a:=by have:=hap.2.2.2.2.1 (by omega);simpa using this
    obtain rfl:qn=pn:=by omega
    refine TS.ofK (qn,fun e=>P e||Q e) ep (xa2 hk (by omega) hi (by rw[h];exact apply_alike _ 6 qn (by omega) P Q _ (alikeU 6 qn (.inl rfl) P Q)) h0 h1) fun st env s0 s1 he hty hfit=>by
     rw[ev_6 h hk]
     exact snd_union (hs0 st env s0 s1 he hty hfit) (hs1 st env s0 s1 he hty hfit)
   ·obtain⟨k0,k1,hk,⟨w0,r0⟩,w1,r1⟩:=wf_ee hw (by omega)
    obtain⟨a0,a1,t0,t1,hap⟩:=ht.inv_2 (by omega) hk
    obtain⟨_,_,h0,hR0⟩:=kid (m1 hk).1 w0 (by omega) t0
    obtain⟨⟨pn,P⟩,ep,hav0,hs0⟩:=hR0 r0
    rw[hav0] at h0
    obtain⟨_,_,h1,hR1⟩:=kid (m1 hk).2 w1 (by omega) t1
    obtain⟨⟨qn,Q⟩,eq,hav1,hs1⟩:=hR1 r1
    rw[hav1] at h1
    have ep:(pn:Int)=a0:=ep
    have eq:(qn:Int)=a1:=eq
    obtain⟨rfl,rfl⟩:a0=a∧a1=a:=by have:=hap.2.2.2.2.1 (by omega);simpa using this
    obtain rfl:qn=pn:=by omega
    refine TS.ofK (qn,fun e=>P e&&Q e) ep (xa2 hk (by omega) hi (by rw[h];exact apply_alike _ 7 qn (by omega) P Q _ (alikeI qn P Q)) h0 h1) fun st env s0 s1 he hty hfit=>by
     rw[ev_7 h hk]
     exact snd_inter (hs0 st env s0 s1 he hty hfit) (hs1 st env s0 s1 he hty hfit)
   ·obtain⟨k0,k1,hk,⟨w0,r0⟩,w1,r1⟩:=wf_ee hw (by omega)
    obtain⟨a0,a1,t0,t1,hap⟩:=ht.inv_2 (by omega) hk
    obtain⟨_,_,h0,hR0⟩:=kid (m1 hk).1 w0 (by omega) t0
    obtain⟨⟨pn,P⟩,ep,hav0,hs0⟩:=hR0 r0
    rw[hav0] at h0
    obtain⟨_,_,h1,hR1⟩:=kid (m1 hk).2 w1 (by omega) t1
    obtain⟨⟨qn,Q⟩,eq,hav1,hs1⟩:=hR1 r1
    rw[hav1] at h1
    have ep:(pn:Int)=a0:=ep
    have eq:(qn:Int)=a1:=eq
    obtain⟨rfl,rfl⟩:a0=a∧a1=a:=by have:=hap.2.2.2.2.1 (by omega);simpa using this
    obtain rfl:qn=pn:=by omega
    refine TS.ofK (qn,P) ep (xa2 hk (by omega) hi (by rw[h];exact apply_alike _ 8 qn (by omega) P Q _ (alikeO 8 qn (.inl rfl) P Q)) h0 h1) fun st env s0 s1 he hty hfit=>by
     rw[ev_8 h hk]
     exact snd_diff (hs0 st env s0 s1 he hty hfit)
   ·obtain⟨k0,k1,hk,⟨w0,r0⟩,w1,r1⟩:=wf_ee hw (by omega)
    obtain⟨a0,a1,t0,t1,hap⟩:=ht.inv_2 (by omega) hk
    obtain⟨_,_,h0,hR0⟩:=kid (m1 hk).1 w0 (by omega) t0
    obtain⟨⟨pn,P⟩,ep,hav0,hs0⟩:=hR0 r0
    rw[hav0] at h0
    obtain⟨_,_,h1,hR1⟩:=kid (m1 hk).2 w1 (by omega) t1
    obtain⟨⟨qn,Q⟩,eq,hav1,hs1⟩:=hR1 r1
    rw[hav1] at h1
    have ep:(pn:Int)=a0:=ep
    have eq:(qn:Int)=a1:=eq
    obtain⟨rfl,g2,g3⟩:a=a0+a1 - 2∧1≤a∧a≤3:=by
     obtain⟨b,c',e1,e2⟩:=hap.2.2.2.2.2.2.1 h
     simp only[List.cons.injEq,and_true] at e1
     obtain⟨rfl,rfl⟩:=e1
     exact e2
    have b0:=hA k0 a0 w0 (nc_kid hc (m1 hk).1) r0 t0
    have b1:=hA k1 a1 w1 (nc_kid hc (m1 hk).2) r1 t1
    refine TS.ofK (pn+qn - 2,fun e=>(canon P).any fun c=>(canon Q).any fun d=>addJ pn c d (jcd pn qn 1 c d) e) (by show((pn+qn - 2:Nat):Int)=_;omega) (xa2 hk (by omega) hi (by rw[h];exact apply9 _ pn qn (by omega) (by omega) (by omega) P Q) h0 h1) fun st env s0 s1 he hty hfit=>by
     rw[ev_9 h hk]
     have o0:=evk (m1 hk).1 w0 r0 t0 st env s0 s1 he hty
     have o1:=evk (m1 hk).2 w1 r1 t1 st env s0 s1 he hty
     exact snd_join hm h4 o0.1 o1.1 (by rw[o0.2,ep]) (by rw[o1.2,eq]) (by omega) (hs0 st env s0 s1 he hty hfit) (hs1 st env s0 s1 he hty hfit)
   ·obtain⟨k0,k1,hk,⟨w0,r0⟩,w1,r1⟩:=wf_ee hw (by omega)
    obtain⟨a0,a1,t0,t1,hap⟩:=ht.inv_2 (by omega) hk
    obtain⟨_,_,h0,hR0⟩:=kid (m1 hk).1 w0 (by omega) t0
    obtain⟨⟨pn,P⟩,ep,hav0,hs0⟩:=hR0 r0
    rw[hav0] at h0
    obtain⟨_,_,h1,hR1⟩:=kid (m1 hk).2 w1 (by omega) t1
    obtain⟨⟨qn,Q⟩,eq,hav1,hs1⟩:=hR1 r1
    rw[hav1] at h1
    have ep:(pn:Int)=a0:=ep
    have eq:(qn:Int)=a1:=eq
    obtain⟨rfl,g2⟩:a=a0+a1∧a≤3:=by
     obtain⟨b,c',e1,e2⟩:=hap.2.2.2.2.2.2.2.1 h
     simp only[List.cons.injEq,and_true] at e1
     obtain⟨rfl,rfl⟩:=e1
     exact e2
    have b0:=hA k0 a0 w0 (nc_kid hc (m1 hk).1) r0 t0
    have b1:=hA k1 a1 w1 (nc_kid hc (m1 hk).2) r1 t1
    refine TS.ofK (pn+qn,fun e=>(canon P).any fun c=>(canon Q).any fun d=>e==jcd pn qn 0 c d) (by show((pn+qn:Nat):Int)=_;omega) (xa2 hk (by omega) hi (by rw[h];exact apply10 _ pn qn (by omega) (by omega) (by omega) P Q) h0 h1) fun st env s0 s1 he hty hfit=>by
     rw[ev_10 h hk]
     have o0:=evk (m1 hk).1 w0 r0 t0 st env s0 s1 he hty
     have o1:=evk (m1 hk).2 w1 r1 t1 st env s0 s1 he hty
     exact snd_product hm h4 o0.1 o1.1 (by rw[o0.2,ep]) (by rw[o1.2,eq]) (by omega) (hs0 st env s0 s1 he hty hfit) (hs1 st env s0 s1 he hty hfit)
   ·obtain⟨k0,hk,w0,r0⟩:=wf_e hw (by omega)
    obtain⟨a0,t0,hap⟩:=ht.inv_1 (by omega) hk
    obtain⟨rfl,rfl⟩:a0=2∧a=2:=by have:=hap.2.2.2.2.2.2.2.2 (by omega);simpa using this
    obtain⟨_,_,h0,hR0⟩:=kid (m0 hk) w0 (by omega) t0
    obtain⟨⟨pn,P⟩,ep,hav0,hs0⟩:=hR0 r0
    rw[hav0] at h0
    obtain rfl:pn=2:=by have:(pn:Int)=2:=ep;omega
    refine TS.ofK (2,fun e=>(canon P).any fun c=>e==swc c) rfl (xa1 hk (by omega) hi (by rw[h];exact apply_bin _ 11 (by omega) P _ (transG _ P)) h0) fun st env s0 s1 he hty hfit=>by
     rw[ev_11 h hk]
     have o0:=evk (m0 hk) w0 r0 t0 st env s0 s1 he hty
     exact snd_trans hm h4 o0.1 o0.2 (hs0 st env s0 s1 he hty hfit)
   ·obtain⟨k0,hk,w0,r0⟩:=wf_e hw (by omega)
    obtain⟨a0,t0,hap⟩:=ht.inv_1 (by omega) hk
    obtain⟨rfl,rfl⟩:a0=2∧a=2:=by have:=hap.2.2.2.2.2.2.2.2 (by omega);simpa using this
    obtain⟨_,_,h0,hR0⟩:=kid (m0 hk) w0 (by omega) t0
    obtain⟨⟨pn,P⟩,ep,hav0,hs0⟩:=hR0 r0
    rw[hav0] at h0
    obtain rfl:pn=2:=by have:(pn:Int)=2:=ep;omega
    obtain⟨R,hC,hcl⟩:=closureG P
    refine TS.ofK (2,R) rfl (xa1 hk (by omega) hi (by rw[h];exact apply_bin _ 12 (by omega) P _ (closB _ P R hcl)) h0) fun st env s0 s1 he hty hfit=>by
     rw[ev_12 h hk]
     have o0:=evk (m0 hk) w0 r0 t0 st env s0 s1 he hty
     exact snd_clos hm h4 hC (hs0 st env s0 s1 he hty hfit)
   ·obtain⟨k0,hk,w0,r0⟩:=wf_e hw (by omega)
    obtain⟨a0,t0,hap⟩:=ht.inv_1 (by omega) hk
    obtain⟨rfl,rfl⟩:a0=2∧a=2:=by have:=hap.2.2.2.2.2.2.2.2 (by omega);simpa using this
    obtain⟨_,_,h0,hR0⟩:=kid (m0 hk) w0 (by omega) t0
    obtain⟨⟨pn,P⟩,ep,hav0,hs0⟩:=hR0 r0
    rw[hav0] at h0
    obtain rfl:pn=2:=by have:(pn:Int)=2:=ep;omega
    obtain⟨R,hC,hcl⟩:=closureG P
    refine TS.ofK (2,fun e=>R e||diagP s.sorts.length 2 e) rfl (xa1 hk (by omega) hi (by rw[h];exact apply_bin _ 13 (by omega) P _ (reflB s h4 c ts P R hcl)) h0) fun st env s0 s1 he hty hfit=>by
     rw[ev_13 h hk]
     have o0:=evk (m0 hk) w0 r0 t0 st env s0 s1 he hty
     exact snd_union (snd_clos hm h4 hC (hs0 st env s0 s1 he hty hfit)) (snd_iden hm h4)
   ·obtain⟨k0,k1,hk,⟨w0,r0⟩,w1,r1⟩:=wf_ee hw (by omega)
    obtain⟨a0,a1,t0,t1,hap⟩:=ht.inv_2 (by omega) hk
    obtain⟨_,_,h0,hR0⟩:=kid (m1 hk).1 w0 (by omega) t0
    obtain⟨⟨pn,P⟩,ep,hav0,hs0⟩:=hR0 r0
    rw[hav0] at h0
    obtain⟨_,_,h1,hR1⟩:=kid (m1 hk).2 w1 (by omega) t1
    obtain⟨⟨qn,Q⟩,eq,hav1,hs1⟩:=hR1 r1
    rw[hav1] at h1
    have ep:(pn:Int)=a0:=ep
    have eq:(qn:Int)=a1:=eq
    obtain⟨rfl,rfl⟩:a0=a∧a1=a:=by have:=hap.2.2.2.2.1 (by omega);simpa using this
    obtain rfl:qn=pn:=by omega
    refine TS.ofK (qn,fun e=>P e||Q e) ep (xa2 hk (by omega) hi (by rw[h];exact apply_alike _ 14 qn (by omega) P Q _ (alikeU 14 qn (.inr rfl) P Q)) h0 h1) fun st env s0 s1 he hty hfit=>by
     rw[ev_14 h hk]
     exact snd_over (hs0 st env s0 s1 he hty hfit) (hs1 st env s0 s1 he hty hfit)
   ·obtain⟨k0,k1,P,hk,e1,hx,hs⟩:=binder (.inl h)
    refine TS.ofK (1,P) (by rw[e1];rfl) hx fun st env s0 s1 he hty hfit=>by
     rw[ev_15 h hk]
     exact snd_filter _ (hs st env s0 s1 he hty hfit)
  ·unfold Nd.isI at hI
   have hn:¬ n.isR:=by unfold Nd.isR;omega
   have hcase:n.op=20∨n.op=21∨n.op=22∨n.op=23:=by omega
   rcases hcase with h | h | h | h
   ·exact none0 hn (by omega) (by omega) (wf_0 hw (by omega))
   ·obtain⟨k0,hk,w0,_⟩:=wf_e hw (by omega)
    exact none1 hn (by omega) (by omega) k0 hk w0
   ·obtain⟨k0,k1,hk,⟨w0,_⟩,w1,_⟩:=wf_ii hw (by omega)
    exact none2 hn (by omega) (by omega) k0 k1 hk w0 w1
   ·obtain⟨k0,k1,hk,⟨w0,_⟩,w1,_⟩:=wf_ii hw (by omega)
    exact none2 hn (by omega) (by omega) k0 k1 hk w0 w1
  ·unfold Nd.isF at hF
   have hn:¬ n.isR:=by unfold Nd.isR;omega
   have hcase:(n.op=30∨n.op=31)∨(n.op=32∨n.op=33)∨(n.op=34∨n.op=35∨n.op=36∨n.op=37)∨(n.op=38∨n.op=39)∨(n.op=40∨n.op=48∨n.op=49∨n.op=50)∨(n.op=41∨n.op=42∨n.op=43∨n.op=44∨n.op=51)∨n.op=45∨n.op=46:=by omega
   rcases hcase with h | h | h | h | h | h | h
   ·exact none0 hn (by omega) (by omega) (wf_0 hw (by omega))
   ·obtain⟨k0,k1,hk,⟨w0,r0⟩,w1,r1⟩:=wf_ee hw (by omega)
    obtain⟨a0,a1,t0,t1,hap⟩:=ht.inv_2 (by omega) hk
    obtain⟨_,_,h0,hR0⟩:=kid (m1 hk).1 w0 (by omega) t0
    obtain⟨⟨pn,P⟩,ep,hav0,_⟩:=hR0 r0
    rw[hav0] at h0
    obtain⟨_,_,h1,hR1⟩:=kid (m1 hk).2 w1 (by omega) t1
    obtain⟨⟨qn,Q⟩,eq,hav1,_⟩:=hR1 r1
    rw[hav1] at h1
    have ep:(pn:Int)=a0:=ep
    have eq:(qn:Int)=a1:=eq
    obtain⟨b,hb⟩:=hap.2.2.2.2.2.1 h
    simp only[List.cons.injEq,and_true] at hb
    obtain⟨rfl,rfl⟩:=hb
    obtain rfl:qn=pn:=by omega
    exact TS.ofZ hn (xa2 hk (by omega) hi (apply_alike _ n.op qn (by omega) P Q P (alikeO n.op qn (by omega) P Q)) h0 h1)
   ·obtain⟨k0,hk,w0,_⟩:=wf_e hw (by omega)
    exact none1 hn (by omega) (by omega) k0 hk w0
   ·obtain⟨k0,k1,hk,⟨w0,_⟩,w1,_⟩:=wf_ii hw (by omega)
    exact none2 hn (by omega) (by omega) k0 k1 hk w0 w1
   ·obtain⟨k0,hk,w0,_⟩:=wf_f hw (by omega)
    exact none1 hn (by omega) (by omega) k0 hk w0
   ·obtain⟨k0,k1,hk,⟨w0,_⟩,w1,_⟩:=wf_ff hw (by omega)
    exact none2 hn (by omega) (by omega) k0 k1 hk w0 w1
   ·obtain⟨k0,k1,P,hk,e1,hx,_⟩:=binder (.inr h)
    exact TS.ofZ hn hx
theorem AD.mapLoopThen{P:Program}{N:Nat}{O:Hp}{ro:Bool}{Q:Kc}{env:Env}{h:AHp}{id it tn t bid k:Nat}{ops:Array Oper}{first body more:Code}{kp:KP}{tot:List (AV×AV)}(E:List (AV×AV)→Env)(H:List (AV×AV)→AHp)(ae2:AExit)(env2:Env)(h2:AHp)
 (h0:AD P N O ro first (AExit.thn (fun e hh=>SubAll N O e hh (E []) (H [])) (fun _ _ _=>False)) env h)(hQ:Q ae2 env2 h2)
 (hrest:∀ done,done.Perm tot→AD P N O ro more (fun ae e hh=>ae=ae2∧e=env2∧hh=h2) ((t,ebool false)::(tn,.tup [ebool false])::E done) (H done))
 (hstep:∀ done x rest,(x::done++rest).Perm tot→AD P N O ro body (AExit.thn (fun env1 h1=>SubAll N O env1 h1 (E (x::done)) (H (x::done))) (fun _ _ _=>False)) ((t,ebool true)::(tn,.tup [ebool true,.p x.1,.p x.2])::E done) ((k,.map .iter ((.mp kp tot,tt)::x::done))::H done))
 (hops:nextB ops it tn t=true:=by rfl)(hN1:Nat.blt tn N=true:=by rfl)(hN2:Nat.blt t N=true:=by rfl)
 (hE:∀ done,lk (E done) it=.mtok k:=by intro _;rfl)(hH:∀ done,hp (H done) k=.map .iter ((.mp kp tot,tt)::done):=by intro _;rfl):
 AD P N O ro (.seq (.seq first (.block bid (.loop (.seq (.region id ops false) (.seq (.cond (.tmp t) .skip (.exit bid)) body))))) more) Q env h:=by
 have hn1:tn<N:=Nat.le_of_ble_eq_true hN1
 have hn2:t<N:=Nat.le_of_ble_eq_true hN2
 have goes:Goes P N O ro (.seq (.seq first (.block bid (.loop (.seq (.region id ops false) (.seq (.cond (.tmp t) .skip (.exit bid)) body))))) more) env h ae2 env2 h2:=by
  intro Γ hc K hK
  refine AW.seq (AW.seq (h0.toAW hc fun e0 en0 hh0 hq0=>?_))
  cases e0 with
  | exit i=>exact hq0.elim
  | ret=>exact hq0.elim
  | normal=>
  show AW P Γ (.block bid _) _ _ _
  refine AW.block (AW.loop (fun n en hh=>∃ done rest,n=tot.length - done.length∧(done++rest).Perm tot∧en=E done∧hh=H done) ⟨_,_,_,hq0 Γ hc.toCtxOk,[],tot,rfl,List.Perm.refl _,rfl,rfl⟩ ?_)
  rintro n en hh ⟨done,rest,rfl,hp,rfl,rfl⟩
  refine AW.seq (AW.next hops (by rw[hc.n];exact hn1) (by rw[hc.n];exact hn2) (hE done) (hH done) (fun hd=>?_) fun x more hx=>?_)
  ·show AW P Γ (.seq (.cond (.tmp t) .skip (.exit bid)) body) _ _ _
   refine AW.seq (AW.cond (T:=([]:Tab)) (b:=false) ?_ (AW.exit ?_))
   ·show lk _ t=_
    rw[lk_cons,if_pos rfl]
   ·show(if bid=bid then _ else _)
    rw[if_pos rfl]
    exact(hrest done hd).toAW hc fun e en hh hq=>by
     obtain⟨rfl,rfl,rfl⟩:=hq
     exact hK
  ·show AW P Γ (.seq (.cond (.tmp t) .skip (.exit bid)) body) _ _ _
   refine AW.seq (AW.cond (T:=([]:Tab)) (b:=true) ?_ (AW.skip ?_))
   ·show lk _ t=_
    rw[lk_cons,if_pos rfl]
   ·show AW P Γ body _ _ _
    refine(hstep done x more hx).toAW hc fun e en hh hq=>?_
    cases e with
    | normal=>
     have hl:=hx.length_eq
     simp only[List.length_append,List.length_cons] at hl
     exact⟨tot.length - (x::done).length,_,_,by simp only[List.length_cons];omega,hq Γ hc.toCtxOk,x::done,more,rfl,hx,rfl,rfl⟩
    | exit i=>exact hq.elim
    | ret=>exact hq.elim
 exact⟨fun hl=>⟨ae2,env2,h2,hQ,hl.goes goes,goes⟩⟩
abbrev tcG(s:Spc)(n:Nd):List EV:=[.p (.ref s.cx),.p (.ref [.slice 2 []]),.p (.ref n.ecs),.loc 9003 0]
abbrev tbG(a:Nat)(P:Nat→Bool):AHp:=[(9003,.box 101 [.p (eI a),.p (.mp K3 (kset P))])]
theorem type1G(s:Spc)(n:Nd)(ts:List Bool)(a:Nat)(P:Nat→Bool)(hN:AFun Tryz.prog 40 [s.ex,eI s.preds.length] (.p (ckG s s.preds.length ts)))(hX:Exa (ckG s s.preds.length ts) [] n.ex false (kdP a P)):EFun Tryz.prog 39 (tcG s n) tb0 (.tup []) (tbG a P):=by
 have hm:(s.preds.map Prd.ex).length=s.preds.length:=List.length_map _
 unfold Exa at hX
 rw[← hm] at hN hX
 refine EFun.of hT Tryz.func39 rfl rfl (by simp) rfl (AD.run hT hmix ?_)
 intro _
 refine .pure [s.ex,_] _ rfl hN ?_
 refine .pure [.slice 2 []] _ rfl bindP ?_
 refine .pure [_,nilP,n.ex,eB false] _ rfl hX ⟨by kernel_rfl,?_⟩
 exact⟨_,[],_,rfl,.of,rfl,rfl,rfl⟩
theorem caughtG(s:Spc)(n:Nd)(a:Nat)(P:Nat→Bool)(h1:EFun Tryz.prog 39 (tcG s n) tb0 (.tup []) (tbG a P)):EFun Tryz.prog 38 [.fn (.func 39) [] (tcG s n)] tb0 (.agg [.p (eI 0),.p (eI 0)]) (tbG a P):=by
 refine EFun.introC hT Tryz.func38 rfl rfl (by simp) rfl (t3:=3) rfl rfl rfl rfl rfl caughtT_quiet ?_
 refine⟨⟨_,rfl⟩,AD.run hT hmix ?_⟩
 refine .eff tb0 (tbG a P) _ h1 ⟨rfl,trivial⟩ rfl rfl rfl rfl ?_
 exact⟨_,[.agg [.p (eI 0),.p (eI 0)]],_,rfl,.of,rfl,rfl,rfl⟩
def rowC(a c:Nat):List Int:=(List.range a).map fun i=>((dg c i:Nat):Int)
def rowsL(a:Nat)(done:List (AV×AV)):List (List Int):=done.reverse.map fun y=>rowC a (dc y)
theorem rowsL_cons(a c:Nat)(hc:c<64)(done:List (AV×AV)):rowsL a (tpe c::done)=rowsL a done++[rowC a c]:=by
 unfold rowsL
 rw[List.reverse_cons,List.map_append,List.map_singleton,dc_tpe hc]
theorem rowsL_perm(a:Nat)(P:Nat→Bool){done:List (AV×AV)}(h:done.Perm (kset P)):(rowsL a done).Perm ((canon P).map (rowC a)):=by
 have h1:(rowsL a done).Perm ((kset P).map fun y=>rowC a (dc y)):=((List.reverse_perm done).trans h).map _
 refine h1.trans (List.Perm.of_eq ?_)
 rw[kset,List.map_map]
 refine List.map_congr_left fun c hc=>?_
 show rowC a (dc (tpe c))=_
 rw[dc_tpe (mem_canon.1 hc).1]
theorem sealRows{n:Nat}(l:List (List Int))(h:l.length=n):sealE 500 (l.map ints) (.arr 1 500 0 n) (.p (.slice 1 (l.map ints))):=by
 have hall:(l.map ints).all oneA=true:=List.all_eq_true.2 fun x hx=>by
  obtain⟨r,_,rfl⟩:=List.mem_map.1 hx
  rfl
 refine .inr ⟨1,0,n,l.map ints,rfl,rfl,?_,fun e he=>?_,by rw[List.length_map,h]⟩
 ·rw[flat_ones hall,List.drop_zero,Nat.mul_one,List.take_of_length_le (by rw[List.length_map,h];exact Nat.le_refl _)]
 ·obtain⟨r,_,rfl⟩:=List.mem_map.1 he
  rfl
def typeRows(a:Nat)(P:Nat→Bool):List (List Int):=sortR ((canon P).map (rowC a))
abbrev tyE0(a:Nat)(done:List (AV×AV)):Env:=[(8,.loc 9003 0),(10,.arr 1 500 0 ((rowsL a done).map ints).length),(27,.mtok 27)]
abbrev tyH0(a:Nat)(P:Nat→Bool)(done:List (AV×AV)):AHp:=(27,.map .iter ((.mp K3 (kset P),tt)::done))::(500,.box 28 (((rowsL a done).map ints).map .p))::tbG a P
theorem typeG(s:Spc)(n:Nd)(hn:n.op<20)(a:Nat)(ha:a=1∨a=2∨a=3)(P:Nat→Bool)(h1:EFun Tryz.prog 38 [.fn (.func 39) [] (tcG s n)] tb0 (.agg [.p (eI 0),.p (eI 0)]) (tbG a P)):
 AFun Tryz.prog 14 [s.ex,.slice 2 [],n.ex] (.tup [.p (.slice 1 ((typeRows a P).map ints)),.p (eI 0)]):=by
 refine AFun.of hT Tryz.func14 rfl rfl (by simp) ?_
 refine AD.cut hT hmix 4 (fun _:Unit=>True) (fun _=>[(3,.p (.ref s.cx)),(4,.p (.ref [.slice 2 []])),(5,.p (.ref n.ecs)),(8,.loc 9003 0)]) (fun _=>tb0) ?_ fun _ _=>?_
 ·refine bgo_false (decide_eq_false (by omega)) ?_
  exact⟨(),trivial,(SubAll.sealB (env':=[(3,.p (.ref s.cx)),(4,.loc 4 0),(5,.loc 5 0),(8,.loc 8 0)]) (h':=[(4,.box 98 [.p (.slice 2 [])]),(5,.box 35 (n.ecs.map .p)),(8,.box 101 [.p (eI 0),.p (.imm (.map none))])]) 3).trans
   ((SubAll.sealB (env':=[(3,.p (.ref s.cx)),(4,.p (.ref [.slice 2 []])),(5,.loc 5 0),(8,.loc 8 0)]) (h':=[(5,.box 35 (n.ecs.map .p)),(8,.box 101 [.p (eI 0),.p (.imm (.map none))])]) 4).trans
   ((SubAll.sealB (env':=[(3,.p (.ref s.cx)),(4,.p (.ref [.slice 2 []])),(5,.p (.ref n.ecs)),(8,.loc 8 0)]) (h':=[(8,.box 101 [.p (eI 0),.p (.imm (.map none))])]) 5).trans ((SubAll.ren 9003 8).trans .of)))⟩
 refine AD.cut hT hmix 8 (fun _:Unit=>True) (fun _=>[(8,.loc 9003 0),(10,.arr 1 500 0 0)]) (fun _=>(500,.box 28 [])::tbG a P) ?_ fun _ _=>?_
 ·refine .eff tb0 (tbG a P) _ h1 ⟨rfl,trivial⟩ rfl rfl rfl rfl ?_
  exact⟨(),trivial,.vec 500⟩
 change AD _ _ _ _ (.seq (.seq _ (.block _ (.loop (.seq (.region _ _ _) (.seq (.cond _ _ _) _))))) _) _ _ _
 refine AD.mapLoopThen (it:=27) (tn:=28) (k:=27) (kp:=K3) (tot:=kset P) (tyE0 a) (tyH0 a P) .ret [(6,.p (.slice 1 ((typeRows a P).map ints))),(7,.p (eI 0))] [] (AD.run hT hmix .of) ⟨_,_,rfl,rfl,rfl⟩ (fun done hd=>?_) (fun done x rest hp=>?_)
 ·have hl:done.length≤64:=by
   rw[hd.length_eq,kset,List.length_map]
   exact canon_len P
  have hsort:=sortRowsE 500 (rowsL a done) (by simp[rowsL];omega) (fun r hr=>by
   obtain⟨y,_,rfl⟩:=List.mem_map.1 hr
   simp[rowC];omega)
  rw[sortR_congr (rowsL_perm a P hd)] at hsort
  refine AD.finSub (AD.run hT hmix ?_)
  refine .eff [(500,.box 28 (((rowsL a done).map ints).map .p))] [(500,.box 28 (((typeRows a P).map ints).map .p))] _ hsort ⟨rfl,trivial⟩ rfl rfl (okH_one _ _ _ _) rfl ?_
  have hn2:(typeRows a P).length=(rowsL a done).length:=by
   rw[typeRows,(sortR_perm _).length_eq,(rowsL_perm a P hd).length_eq]
  exact⟨[(6,.p (.slice 1 ((typeRows a P).map ints))),(7,.p (eI 0))],[],.sealB 500 (hx:=toPs_p _) (h1:=⟨⟨.inr (.inr (.inr (.inl ⟨_,_,rfl,sealRows _ (by simp[hn2])⟩))),rfl⟩,⟨.inl rfl,rfl⟩,trivial⟩),rfl,rfl,rfl⟩
 ·obtain⟨c,hc,rfl⟩:∃ c,c<64∧tpe c=x:=by
   have hx:x∈kset P:=hp.mem_iff.1 (by simp)
   obtain⟨c,hc,e⟩:=List.mem_map.1 hx
   exact⟨c,(mem_canon.1 hc).1,e⟩
  have hl:done.length+rest.length+1≤64:=by
   have:=hp.length_eq
   rw[kset,List.length_map] at this
   have:=canon_len P
   simp at *
   omega
  have hrl:((rowsL a done).map ints).length≤64:=by simp[rowsL];omega
  have d0:=dg_lt hc 0
  have d1:=dg_lt hc 1
  have d2:=dg_lt hc 2
  have hcons:=rowsL_cons a c hc done
  obtain⟨R,hR⟩:∃ R,(rowsL a done).map ints=R:=⟨_,rfl⟩
  have hcR:(rowsL a (tpe c::done)).map ints=R++[ints (rowC a c)]:=by rw[hcons,List.map_append,hR];rfl
  unfold tyE0 tyH0
  rw[hR] at hrl
  have hlR:(R++[ints (rowC a c)]).length=R.length+1:=by simp
  rw[hcR,hR,hlR]
  rcases ha with rfl | rfl | rfl
  ·refine AD.run hT hmix ?_
   refine⟨rfl,0,1,rfl,rfl,by decide,by decide,by decide,by decide,(show 0+3*1≤3 by decide),?_⟩
   intro _
   refine AD.loopI (fun i:Nat=>i≤1) (fun i=>2 - i) (fun i=>[(8,.loc 9003 0),(10,.arr 1 500 0 R.length),(12,(match i with | 0=>.full 1 [] | i+1=>.own 1 (((rowC 1 c).take (i+1)).map eI) 44)),(27,.mtok 27),(34,.arr 1 11 0 1),(35,eint .i64 1),(36,eint .i64 i)])
    (fun i=>(11,.box 112 [.p (e8 (dg c 0:Nat)),.p (e8 (dg c 1:Nat)),.p (e8 (dg c 2:Nat))])::(27,.map .iter ((.mp K3 (kset P),tt)::tpe c::done))::(500,.box 28 (R.map .p))::(match i with | 0=>tbG 1 P | i+1=>(44,.tail (i+1))::tbG 1 P)) 0 (by decide) .of fun i hi=>?_
   match i,hi with
   | 0,_=>
    refine AD.run hT hmix ?_
    refine⟨0,rfl,by decide,ngo_in (by omega) (by omega) ?_⟩
    exact⟨⟨(show(0+1)*8≤140737488355328 by decide),(show 0+1≤140737488355328 by decide)⟩,ngo_in (by decide) (by decide) ⟨1,by decide,by decide,.of⟩⟩
   | 1,_=>
    refine AD.run hT hmix ?_
    refine⟨by simp,⟨by simp;omega,by simp;omega⟩,?_⟩
    refine SubAll.trans (SubAll.of (env':=[(8,.loc 9003 0),(10,.arr 1 49 0 (R.length+1)),(27,.mtok 27)]) (h':=(27,.map .iter ((.mp K3 (kset P),tt)::tpe c::done))::(49,.box 28 ((R++[ints (rowC 1 c)]).map .p))::tbG 1 P) (h2:=?_)) ((SubAll.ren 49 500).trans .of)
    exact⟨⟨rfl,List.Perm.refl _,fun _=>rfl⟩,⟨⟨rfl,.inr ⟨by rw[List.map_append];rfl,okL_p _ _⟩⟩,⟨⟨rfl,.inr ⟨rfl,rfl⟩⟩,trivial⟩⟩⟩
  ·refine AD.run hT hmix ?_
   refine⟨rfl,0,2,rfl,rfl,by decide,by decide,by decide,by decide,(show 0+3*1≤3 by decide),?_⟩
   intro _
   refine AD.loopI (fun i:Nat=>i≤2) (fun i=>3 - i) (fun i=>[(8,.loc 9003 0),(10,.arr 1 500 0 R.length),(12,(match i with | 0=>.full 1 [] | i+1=>.own 1 (((rowC 2 c).take (i+1)).map eI) 44)),(27,.mtok 27),(34,.arr 1 11 0 2),(35,eint .i64 2),(36,eint .i64 i)])
    (fun i=>(11,.box 112 [.p (e8 (dg c 0:Nat)),.p (e8 (dg c 1:Nat)),.p (e8 (dg c 2:Nat))])::(27,.map .iter ((.mp K3 (kset P),tt)::tpe c::done))::(500,.box 28 (R.map .p))::(match i with | 0=>tbG 2 P | i+1=>(44,.tail (i+1))::tbG 2 P)) 0 (by decide) .of fun i hi=>?_
   match i,hi with
   | 0,_=>
    refine AD.run hT hmix ?_
    refine⟨0,rfl,by decide,ngo_in (by omega) (by omega) ?_⟩
    exact⟨⟨(show(0+1)*8≤140737488355328 by decide),(show 0+1≤140737488355328 by decide)⟩,ngo_in (by decide) (by decide) ⟨1,by decide,by decide,.of⟩⟩
   | 1,_=>
    refine AD.run hT hmix ?_
    refine⟨1,rfl,by decide,ngo_in (by omega) (by omega) ?_⟩
    exact⟨rfl,⟨(show(1+1)*8≤140737488355328 by decide),(show 1+1≤140737488355328 by decide)⟩,ngo_in (by decide) (by decide) ⟨2,by decide,by decide,.of⟩⟩
   | 2,_=>
    refine AD.run hT hmix ?_
    refine⟨by simp,⟨by simp;omega,by simp;omega⟩,?_⟩
    refine SubAll.trans (SubAll.of (env':=[(8,.loc 9003 0),(10,.arr 1 49 0 (R.length+1)),(27,.mtok 27)]) (h':=(27,.map .iter ((.mp K3 (kset P),tt)::tpe c::done))::(49,.box 28 ((R++[ints (rowC 2 c)]).map .p))::tbG 2 P) (h2:=?_)) ((SubAll.ren 49 500).trans .of)
    exact⟨⟨rfl,List.Perm.refl _,fun _=>rfl⟩,⟨⟨rfl,.inr ⟨by rw[List.map_append];rfl,okL_p _ _⟩⟩,⟨⟨rfl,.inr ⟨rfl,rfl⟩⟩,trivial⟩⟩⟩
  ·refine AD.run hT hmix ?_
   refine⟨rfl,0,3,rfl,rfl,by decide,by decide,by decide,by decide,(show 0+3*1≤3 by decide),?_⟩
   intro _
   refine AD.loopI (fun i:Nat=>i≤3) (fun i=>4 - i) (fun i=>[(8,.loc 9003 0),(10,.arr 1 500 0 R.length),(12,(match i with | 0=>.full 1 [] | i+1=>.own 1 (((rowC 3 c).take (i+1)).map eI) 44)),(27,.mtok 27),(34,.arr 1 11 0 3),(35,eint .i64 3),(36,eint .i64 i)])
    (fun i=>(11,.box 112 [.p (e8 (dg c 0:Nat)),.p (e8 (dg c 1:Nat)),.p (e8 (dg c 2:Nat))])::(27,.map .iter ((.mp K3 (kset P),tt)::tpe c::done))::(500,.box 28 (R.map .p))::(match i with | 0=>tbG 3 P | i+1=>(44,.tail (i+1))::tbG 3 P)) 0 (by decide) .of fun i hi=>?_
   match i,hi with
   | 0,_=>
    refine AD.run hT hmix ?_
    refine⟨0,rfl,by decide,ngo_in (by omega) (by omega) ?_⟩
    exact⟨⟨(show(0+1)*8≤140737488355328 by decide),(show 0+1≤140737488355328 by decide)⟩,ngo_in (by decide) (by decide) ⟨1,by decide,by decide,.of⟩⟩
   | 1,_=>
    refine AD.run hT hmix ?_
    refine⟨1,rfl,by decide,ngo_in (by omega) (by omega) ?_⟩
    exact⟨rfl,⟨(show(1+1)*8≤140737488355328 by decide),(show 1+1≤140737488355328 by decide)⟩,ngo_in (by decide) (by decide) ⟨2,by decide,by decide,.of⟩⟩
   | 2,_=>
    refine AD.run hT hmix ?_
    refine⟨2,rfl,by decide,ngo_in (by omega) (by omega) ?_⟩
    exact⟨rfl,⟨(show(2+1)*8≤140737488355328 by decide),(show 2+1≤140737488355328 by decide)⟩,ngo_in (by decide) (by decide) ⟨3,by decide,by decide,.of⟩⟩
   | 3,_=>
    refine AD.run hT hmix ?_
    refine⟨by simp,⟨by simp;omega,by simp;omega⟩,?_⟩
    refine SubAll.trans (SubAll.of (env':=[(8,.loc 9003 0),(10,.arr 1 49 0 (R.length+1)),(27,.mtok 27)]) (h':=(27,.map .iter ((.mp K3 (kset P),tt)::tpe c::done))::(49,.box 28 ((R++[ints (rowC 3 c)]).map .p))::tbG 3 P) (h2:=?_)) ((SubAll.ren 49 500).trans .of)
    exact⟨⟨rfl,List.Perm.refl _,fun _=>rfl⟩,⟨⟨rfl,.inr ⟨by rw[List.map_append];rfl,okL_p _ _⟩⟩,⟨⟨rfl,.inr ⟨rfl,rfl⟩⟩,trivial⟩⟩⟩
theorem sameTypes1(a b:List Int):AFun Tryz.prog 17 [.slice 1 [ints a],.slice 1 [ints b]] (.p (eB (decide (a=b)))):=by
 refine AFun.of hT Tryz.func17 rfl rfl (by simp) (AD.run hT hmix ?_)
 intro _
 intro _
 refine AD.loopI (fun i:Nat=>i≤1∧(i=1→a=b)) (fun i=>2 - i) (fun i=>[(0,.p (.slice 1 [ints a])),(1,.p (.slice 1 [ints b])),(5,eint .i64 i)]) (fun _=>[]) 0 ⟨by omega,by omega⟩ .of fun i ⟨hi,hab⟩=>?_
 match i,hi with
 | 0,_=>
  refine AD.run hT hmix ?_
  intro _
  refine⟨0,_,rfl,rfl,0,_,rfl,rfl,?_⟩
  refine .pure [ints a,ints b] _ rfl (sameInts04 a b) ⟨by kernel_rfl,?_⟩
  refine bgs (fun h1=>?_) (fun h1=>?_)
  ·have h2:decide (a=b)=false:=by simpa using h1
   exact⟨_,_,rfl,rfl,by rw[h2];rfl⟩
  ·have h2:decide (a=b)=true:=by simpa using h1
   exact ngo_in (by decide) (by decide) ⟨1,⟨by omega,fun _=>odt h2⟩,by decide,.of⟩
 | 1,_=>
  refine AD.run hT hmix ?_
  intro _
  exact⟨_,_,rfl,rfl,by rw[decide_eq_true (hab rfl)];rfl⟩
theorem sortU(s:Scope)(h:small s.atoms)(x:Int)(hx:0≤x∧x≤1000):AFun Tryz.prog 16 [s.av,eI x] (.p (eI (sortGo 0 s.atoms x))):=by
 have hl:(s.atoms.map eI).length=s.atoms.length:=List.length_map _
 have h4:=h.1
 refine AFun.of hT Tryz.func16 rfl rfl (by simp) (AD.run hT hmix ?_)
 refine bgo_false (decide_eq_false (by omega)) ?_
 intro _
 refine AD.loopI (fun z:Nat×Int=>z.1≤s.atoms.length∧0≤z.2∧z.2≤1000∧sortGo 0 s.atoms x=sortGo z.1 (s.atoms.drop z.1) z.2) (fun z=>s.atoms.length - z.1)
  (fun z=>[(1,eint .i64 z.2),(10,.p (ints s.atoms)),(11,eint .i64 (s.atoms.map eI).length),(12,eint .i64 z.1)]) (fun _=>[]) (0,x) ⟨Nat.zero_le _,hx.1,hx.2,rfl⟩ .of fun ⟨i,y⟩ ⟨hi,h1,h2,h3⟩=>AD.run hT hmix ?_
 dsimp only at hi h1 h2 h3 ⊢
 refine bgs (fun hb=>?_) (fun hb=>?_)
 ·replace hb:=odt hb
  have hlt:i<s.atoms.length:=by omega
  have hat:=h.at hlt
  have hd:sortGo i (s.atoms.drop i) y=if y<s.atoms[i] then (i:Int) else sortGo (i+1) (s.atoms.drop (i+1)) (y - s.atoms[i]):=by
   rw[List.drop_eq_getElem_cons hlt];rfl
  refine igo_map i rfl hlt ?_
  refine bgs (fun hc=>?_) (fun hc=>?_)
  ·replace hc:=odt hc
   rw[if_pos hc] at hd
   exact⟨_,_,rfl,rfl,by rw[h3,hd];rfl⟩
  ·replace hc:=of_decide_eq_false hc
   rw[if_neg hc] at hd
   refine ngo_in (by omega) (by omega) (ngo_in (by omega) (by omega) ⟨(i+1,y - s.atoms[i]),⟨by dsimp only;omega,by dsimp only;omega,by dsimp only;omega,?_⟩,by dsimp only;omega,.of⟩)
   rw[h3,hd]
   rfl
 ·replace hb:=of_decide_eq_false hb
  obtain rfl:i=s.atoms.length:=by omega
  exact⟨_,_,rfl,rfl,by rw[h3,List.drop_length];rfl⟩
set_option maxHeartbeats 1000000 in
theorem tupleU(s:Scope)(h:small s.atoms)(N:Nat)(hN:sumI s.atoms=N)(h12:N≤12)(k:Nat)(hk:1≤k∧k≤3)(r:Nat)(hr:r<N ^ k):
 AFun Tryz.prog 15 [s.av,eI k,eI r] (.p (ints (digs N k r))):=by
 have hA:AFun Tryz.prog 46 [s.av] (.p (eI N)):=hN▸atomsP s h
 have hp:=pow_most h12 hk.2
 have h0:0<N:=by
  rcases Nat.eq_zero_or_pos N with h0 | h0
  ·subst h0;rw[Nat.zero_pow (by omega)] at hr;omega
  ·exact h0
 have hw:=withinP k 0 3
 rw[decide_eq_true (show(0:Int)≤k by omega),decide_eq_true (show(k:Int)≤3 by omega)] at hw
 have hdig:∀ xs:List Int,xs.length=k→(∀ q,q<k→xs[q]?=some ((r / N ^ (k - 1 - q) % N:Nat):Int))→xs=digs N k r:=fun xs hx hq=>by
  refine List.ext_getElem? fun q=>?_
  by_cases hqk:q<k
  ·rw[hq q hqk]
   simp[digs,hqk]
  ·rw[List.getElem?_eq_none (by omega),List.getElem?_eq_none (by simp[digs];omega)]
 refine AFun.of hT Tryz.func15 rfl rfl (by simp) (AD.finSub (AD.run hT hmix ?_))
 refine .pure [eI k,eI 0,eI 3] _ rfl hw ?_
 refine .pure [s.av] _ rfl hA ?_
 refine .arr k rfl rfl (by show 8*k≤_;omega) (by omega) (ngo_in (by omega) (by omega) ?_)
 refine AD.loopI (fun x:Nat×Nat×Int×List Int=>x.1≤k∧x.2.1=r / N ^ (k - x.1)∧x.2.2.1=(x.1:Int) - 1∧x.2.2.2.length=k∧∀ q,x.1≤q→q<k→x.2.2.2[q]?=some ((r / N ^ (k - 1 - q) % N:Nat):Int)) (fun x=>x.1)
  (fun x=>[(2,eint .i64 (x.2.1:Nat)),(7,eint .i64 N),(8,.arr 1 20 0 k),(9,eint .i64 x.2.2.1)]) (fun x=>[(20,.box 3 ((x.2.2.2.map eI).map .p))])
  (k,r,k - 1,List.replicate k 0) ⟨Nat.le_refl _,by simp,rfl,by simp,fun q h1 h2=>absurd h2 (Nat.not_lt.2 h1)⟩ (.of (h2:=⟨⟨rfl,.inr ⟨rep_int _,okL_p _ _⟩⟩,trivial⟩)) fun ⟨j,m,i,xs⟩ ⟨g1,g4,g5,g2,g3⟩=>AD.run hT hmix ?_
 dsimp only at g1 g2 g3 g4 g5 ⊢
 have hmr:m≤r:=by rw[g4];exact Nat.div_le_self _ _
 refine bgs (fun hb=>?_) (fun hb=>?_)
 ·replace hb:=odt hb
  have hd:=Nat.div_le_self m N
  have hd0:(0:Int)≤((m / N:Nat):Int):=Int.natCast_nonneg _
  have hd2:m / N≤1728:=by omega
  have hd1:((m / N:Nat):Int)≤1728:=Int.ofNat_le.2 hd2
  refine bgo_false (beq_false_of_ne (by omega)) ?_
  refine⟨by omega,((m % N:Nat):Int),rfl,⟨j - 1,by omega,by omega,bgo_true (by simp[g2];exact⟨rfl,by omega⟩) ⟨by omega,((m / N:Nat):Int),wrap64_in (n:=((m / N:Nat):Int)) (Int.le_trans (by decide) hd0) (Int.le_trans hd1 (by decide)),ngo_in (by omega) (by omega) ?_⟩⟩⟩
  refine⟨(j - 1,m / N,i - 1,xs.set (j - 1) ((m % N:Nat):Int)),⟨?_,?_,?_,?_,?_⟩,?_,.of (h2:=⟨⟨rfl,.inr ⟨setSeg_eI ..,okL_p _ _⟩⟩,trivial⟩)⟩ <;> dsimp only
  ·omega
  ·rw[g4,Nat.div_div_eq_div_mul,← Nat.pow_succ];congr 2;omega
  ·omega
  ·simpa using g2
  ·intro q h1 h2
   by_cases hq:q=j - 1
   ·subst hq
    rw[List.getElem?_set_self (by omega),g4]
    congr 5;omega
   ·rw[List.getElem?_set_ne (by omega)]
    exact g3 q (by omega) h2
  ·omega
 ·replace hb:=of_decide_eq_false hb
  obtain rfl:j=0:=by omega
  have hm0:m=0:=by rw[g4,Nat.sub_zero];exact Nat.div_eq_of_lt hr
  obtain rfl:=hdig xs g2 fun q hq=>g3 q (Nat.zero_le _) hq
  refine bgo_false (decide_eq_false (by omega)) ?_
  exact⟨[(6,.p (ints (digs N k r)))],[],.sealB 20 (hx:=toPs_p _) (h1:=⟨⟨.inr (.inr (.inr (.inl ⟨_,_,rfl,.inr ⟨1,0,k,(digs N k r).map eI,rfl,rfl,by rw[flat_eI,List.drop_zero,List.take_of_length_le (by simp[g2])],cells_eI,by simp[g2]⟩⟩))),rfl⟩,trivial⟩) (h2:=trivial),_,_,rfl,rfl,rfl⟩
theorem fty_of{x:Cse}{m:Mdl}(hf:x.sp.Fit)(hf9:x.sp.Fit9 x.sc)(hm:AnyM x m):FTy x.sp m:=by
 obtain⟨h1,_,_,h4⟩:=hm
 intro st hst f h h' t ht
 obtain⟨e1,e2⟩:=h4 st hst
 have hdl:(dflt x.sc (sumI x.sc.atoms).toNat x.sp.fields).length=x.sp.fields.length:=List.length_map _
 obtain⟨e3,e4⟩:=e2 f (by rw[hdl];exact h') h
 have hd:(dflt x.sc (sumI x.sc.atoms).toNat x.sp.fields)[f]'(by rw[hdl];exact h')=⟨⟨x.sp.fields[f].sorts.length,[]⟩,fullR x.sc (sumI x.sc.atoms).toNat x.sp.fields[f]⟩:=by simp[dflt]
 rw[hd] at e4
 rw[h1]
 exact full_scode (scopeOk hf9).sum (e4.subset ht)
theorem row_in{s:Spc}{m:Mdl}(hm:MOk s m)(h4:s.sorts.length≤4){N:Nat}(hN:m.n=N){a:Nat}(ha:1≤a∧a≤3){P:Nat→Bool}{t:Nat}(h:P (scode m.scope a t)=true):(digs N a t).map (sortGo 0 m.scope.atoms)∈typeRows a P:=by
 obtain⟨c1,c2⟩:=scode_dg hm h4 ha (t:Int)
 refine(sortR_perm _).mem_iff.2 (List.mem_map.2 ⟨_,mem_canon.2 ⟨c1,h⟩,?_⟩)
 refine List.ext_getElem (by simp[rowC,digs]) fun i h1 h2=>?_
 have hi:i<a:=by simpa[rowC] using h1
 simp only[rowC,digs,List.getElem_map,List.getElem_range]
 rw[c2 i hi]
 have e:dig m.n t (a - 1 - i)=((t / N ^ (a - 1 - i) % N:Nat):Int):=by
  unfold dig
  rw[hN]
  simp
 obtain⟨d0,d1⟩:=dig_rng hm.pos (t:Int) (a - 1 - i)
 rw[← e]
 have:=sortGo_rng m.scope.atoms 0 _ hm.at1 d0 d1
 unfold sn
 omega
theorem one_slice(l:List (List Int)){k:Nat}(hk:k<l.length):((l.map ints).drop k).take (k+1 - k)=[ints l[k]]:=by
 rw[Nat.add_sub_cancel_left,List.drop_eq_getElem_cons (by simpa using hk),List.take_succ_cons,List.take_zero,List.getElem_map]
set_option maxHeartbeats 4000000 in
theorem typeSound_any(x:Cse)(n:Nd)(state:Int)(hfew:x.sp.Few)(hsz:n.sz+1≤1048576)(hlp:0≤x.loop∧x.loop<256)(hstt:0≤state∧state<256)(hHead:AFun Tryz.prog 5 [] (.p (eB true))):
 AFun Tryz.prog 4 [x.av,n.ex,eU8 state] (.p (eB true)):=by
 obtain⟨y,⟨m,b,rfl,hb⟩,c1⟩:=madeR14P x n hfew hsz hlp
 cases b with
 | false=>exact AFun.of hT Tryz.func4 rfl rfl (by simp) (AD.run hT hmix (.pure [] _ rfl hHead (.pure [x.av,n.ex] _ rfl c1 ⟨_,_,rfl,rfl,rfl⟩)))
 | true=>
 obtain⟨hcall,hu⟩:=hb rfl
 have hfit:x.sp.Fit:=hu.fit
 have hfit9:x.sp.Fit9 x.sc:=hu.fit9
 have hany:AnyM x m:=⟨hu.any.scope,hu.any.len,hu.any.loop,hu.any.st⟩
 obtain⟨hm,hsm,hl4⟩:=mok_of (x:=x) hfit hfit9 hany
 have hf:=fty_of hfit hfit9 hany
 have hscope:m.scope=x.sc:=hu.any.scope
 obtain⟨hw,hop,a,hty⟩:=tree_of hu
 by_cases hop2:n.op<20
 case neg=>exact AFun.of hT Tryz.func4 rfl rfl (by simp) (AD.run hT hmix (.pure [] _ rfl hHead (.pure [x.av,n.ex] _ rfl c1 (bgo_true (decide_eq_true (by omega)) ⟨_,_,rfl,rfl,rfl⟩))))
 have hR:=wf_low hw hop2
 have hNT:NoT false n:=by
  obtain⟨_,a',_,hnt,_⟩:=hu.form
  have hnt:NoT false (someN n):=hnt
  rw[someN,if_pos hop2] at hnt
  cases hnt with
  | mk _ hk=>exact hk (by show(34:Int)≠47;decide) n (by simp[Nd.kids])
 have hnm:∀ y∈x.sp.sorts,y.name.size≤1048576:=hfew.nm
 obtain⟨ts,hNC⟩:=newCheckerG x.sp (by have:=hfit.n3;omega) fun p hp=>(hfit.prd p hp).2
 obtain⟨u,v,hX,hS⟩:=tsound hm hf hfit.n1 hfit.n2 hnm x.sp.preds.length ts n hw hcall [] [] false a ⟨rfl,fun x hx=>by cases hx⟩ hty hNT
 obtain⟨⟨an,P⟩,ea,hav,hsnd⟩:=hS hR
 rw[hav] at hX
 have ea:(an:Int)=a:=ea
 have hO:=ev_ok hm n hw hcall [] 0 a hty (by omega) (by have:=hm.ne;omega) (by simp) hR
 have han:1≤an∧an≤3:=by have:=hO.1.a;rw[hO.2] at this;omega
 have hT1:=type1G x.sp n ts an P hNC hX
 have hTy:=typeG x.sp n hop2 an (by omega) P (caughtG x.sp n an P hT1)
 have hn6:=hfit.n2
 have hJ:JP m.n:=joinP hm.pos hm.n12
 have hsl:(m.states.map fun l=>AV.slice 2 (l.map Rl.av)).length=m.states.length:=List.length_map _
 obtain⟨st,hst⟩:∃ st:Nat,state.tmod (m.states.length:Nat)=st∧st<m.states.length:=rem_nat hstt.1 hm.ne
 have hE:=eval_ev hm (by omega) hJ (nameNP hm hsm (by omega) hnm) n hw hcall [] st a hty (by omega) (by omega) (by simp) (by simp;omega)
 have hO2:=ev_ok hm n hw hcall [] st a hty (by omega) (by omega) (by simp) hR
 have hsn:=hsnd st [] (by omega) (by omega) (by simp) rfl trivial
 have hR1:=hE.r hR
 obtain⟨r,hr⟩:∃ r,(ev x.sp m n st []).r=r:=⟨_,rfl⟩
 rw[hr] at hR1 hO2 hsn
 obtain⟨N,hN⟩:∃ N:Nat,m.n=N:=⟨m.n.toNat,by have:=hm.pos;omega⟩
 have hra:r.arity=an:=by rw[hO2.2,ea]
 have hN12:N≤12:=by have:=hm.n12;omega
 have hNs:sumI x.sc.atoms=N:=by rw[← hscope];exact hN
 have hsmx:small x.sc.atoms:=hscope▸hsm
 have hrows:∀ t∈r.tuples,∃ tn:Nat,t=tn∧tn<N ^ an∧(digs N an tn).map (sortGo 0 x.sc.atoms)∈typeRows an P:=fun t ht=>by
  have h1:=hO2.1.rng t ht
  rw[hra,Int.toNat_natCast,hN] at h1
  obtain⟨tn,rfl⟩:=Int.eq_ofNat_of_zero_le h1.1
  refine⟨tn,rfl,by exact_mod_cast h1.2,?_⟩
  have:=row_in hm hfit.n1 hN han (hsn tn ht)
  rwa [hscope] at this
 have hrl:r.tuples.length≤2000:=ok_len hm.pos hm.n12 hO2.1
 obtain⟨rows,hrw⟩:∃ rows,typeRows an P=rows:=⟨_,rfl⟩
 have hrwl:rows.length≤64:=by
  rw[← hrw,typeRows,(sortR_perm _).length_eq,List.length_map]
  exact canon_len P
 rw[hrw] at hTy hrows
 have hrwm:(rows.map ints).length=rows.length:=List.length_map _
 have hrtm:(r.tuples.map eI).length=r.tuples.length:=List.length_map _
 refine AFun.of hT Tryz.func4 rfl rfl (by simp) (AD.cut hT hmix 9 (fun _:Unit=>True) (fun _=>[(3,.loc 3 0),(7,.p (eB true)),(10,.p (.slice 1 (rows.map ints))),(12,.loc 12 0)])
  (fun _=>[(3,.box 38 (x.cs.map .p)),(12,.box 50 [.p (eI r.arity),.p (ints r.tuples)])]) ?_ fun _ _=>AD.run hT hmix ?_)
 ·refine .pure [] _ rfl hHead (.pure [x.av,n.ex] _ rfl c1 ?_)
  refine bgo_false (decide_eq_false (by omega)) ?_
  refine .pure [x.sp.ex,.slice 2 [],n.ex] _ rfl hTy (ngo_in (by omega) (by omega) ?_)
  intro _
  rw[hsl]
  refine⟨by omega,(st:Int),hst.1,.pure [x.sp.ex,m.av,eI st,.slice 2 [],n.ex] _ rfl (exprP hsm hR1) ⟨by kernel_rfl,?_⟩⟩
  intro _
  refine bgs (fun h0=>?_) (fun h0=>⟨(),trivial,.of⟩)
  have h00:rows=[]:=by
   have:=eq_of_beq h0
   exact List.eq_nil_of_length_eq_zero (by omega)
  have hr0:r.tuples=[]:=by
   cases hq:r.tuples with
   | nil=>rfl
   | cons t l=>
    obtain⟨tn,_,_,h3⟩:=hrows t (by rw[hq];exact List.mem_cons_self ..)
    rw[h00] at h3;cases h3
  intro _
  refine bgo_false (decide_eq_false (by rw[hrtm,hr0];decide)) ⟨(),trivial,.of⟩
 refine AD.loopI (fun i:Nat=>i≤r.tuples.length) (fun i=>r.tuples.length - i) (fun i=>[(3,.loc 3 0),(7,.p (eB true)),(10,.p (.slice 1 (rows.map ints))),(12,.loc 12 0),(14,eint .i64 i)])
  (fun _=>[(3,.box 38 (x.cs.map .p)),(12,.box 50 [.p (eI r.arity),.p (ints r.tuples)])]) 0 (Nat.zero_le _) .of fun i hi=>AD.run hT hmix ?_
 intro _
 refine bgs (fun h1=>?_) (fun h1=>⟨_,_,rfl,rfl,rfl⟩)
 replace h1:=odt h1
 have hlt:i<r.tuples.length:=by omega
 obtain⟨tn,htn,htl,hin⟩:=hrows _ (List.getElem_mem hlt)
 refine igo_map i rfl hlt ?_
 rw[htn]
 have hTu:=tupleU x.sc hsmx N hNs hN12 an han tn htl
 rw[← hra] at hTu
 refine .pure [x.sc.av,eI r.arity,eI tn] _ rfl hTu ⟨by kernel_rfl,?_⟩
 obtain⟨ds,hds⟩:∃ ds,digs N an tn=ds:=⟨_,rfl⟩
 have hdl:ds.length=an:=by rw[← hds];simp[digs]
 have hdr:∀ d∈ds,0≤d∧d≤1000:=by
  rw[← hds]
  exact digs_small (by have:=hm.pos;omega) hN12
 rw[hds] at hin ⊢
 have hdm:(ds.map eI).length=ds.length:=List.length_map _
 refine AD.loopI (fun z:Nat×List Int=>z.1≤ds.length∧z.2=(ds.take z.1).map (sortGo 0 x.sc.atoms)) (fun z=>ds.length - z.1) (fun z=>[(3,.loc 3 0),(7,.p (eB true)),(10,.p (.slice 1 (rows.map ints))),(12,.loc 12 0),(14,eint .i64 i),(15,.p (ints ds)),(16,.own 1 (z.2.map eI) 105),(17,eint .i64 z.1)])
  (fun z=>[(3,.box 38 (x.cs.map .p)),(12,.box 50 [.p (eI r.arity),.p (ints r.tuples)]),(105,.tail (z.2.map eI).length)]) (0,[]) ⟨Nat.zero_le _,by simp⟩ .of fun ⟨k,es⟩ ⟨g1,g2⟩=>AD.run hT hmix ?_
 dsimp only at g1 g2 ⊢
 intro _
 refine bgs (fun h2=>?_) (fun h2=>?_)
 ·replace h2:=odt h2
  have hk:k<ds.length:=by omega
  have hel:es.length≤3:=by rw[g2,List.length_map,List.length_take];omega
  refine igo_map k rfl hk ?_
  refine .pure [x.sc.av,eI ds[k]] _ rfl (sortU x.sc hsmx ds[k] (hdr _ (List.getElem_mem hk))) ?_
  refine⟨rfl,⟨by simp;omega,by simp;omega⟩,by kernel_rfl,ngo_in (by omega) (by omega) ⟨(k+1,es++[sortGo 0 x.sc.atoms ds[k]]),⟨by dsimp only;omega,by dsimp only;rw[List.take_succ_eq_append_getElem hk,List.map_append,g2];rfl⟩,by dsimp only;omega,?_⟩⟩
  dsimp only
  rw[List.map_append]
  exact .of
 ·replace h2:=of_decide_eq_false h2
  obtain rfl:k=ds.length:=by omega
  rw[List.take_length] at g2
  rw[← g2] at hin
  refine AD.loopI (fun z:Nat×Bool=>z.1≤rows.length∧(es∈rows.take z.1→z.2=true)) (fun z=>rows.length - z.1) (fun z=>[(3,.loc 3 0),(7,.p (eB true)),(10,.p (.slice 1 (rows.map ints))),(12,.loc 12 0),(14,eint .i64 i),(16,.p (ints es)),(18,.p (eB z.2)),(19,eint .i64 z.1)])
   (fun z=>[(3,.box 38 (x.cs.map .p)),(12,.box 50 [.p (eI r.arity),.p (ints r.tuples)])]) (0,false) ⟨Nat.zero_le _,by simp⟩ .of fun ⟨k,b⟩ ⟨f1,f2⟩=>AD.run hT hmix ?_
  dsimp only at f1 f2 ⊢
  intro _
  refine bgs (fun h3=>?_) (fun h3=>?_)
  ·replace h3:=odt h3
   have hk:k<rows.length:=by omega
   cases b with
   | true=>exact ngo_in (by omega) (by omega) ⟨(k+1,true),⟨by dsimp only;omega,fun _=>rfl⟩,by dsimp only;omega,.of⟩
   | false=>
    refine ngo_in (by omega) (by omega) ?_
    refine⟨k,k+1,rfl,rfl,by omega,by omega,?_⟩
    rw[one_slice rows hk]
    refine .pure [.slice 1 [ints es],.slice 1 [ints rows[k]]] _ rfl (sameTypes1 es rows[k]) ?_
    refine ngo_in (by omega) (by omega) ⟨(k+1,decide (es=rows[k])),⟨by dsimp only;omega,fun hm2=>?_⟩,by dsimp only;omega,.of⟩
    rw[List.take_succ_eq_append_getElem hk,List.mem_append,List.mem_singleton] at hm2
    rcases hm2 with hm2 | hm2
    ·exact absurd (f2 hm2) Bool.false_ne_true
    ·exact decide_eq_true hm2
  ·replace h3:=of_decide_eq_false h3
   obtain rfl:k=rows.length:=by omega
   rw[List.take_length] at f2
   obtain rfl:=f2 hin
   exact ngo_in (by omega) (by omega) ⟨i+1,by omega,by omega,.of⟩
end Go.Ab
