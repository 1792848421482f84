/- Texts PK, PN2, PN3, PI, PL, PM, WA4, WA5, WA6, WA7, WA8, WA9, WB1, PQ, W4. Conditions: none. -/
import Derived.Test.YtmllhjbnbhapoaaGreatGJ
import Derived.Test.YtmllhjbnbhapoaaGreatGH
import Derived.Test.YtmllhjbnbhapoaaGreatGF
set_option linter.unusedSimpArgs false
set_option linter.unusedVariables false
namespace Go.Ab
open Go Go.Proofs
def NP(s:Spc)(m:Mdl):Prop:=∀ (k:Nd) (st:Int) (env:List (ByteArray×Int)) (a:Int),k.op=1→0≤st→st<m.states.length→(∀ x∈env,0≤x.2∧x.2<m.n)→env.length≤5000000→NameTy s (tyE env) k.name a→CX s m k st env (nameVal s m st env k.name)
structure Evs(s:Spc)(m:Mdl)(n:Nd)(st:Int)(env:List (ByteArray×Int))(v:Val):Prop where
 r:n.isR→CX s m n st env v.r
 i:n.isI→CN s m n st env v.i
 b:n.isF→CF s m n st env v.b
theorem eval_ev{s:Spc}{m:Mdl}(hm:MOk s m)(hl:m.states.length≤100)(hJ:JP m.n)(hN:NP s m)(n:Nd):n.WF→n.hasCall=false→∀ (env:List (ByteArray×Int)) (st a:Int),Ty s (tyE env) n a→0≤st→st<m.states.length→(∀ x∈env,0≤x.2∧x.2<m.n)→env.length+n.sz≤5000000→Evs s m n st env (ev s m n st env):=by
 induction n using Nd.ind with
 | h n ih=>
  intro hw hc env st a ht s0 s1 he hsz
  have hno:=nc_op hc
  have hp:=hm.pos
  have h12:=hm.n12
  have K:∀ {k},k∈n.kids→k.WF→∀ (st a:Int),Ty s (tyE env) k a→0≤st→st<m.states.length→Evs s m k st env (ev s m k st env):=fun {k} hk w st a t u0 u1=>ih k hk w (nc_kid hc hk) env st a t u0 u1 he (by have:=Nd.sz_kid hk;omega)
  have O:∀ {k},k∈n.kids→k.WF→k.isR→∀ {a},Ty s (tyE env) k a→(ev s m k st env).r.Ok m.n∧(ev s m k st env).r.arity=a:=fun {k} hk w r {a} t=>ev_ok hm k w (nc_kid hc hk) env st a t s0 s1 he r
  obtain⟨n0,n1⟩:=nextSt_ok hm s0 s1
  have hse:env.length≤5000000:=by omega
  have Q:∀ {k0 k1 b},n.kids=[k0,k1]→k0.WF→k0.isR→k1.WF→k1.isF→Ty s (tyE env) k0 1→Ty s (tyE env++[(n.name,1)]) k1 b→∀ x∈(ev s m k0 st env).r.tuples,CF s m k1 st (env++[(n.name,x)]) (ev s m k1 st (env++[(n.name,x)])).b:=fun {k0 k1 b} hk w0 r0 w1 f1 t0 t1 x hx=>by
   have m0:k0∈n.kids:=by rw[hk];simp
   have m1:k1∈n.kids:=by rw[hk];simp
   obtain⟨o,oa⟩:=O m0 w0 r0 t0
   have hr:=o.rng x hx
   rw[oa] at hr
   have h2:x<m.n ^ 1:=hr.2
   rw[Int.pow_succ,Int.pow_zero] at h2
   refine(ih k1 m1 w1 (nc_kid hc m1) (env++[(n.name,x)]) st b (by rw[tyE_snoc];exact t1) s0 s1 (fun y hy=>?_) ?_).b f1
   ·rcases List.mem_append.1 hy with hy | hy
    ·exact he y hy
    ·obtain rfl:=List.mem_singleton.1 hy;exact⟨hr.1,by show x<m.n;omega⟩
   ·have:=Nd.sz_kid m1
    rw[List.length_append,List.length_singleton];omega
  have hop:=WF_op hw
  have hcase:n.op=1∨n.op=2∨n.op=3∨n.op=4∨n.op=5∨n.op=6∨n.op=7∨n.op=8∨n.op=9∨n.op=10∨n.op=11∨n.op=12∨n.op=13∨n.op=14∨n.op=15∨n.op=20∨n.op=21∨n.op=22∨n.op=23∨n.op=30∨n.op=31∨n.op=32∨n.op=33∨n.op=34∨n.op=35∨n.op=36∨n.op=37∨n.op=38∨n.op=39∨n.op=40∨n.op=41∨n.op=42∨n.op=43∨n.op=44∨n.op=45∨n.op=46∨n.op=48∨n.op=49∨n.op=50∨n.op=51:=by
   unfold Nd.isR Nd.isI Nd.isF at hop
   obtain⟨⟨⟨s',h1,_,_⟩,_⟩,_⟩:=(Nd.WF_iff n).1 hw
   unfold shapeOf at h1
   simp only[List.mem_cons,List.not_mem_nil,or_false] at h1
   repeat' split at h1
   all_goals first | omega | cases h1
  rcases hcase with h | h | h | h | h | h | h | h | h | h | h | h | h | h | h | h | h | h | h | h | h | h | h | h | h | h | h | h | h | h | h | h | h | h | h | h | h | h | h | h
  ·rw[ev_1 h]
   exact⟨fun _=>hN n st env a h s0 s1 he hse (ht.inv_name h),fun h=>by unfold Nd.isI at h;omega,fun h=>by unfold Nd.isF at h;omega⟩
  ·rw[ev_2 h]
   exact⟨fun _=>ex_2 h,fun h=>by unfold Nd.isI at h;omega,fun h=>by unfold Nd.isF at h;omega⟩
  ·rw[ev_3 h]
   exact⟨fun _=>ex_3 hp h12 h,fun h=>by unfold Nd.isI at h;omega,fun h=>by unfold Nd.isF at h;omega⟩
  ·rw[ev_4 h]
   exact⟨fun _=>ex_4 hp h12 h,fun h=>by unfold Nd.isI at h;omega,fun h=>by unfold Nd.isF at h;omega⟩
  ·obtain⟨k0,hk,w0,r0⟩:=wf_e hw (by omega)
   obtain⟨a0,t0,ha⟩:=ht.inv_1 (by omega) hk
   have m0:k0∈n.kids:=by rw[hk];simp
   have c0:=(K m0 w0 _ a0 t0 n0 n1).r r0
   rw[ev_5 h hk]
   exact⟨fun _=>ex_5 h (primeM hp h12 ⟨s0,by omega⟩ hk c0),fun h=>by unfold Nd.isI at h;omega,fun h=>by unfold Nd.isF at h;omega⟩
  ·obtain⟨k0,k1,hk,⟨w0,r0⟩,w1,r1⟩:=wf_ee hw (by omega)
   obtain⟨a0,a1,t0,t1,ha⟩:=ht.inv_2 (by omega) hk
   have m0:k0∈n.kids:=by rw[hk];simp
   have m1:k1∈n.kids:=by rw[hk];simp
   obtain⟨o0,e0⟩:=O m0 w0 r0 t0
   have c0:=(K m0 w0 st a0 t0 s0 s1).r r0
   obtain⟨o1,e1⟩:=O m1 w1 r1 t1
   have c1:=(K m1 w1 st a1 t1 s0 s1).r r1
   have e:=ha.2.2.2.2.1 (by omega)
   simp only[List.cons.injEq,and_true] at e
   rw[ev_6 h hk]
   exact⟨fun _=>ex_6 h (unionM hp h12 hk c0 c1 (by omega) o0 o1),fun h=>by unfold Nd.isI at h;omega,fun h=>by unfold Nd.isF at h;omega⟩
  ·obtain⟨k0,k1,hk,⟨w0,r0⟩,w1,r1⟩:=wf_ee hw (by omega)
   obtain⟨a0,a1,t0,t1,ha⟩:=ht.inv_2 (by omega) hk
   have m0:k0∈n.kids:=by rw[hk];simp
   have m1:k1∈n.kids:=by rw[hk];simp
   obtain⟨o0,e0⟩:=O m0 w0 r0 t0
   have c0:=(K m0 w0 st a0 t0 s0 s1).r r0
   obtain⟨o1,e1⟩:=O m1 w1 r1 t1
   have c1:=(K m1 w1 st a1 t1 s0 s1).r r1
   have e:=ha.2.2.2.2.1 (by omega)
   simp only[List.cons.injEq,and_true] at e
   rw[ev_7 h hk]
   exact⟨fun _=>ex_7 h (interM hp h12 hk c0 c1 (by omega) o0 o1),fun h=>by unfold Nd.isI at h;omega,fun h=>by unfold Nd.isF at h;omega⟩
  ·obtain⟨k0,k1,hk,⟨w0,r0⟩,w1,r1⟩:=wf_ee hw (by omega)
   obtain⟨a0,a1,t0,t1,ha⟩:=ht.inv_2 (by omega) hk
   have m0:k0∈n.kids:=by rw[hk];simp
   have m1:k1∈n.kids:=by rw[hk];simp
   obtain⟨o0,e0⟩:=O m0 w0 r0 t0
   have c0:=(K m0 w0 st a0 t0 s0 s1).r r0
   obtain⟨o1,e1⟩:=O m1 w1 r1 t1
   have c1:=(K m1 w1 st a1 t1 s0 s1).r r1
   have e:=ha.2.2.2.2.1 (by omega)
   simp only[List.cons.injEq,and_true] at e
   rw[ev_8 h hk]
   exact⟨fun _=>ex_8 h (diffM hp h12 hk c0 c1 (by omega) o0 o1),fun h=>by unfold Nd.isI at h;omega,fun h=>by unfold Nd.isF at h;omega⟩
  ·obtain⟨k0,k1,hk,⟨w0,r0⟩,w1,r1⟩:=wf_ee hw (by omega)
   obtain⟨a0,a1,t0,t1,ha⟩:=ht.inv_2 (by omega) hk
   have m0:k0∈n.kids:=by rw[hk];simp
   have m1:k1∈n.kids:=by rw[hk];simp
   obtain⟨o0,e0⟩:=O m0 w0 r0 t0
   have c0:=(K m0 w0 st a0 t0 s0 s1).r r0
   obtain⟨o1,e1⟩:=O m1 w1 r1 t1
   have c1:=(K m1 w1 st a1 t1 s0 s1).r r1
   obtain⟨b,c,e,e2,e3,e4⟩:=ha.2.2.2.2.2.2.1 (by omega)
   simp only[List.cons.injEq,and_true] at e
   rw[ev_9 h hk]
   exact⟨fun _=>ex_9 h (joinM hp h12 hJ hk c0 c1 o0 o1 (by omega) (by omega)),fun h=>by unfold Nd.isI at h;omega,fun h=>by unfold Nd.isF at h;omega⟩
  ·obtain⟨k0,k1,hk,⟨w0,r0⟩,w1,r1⟩:=wf_ee hw (by omega)
   obtain⟨a0,a1,t0,t1,ha⟩:=ht.inv_2 (by omega) hk
   have m0:k0∈n.kids:=by rw[hk];simp
   have m1:k1∈n.kids:=by rw[hk];simp
   obtain⟨o0,e0⟩:=O m0 w0 r0 t0
   have c0:=(K m0 w0 st a0 t0 s0 s1).r r0
   obtain⟨o1,e1⟩:=O m1 w1 r1 t1
   have c1:=(K m1 w1 st a1 t1 s0 s1).r r1
   obtain⟨b,c,e,e2,e3⟩:=ha.2.2.2.2.2.2.2.1 (by omega)
   simp only[List.cons.injEq,and_true] at e
   rw[ev_10 h hk]
   exact⟨fun _=>ex_10 h (prodM hp h12 hk c0 c1 o0 o1 (by omega)),fun h=>by unfold Nd.isI at h;omega,fun h=>by unfold Nd.isF at h;omega⟩
  ·obtain⟨k0,hk,w0,r0⟩:=wf_e hw (by omega)
   obtain⟨a0,t0,ha⟩:=ht.inv_1 (by omega) hk
   have m0:k0∈n.kids:=by rw[hk];simp
   obtain⟨o0,e0⟩:=O m0 w0 r0 t0
   have c0:=(K m0 w0 st a0 t0 s0 s1).r r0
   obtain⟨e,_⟩:=ha.2.2.2.2.2.2.2.2 (by omega)
   simp only[List.cons.injEq,and_true] at e
   rw[ev_11 h hk]
   exact⟨fun _=>ex_11 h (transM hp h12 hk c0 (by omega) o0),fun h=>by unfold Nd.isI at h;omega,fun h=>by unfold Nd.isF at h;omega⟩
  ·obtain⟨k0,hk,w0,r0⟩:=wf_e hw (by omega)
   obtain⟨a0,t0,ha⟩:=ht.inv_1 (by omega) hk
   have m0:k0∈n.kids:=by rw[hk];simp
   obtain⟨o0,e0⟩:=O m0 w0 r0 t0
   have c0:=(K m0 w0 st a0 t0 s0 s1).r r0
   obtain⟨e,_⟩:=ha.2.2.2.2.2.2.2.2 (by omega)
   simp only[List.cons.injEq,and_true] at e
   rw[ev_12 h hk]
   exact⟨fun _=>ex_12 h (closM hp h12 hJ hk c0 (by omega) o0),fun h=>by unfold Nd.isI at h;omega,fun h=>by unfold Nd.isF at h;omega⟩
  ·obtain⟨k0,hk,w0,r0⟩:=wf_e hw (by omega)
   obtain⟨a0,t0,ha⟩:=ht.inv_1 (by omega) hk
   have m0:k0∈n.kids:=by rw[hk];simp
   obtain⟨o0,e0⟩:=O m0 w0 r0 t0
   have c0:=(K m0 w0 st a0 t0 s0 s1).r r0
   obtain⟨e,_⟩:=ha.2.2.2.2.2.2.2.2 (by omega)
   simp only[List.cons.injEq,and_true] at e
   rw[ev_13 h hk]
   exact⟨fun _=>ex_13 h (reflM hp h12 hJ hk c0 (by omega) o0),fun h=>by unfold Nd.isI at h;omega,fun h=>by unfold Nd.isF at h;omega⟩
  ·obtain⟨k0,k1,hk,⟨w0,r0⟩,w1,r1⟩:=wf_ee hw (by omega)
   obtain⟨a0,a1,t0,t1,ha⟩:=ht.inv_2 (by omega) hk
   have m0:k0∈n.kids:=by rw[hk];simp
   have m1:k1∈n.kids:=by rw[hk];simp
   obtain⟨o0,e0⟩:=O m0 w0 r0 t0
   have c0:=(K m0 w0 st a0 t0 s0 s1).r r0
   obtain⟨o1,e1⟩:=O m1 w1 r1 t1
   have c1:=(K m1 w1 st a1 t1 s0 s1).r r1
   have e:=ha.2.2.2.2.1 (by omega)
   simp only[List.cons.injEq,and_true] at e
   rw[ev_14 h hk]
   exact⟨fun _=>ex_14 h (overM hp h12 hk c0 c1 (by omega) o0 o1),fun h=>by unfold Nd.isI at h;omega,fun h=>by unfold Nd.isF at h;omega⟩
  ·obtain⟨k0,k1,hk,⟨w0,r0⟩,w1,r1⟩:=wf_ef hw (by omega)
   obtain⟨_,t0,b,t1⟩:=ht.inv_bind (by omega) hk
   have m0:k0∈n.kids:=by rw[hk];simp
   have q:=Q hk w0 r0 w1 r1 t0 t1
   obtain⟨o0,e0⟩:=O m0 w0 r0 t0
   have c0:=(K m0 w0 st 1 t0 s0 s1).r r0
   rw[ev_15 h hk]
   exact⟨fun _=>ex_15 h (comprP hk hse (ok_len hp h12 o0) c0 e0 (fun x=>(ev s m k1 st (env++[(n.name,x)])).b) q),fun h=>by unfold Nd.isI at h;omega,fun h=>by unfold Nd.isF at h;omega⟩
  ·rw[ev_20 h]
   exact⟨fun h=>by unfold Nd.isR at h;omega,fun _=>numLit h st env,fun h=>by unfold Nd.isF at h;omega⟩
  ·obtain⟨k0,hk,w0,r0⟩:=wf_e hw (by omega)
   obtain⟨a0,t0,ha⟩:=ht.inv_1 (by omega) hk
   have m0:k0∈n.kids:=by rw[hk];simp
   obtain⟨o0,e0⟩:=O m0 w0 r0 t0
   have c0:=(K m0 w0 st a0 t0 s0 s1).r r0
   rw[ev_21 h hk]
   exact⟨fun h=>by unfold Nd.isR at h;omega,fun _=>numCard h hk c0,fun h=>by unfold Nd.isF at h;omega⟩
  ·obtain⟨k0,k1,hk,⟨w0,r0⟩,w1,r1⟩:=wf_ii hw (by omega)
   obtain⟨a0,a1,t0,t1,ha⟩:=ht.inv_2 (by omega) hk
   have m0:k0∈n.kids:=by rw[hk];simp
   have m1:k1∈n.kids:=by rw[hk];simp
   have c0:=(K m0 w0 st a0 t0 s0 s1).i r0
   have c1:=(K m1 w1 st a1 t1 s0 s1).i r1
   rw[ev_22 h hk]
   exact⟨fun h=>by unfold Nd.isR at h;omega,fun _=>numAdd h hk c0 c1,fun h=>by unfold Nd.isF at h;omega⟩
  ·obtain⟨k0,k1,hk,⟨w0,r0⟩,w1,r1⟩:=wf_ii hw (by omega)
   obtain⟨a0,a1,t0,t1,ha⟩:=ht.inv_2 (by omega) hk
   have m0:k0∈n.kids:=by rw[hk];simp
   have m1:k1∈n.kids:=by rw[hk];simp
   have c0:=(K m0 w0 st a0 t0 s0 s1).i r0
   have c1:=(K m1 w1 st a1 t1 s0 s1).i r1
   rw[ev_23 h hk]
   exact⟨fun h=>by unfold Nd.isR at h;omega,fun _=>numSub h hk c0 c1,fun h=>by unfold Nd.isF at h;omega⟩
  ·rw[ev_30 h]
   exact⟨fun h=>by unfold Nd.isR at h;omega,fun h=>by unfold Nd.isI at h;omega,fun _=>fm_30 h⟩
  ·rw[ev_31 h]
   exact⟨fun h=>by unfold Nd.isR at h;omega,fun h=>by unfold Nd.isI at h;omega,fun _=>fm_31 h⟩
  ·obtain⟨k0,k1,hk,⟨w0,r0⟩,w1,r1⟩:=wf_ee hw (by omega)
   obtain⟨a0,a1,t0,t1,ha⟩:=ht.inv_2 (by omega) hk
   have m0:k0∈n.kids:=by rw[hk];simp
   have m1:k1∈n.kids:=by rw[hk];simp
   obtain⟨o0,e0⟩:=O m0 w0 r0 t0
   have c0:=(K m0 w0 st a0 t0 s0 s1).r r0
   obtain⟨o1,e1⟩:=O m1 w1 r1 t1
   have c1:=(K m1 w1 st a1 t1 s0 s1).r r1
   obtain⟨b,e⟩:=ha.2.2.2.2.2.1 (by omega)
   simp only[List.cons.injEq,and_true] at e
   rw[ev_32 h hk]
   exact⟨fun h=>by unfold Nd.isR at h;omega,fun h=>by unfold Nd.isI at h;omega,fun _=>fm_32 h hk c0 c1 (by omega) (ok_1e9 hp h12 o0)⟩
  ·obtain⟨k0,k1,hk,⟨w0,r0⟩,w1,r1⟩:=wf_ee hw (by omega)
   obtain⟨a0,a1,t0,t1,ha⟩:=ht.inv_2 (by omega) hk
   have m0:k0∈n.kids:=by rw[hk];simp
   have m1:k1∈n.kids:=by rw[hk];simp
   obtain⟨o0,e0⟩:=O m0 w0 r0 t0
   have c0:=(K m0 w0 st a0 t0 s0 s1).r r0
   obtain⟨o1,e1⟩:=O m1 w1 r1 t1
   have c1:=(K m1 w1 st a1 t1 s0 s1).r r1
   obtain⟨b,e⟩:=ha.2.2.2.2.2.1 (by omega)
   simp only[List.cons.injEq,and_true] at e
   rw[ev_33 h hk]
   exact⟨fun h=>by unfold Nd.isR at h;omega,fun h=>by unfold Nd.isI at h;omega,fun _=>fm_33 h hk c0 c1 (by omega)⟩
  ·obtain⟨k0,hk,w0,r0⟩:=wf_e hw (by omega)
   obtain⟨a0,t0,ha⟩:=ht.inv_1 (by omega) hk
   have m0:k0∈n.kids:=by rw[hk];simp
   obtain⟨o0,e0⟩:=O m0 w0 r0 t0
   have c0:=(K m0 w0 st a0 t0 s0 s1).r r0
   rw[ev_34 h hk]
   exact⟨fun h=>by unfold Nd.isR at h;omega,fun h=>by unfold Nd.isI at h;omega,fun _=>fm_34 h hk c0⟩
  ·obtain⟨k0,hk,w0,r0⟩:=wf_e hw (by omega)
   obtain⟨a0,t0,ha⟩:=ht.inv_1 (by omega) hk
   have m0:k0∈n.kids:=by rw[hk];simp
   obtain⟨o0,e0⟩:=O m0 w0 r0 t0
   have c0:=(K m0 w0 st a0 t0 s0 s1).r r0
   rw[ev_35 h hk]
   exact⟨fun h=>by unfold Nd.isR at h;omega,fun h=>by unfold Nd.isI at h;omega,fun _=>fm_35 h hk c0⟩
  ·obtain⟨k0,hk,w0,r0⟩:=wf_e hw (by omega)
   obtain⟨a0,t0,ha⟩:=ht.inv_1 (by omega) hk
   have m0:k0∈n.kids:=by rw[hk];simp
   obtain⟨o0,e0⟩:=O m0 w0 r0 t0
   have c0:=(K m0 w0 st a0 t0 s0 s1).r r0
   rw[ev_36 h hk]
   exact⟨fun h=>by unfold Nd.isR at h;omega,fun h=>by unfold Nd.isI at h;omega,fun _=>fm_36 h hk c0⟩
  ·obtain⟨k0,hk,w0,r0⟩:=wf_e hw (by omega)
   obtain⟨a0,t0,ha⟩:=ht.inv_1 (by omega) hk
   have m0:k0∈n.kids:=by rw[hk];simp
   obtain⟨o0,e0⟩:=O m0 w0 r0 t0
   have c0:=(K m0 w0 st a0 t0 s0 s1).r r0
   rw[ev_37 h hk]
   exact⟨fun h=>by unfold Nd.isR at h;omega,fun h=>by unfold Nd.isI at h;omega,fun _=>fm_37 h hk c0⟩
  ·obtain⟨k0,k1,hk,⟨w0,r0⟩,w1,r1⟩:=wf_ii hw (by omega)
   obtain⟨a0,a1,t0,t1,ha⟩:=ht.inv_2 (by omega) hk
   have m0:k0∈n.kids:=by rw[hk];simp
   have m1:k1∈n.kids:=by rw[hk];simp
   have c0:=(K m0 w0 st a0 t0 s0 s1).i r0
   have c1:=(K m1 w1 st a1 t1 s0 s1).i r1
   rw[ev_38 h hk]
   exact⟨fun h=>by unfold Nd.isR at h;omega,fun h=>by unfold Nd.isI at h;omega,fun _=>fm_38 h hk c0 c1⟩
  ·obtain⟨k0,k1,hk,⟨w0,r0⟩,w1,r1⟩:=wf_ii hw (by omega)
   obtain⟨a0,a1,t0,t1,ha⟩:=ht.inv_2 (by omega) hk
   have m0:k0∈n.kids:=by rw[hk];simp
   have m1:k1∈n.kids:=by rw[hk];simp
   have c0:=(K m0 w0 st a0 t0 s0 s1).i r0
   have c1:=(K m1 w1 st a1 t1 s0 s1).i r1
   rw[ev_39 h hk]
   exact⟨fun h=>by unfold Nd.isR at h;omega,fun h=>by unfold Nd.isI at h;omega,fun _=>fm_39 h hk c0 c1⟩
  ·obtain⟨k0,hk,w0,r0⟩:=wf_f hw (by omega)
   obtain⟨a0,t0,ha⟩:=ht.inv_1 (by omega) hk
   have m0:k0∈n.kids:=by rw[hk];simp
   have c0:=(K m0 w0 st a0 t0 s0 s1).b r0
   rw[ev_40 h hk]
   exact⟨fun h=>by unfold Nd.isR at h;omega,fun h=>by unfold Nd.isI at h;omega,fun _=>fm_40 h hk c0⟩
  ·obtain⟨k0,k1,hk,⟨w0,r0⟩,w1,r1⟩:=wf_ff hw (by omega)
   obtain⟨a0,a1,t0,t1,ha⟩:=ht.inv_2 (by omega) hk
   have m0:k0∈n.kids:=by rw[hk];simp
   have m1:k1∈n.kids:=by rw[hk];simp
   have c0:=(K m0 w0 st a0 t0 s0 s1).b r0
   have c1:=(K m1 w1 st a1 t1 s0 s1).b r1
   rw[ev_41 h hk]
   exact⟨fun h=>by unfold Nd.isR at h;omega,fun h=>by unfold Nd.isI at h;omega,fun _=>fm_41 h hk c0 c1⟩
  ·obtain⟨k0,k1,hk,⟨w0,r0⟩,w1,r1⟩:=wf_ff hw (by omega)
   obtain⟨a0,a1,t0,t1,ha⟩:=ht.inv_2 (by omega) hk
   have m0:k0∈n.kids:=by rw[hk];simp
   have m1:k1∈n.kids:=by rw[hk];simp
   have c0:=(K m0 w0 st a0 t0 s0 s1).b r0
   have c1:=(K m1 w1 st a1 t1 s0 s1).b r1
   rw[ev_42 h hk]
   exact⟨fun h=>by unfold Nd.isR at h;omega,fun h=>by unfold Nd.isI at h;omega,fun _=>fm_42 h hk c0 c1⟩
  ·obtain⟨k0,k1,hk,⟨w0,r0⟩,w1,r1⟩:=wf_ff hw (by omega)
   obtain⟨a0,a1,t0,t1,ha⟩:=ht.inv_2 (by omega) hk
   have m0:k0∈n.kids:=by rw[hk];simp
   have m1:k1∈n.kids:=by rw[hk];simp
   have c0:=(K m0 w0 st a0 t0 s0 s1).b r0
   have c1:=(K m1 w1 st a1 t1 s0 s1).b r1
   rw[ev_43 h hk]
   exact⟨fun h=>by unfold Nd.isR at h;omega,fun h=>by unfold Nd.isI at h;omega,fun _=>fm_43 h hk c0 c1⟩
  ·obtain⟨k0,k1,hk,⟨w0,r0⟩,w1,r1⟩:=wf_ff hw (by omega)
   obtain⟨a0,a1,t0,t1,ha⟩:=ht.inv_2 (by omega) hk
   have m0:k0∈n.kids:=by rw[hk];simp
   have m1:k1∈n.kids:=by rw[hk];simp
   have c0:=(K m0 w0 st a0 t0 s0 s1).b r0
   have c1:=(K m1 w1 st a1 t1 s0 s1).b r1
   rw[ev_44 h hk]
   exact⟨fun h=>by unfold Nd.isR at h;omega,fun h=>by unfold Nd.isI at h;omega,fun _=>fm_44 h hk c0 c1⟩
  ·obtain⟨k0,k1,hk,⟨w0,r0⟩,w1,r1⟩:=wf_ef hw (by omega)
   obtain⟨_,t0,b,t1⟩:=ht.inv_bind (by omega) hk
   have m0:k0∈n.kids:=by rw[hk];simp
   have q:=Q hk w0 r0 w1 r1 t0 t1
   obtain⟨o0,e0⟩:=O m0 w0 r0 t0
   have c0:=(K m0 w0 st 1 t0 s0 s1).r r0
   rw[ev_45 h hk]
   exact⟨fun h=>by unfold Nd.isR at h;omega,fun h=>by unfold Nd.isI at h;omega,fun _=>fm_45 h hk hse (ok_len hp h12 o0) c0 e0 (fun x=>(ev s m k1 st (env++[(n.name,x)])).b) q⟩
  ·obtain⟨k0,k1,hk,⟨w0,r0⟩,w1,r1⟩:=wf_ef hw (by omega)
   obtain⟨_,t0,b,t1⟩:=ht.inv_bind (by omega) hk
   have m0:k0∈n.kids:=by rw[hk];simp
   have q:=Q hk w0 r0 w1 r1 t0 t1
   obtain⟨o0,e0⟩:=O m0 w0 r0 t0
   have c0:=(K m0 w0 st 1 t0 s0 s1).r r0
   rw[ev_46 h hk]
   exact⟨fun h=>by unfold Nd.isR at h;omega,fun h=>by unfold Nd.isI at h;omega,fun _=>fm_46 h hk hse (ok_len hp h12 o0) c0 e0 (fun x=>(ev s m k1 st (env++[(n.name,x)])).b) q⟩
  ·obtain⟨k0,hk,w0,r0⟩:=wf_f hw (by omega)
   obtain⟨a0,t0,ha⟩:=ht.inv_1 (by omega) hk
   have m0:k0∈n.kids:=by rw[hk];simp
   rw[ev_48 h hk]
   exact⟨fun h=>by unfold Nd.isR at h;omega,fun h=>by unfold Nd.isI at h;omega,fun _=>fm_48 h hk hm hl ⟨s0,s1⟩ (fun t=>(ev s m k0 t env).b) fun t u=>(K m0 w0 t a0 t0 u.1 u.2).b r0⟩
  ·obtain⟨k0,hk,w0,r0⟩:=wf_f hw (by omega)
   obtain⟨a0,t0,ha⟩:=ht.inv_1 (by omega) hk
   have m0:k0∈n.kids:=by rw[hk];simp
   rw[ev_49 h hk]
   exact⟨fun h=>by unfold Nd.isR at h;omega,fun h=>by unfold Nd.isI at h;omega,fun _=>fm_49 h hk hm hl ⟨s0,s1⟩ (fun t=>(ev s m k0 t env).b) fun t u=>(K m0 w0 t a0 t0 u.1 u.2).b r0⟩
  ·obtain⟨k0,hk,w0,r0⟩:=wf_f hw (by omega)
   obtain⟨a0,t0,ha⟩:=ht.inv_1 (by omega) hk
   have m0:k0∈n.kids:=by rw[hk];simp
   have c0:=(K m0 w0 _ a0 t0 n0 n1).b r0
   rw[ev_50 h hk]
   exact⟨fun h=>by unfold Nd.isR at h;omega,fun h=>by unfold Nd.isI at h;omega,fun _=>fm_50 h hk ⟨s0,by omega⟩ c0⟩
  ·obtain⟨k0,k1,hk,⟨w0,r0⟩,w1,r1⟩:=wf_ff hw (by omega)
   obtain⟨a0,a1,t0,t1,ha⟩:=ht.inv_2 (by omega) hk
   have m0:k0∈n.kids:=by rw[hk];simp
   have m1:k1∈n.kids:=by rw[hk];simp
   rw[ev_51 h hk]
   exact⟨fun h=>by unfold Nd.isR at h;omega,fun h=>by unfold Nd.isI at h;omega,fun _=>fm_51 h hk hm hl ⟨s0,s1⟩ (fun t=>(ev s m k0 t env).b) (fun t=>(ev s m k1 t env).b) (fun t u=>(K m0 w0 t a0 t0 u.1 u.2).b r0) fun t u=>(K m1 w1 t a1 t1 u.1 u.2).b r1⟩
end Go.Ab
namespace Go.Ab
open Go Go.Proofs
set_option maxRecDepth 10000
theorem fullP(s:Scope)(h:small s.atoms)(N:Nat)(hN:sumI s.atoms=N)(h12:N≤12)(i:Nat)(hi:i<s.atoms.length):AFun Tryz.prog 123 [s.av,ints [(i:Int)]] (.p (Rl.av ⟨1,sortL s i⟩)):=by
 have hal:(s.atoms.map eI).length=s.atoms.length:=List.length_map _
 have hl4:=h.1
 have hw1:=withinP 1 1 3
 rw[show(decide ((1:Int)≤1)&&decide ((1:Int)≤3))=true from rfl] at hw1
 have hw2:=withinP i 0 (((s.atoms.map eI).length:Int) - 1)
 rw[show(decide ((0:Int)≤(i:Int))&&decide ((i:Int)≤((s.atoms.map eI).length:Int) - 1))=true by rw[decide_eq_true (show(0:Int)≤(i:Int) by omega),decide_eq_true (show(i:Int)≤((s.atoms.map eI).length:Int) - 1 by omega)];rfl] at hw2
 have ht:=tuplesP s 0 [(i:Int)]
 have hI:=tup1 s h N hN h12 i hi
 obtain⟨l,hl⟩:∃ l,sortL s i=l:=⟨_,rfl⟩
 have hll:l.length≤1000:=by
  have:=h.at hi
  rw[← hl,sortL,List.length_map,List.length_range,atomsOf,List.getElem?_eq_getElem hi]
  show s.atoms[i].toNat≤1000
  omega
 rw[hl] at hI ⊢
 have hil:(its l).length=l.length:=by simp[its]
 refine AFun.of hT Tryz.func123 rfl rfl (by simp) (AD.run hT hmix ?_)
 intro h1
 refine .pure [eI 1,eI 1,eI 3] _ rfl hw1 ?_
 intro h2
 refine AD.loopI (fun k:Nat=>k≤1) (fun k=>1 - k) (fun k=>[(1,.p (ints [(i:Int)])),(2,.loc 2 0),(4,.loc 4 0),(14,.p (ints [(i:Int)])),(15,eint .i64 1),(16,eint .i64 k)]) (fun _=>[(2,.box 30 (s.cs.map .p)),(4,.box 50 [.p (eI 0),.full 1 []])]) 0 (Nat.zero_le _) .of fun k hk=>AD.run hT hmix ?_
 refine bgs (fun hb=>?_) (fun hb=>?_)
 ·replace hb:=odt hb
  obtain rfl:k=0:=by omega
  refine⟨0,eI i,rfl,rfl,?_⟩
  intro h3
  refine ngo_in (by omega) (by omega) (.pure [eI i,eI 0,eI (((s.atoms.map eI).length:Int) - 1)] _ rfl hw2 ?_)
  exact ngo_in (by omega) (by omega) ⟨1,by omega,by omega,.of⟩
 ·replace hb:=of_decide_eq_false hb
  obtain rfl:k=1:=by omega
  intro h4
  refine .pure [s.av,eI 0,ints [(i:Int)]] _ rfl ht ?_
  refine AD.rangeFunc (T:=T) hI [(4,.loc 4 0),(7,.loc 7 0),(34,.p (tupF s 0 [(i:Int)]))]
   (fun j=>[(4,.box 50 [.p (eI 0),.full 1 []]),(7,.box 50 [.p (eI 1),.own 1 ((l.take j).map eI) 40]),(40,.tail ((l.take j).map eI).length)]) l.length none .of rfl (by rw[hil];exact Nat.le_refl _) (fun _=>hil.symm) (fun h=>absurd rfl h) ?_ ?_ ?_
  ·intro j xs hj hx
   rw[its_at (List.getElem?_eq_getElem hj)] at hx
   cases hx
   refine AD.run hT hmix (AD.run hT hmix ?_)
   refine⟨rfl,⟨by simp;omega,by simp;omega⟩,jumpNone _,?_⟩
   rw[List.take_succ_eq_append_getElem hj,List.map_append]
   exact .of
  ·intro xs hx
   obtain⟨x,_,rfl⟩:=List.mem_map.1 hx
   exact⟨rfl,rfl⟩
  ·rw[List.take_length]
   exact⟨_,_,rfl,rfl,rfl⟩
theorem sortL_rel{s:Spc}{m:Mdl}(hm:MOk s m){i:Nat}(hi:i<s.sorts.length):(⟨1,sortL m.scope i⟩:Rl)=sortRel m.scope i:=by
 have hp:=atoms_pos hm hi
 have hf:=first_in hm hi
 rw[sortRel]
 congr 1
 refine cl_eq ?_ fun x=>?_
 ·exact up_pairs (f:=fun k=>firstOf m.scope i+k) (fun a b h=>by show _+(a:Int)<_+(b:Int);omega) _
 ·unfold sortL
  rw[List.mem_map]
  constructor
  ·rintro⟨k,hk,rfl⟩
   rw[List.mem_range] at hk
   have h2:firstOf m.scope i≤firstOf m.scope i+(k:Int)∧firstOf m.scope i+(k:Int)<firstOf m.scope i+atomsOf m.scope i:=by omega
   have h3:=(firstOf_iff hm (by rw[hm.sl];exact hi) _).1 h2
   have:=hm.n12
   exact⟨by omega,h2⟩
  ·rintro⟨_,h1,h2⟩
   exact⟨(x - firstOf m.scope i).toNat,List.mem_range.2 (by omega),by omega⟩
theorem sEq_comm(a b:ByteArray):sEq a b=sEq b a:=by
 rw[Bool.eq_iff_iff,beq_iff_eq,beq_iff_eq];exact eq_comm
theorem blt_false{a b:Nat}(h:b≤a):Nat.blt a b=false:=by
 cases e:Nat.blt a b with
 | false=>rfl
 | true=>exact absurd (Nat.le_of_ble_eq_true e) (by omega)
def toB(x:ByteArray×Int):Bind:=⟨x.1,x.2⟩
theorem bdA_toB(env:List (ByteArray×Int)):env.map bdA=(env.map toB).map Bind.av:=by rw[List.map_map];rfl
theorem env_first(env:List (ByteArray×Int))(nm:ByteArray):(∀ j (h:j<env.length),sEq (env[env.length - 1 - j]'(by omega)).1 nm=false)∧envLook env nm=none ∨
 ∃ j,∃ h:j<env.length,(∀ k (hk:k<j),sEq (env[env.length - 1 - k]'(by omega)).1 nm=false)∧sEq (env[env.length - 1 - j]'(by omega)).1 nm=true∧envLook env nm=some (env[env.length - 1 - j]'(by omega)).2:=by
 by_cases hex:∃ j,∃ h:j<env.length,sEq (env[env.length - 1 - j]'(by omega)).1 nm=true
 ·right
  have key:∀ n,(∃ j,∃ h:j<env.length,j≤n∧sEq (env[env.length - 1 - j]'(by omega)).1 nm=true)→∃ j,∃ h:j<env.length,(∀ k (hk:k<j),sEq (env[env.length - 1 - k]'(by omega)).1 nm=false)∧sEq (env[env.length - 1 - j]'(by omega)).1 nm=true:=by
   intro n
   induction n with
   | zero=>
    rintro⟨j,h,h0,he⟩
    obtain rfl:j=0:=by omega
    exact⟨0,h,fun k hk=>by omega,he⟩
   | succ n ih=>
    rintro⟨j,h,h0,he⟩
    by_cases hs:∃ j,∃ h:j<env.length,j≤n∧sEq (env[env.length - 1 - j]'(by omega)).1 nm=true
    ·exact ih hs
    ·refine⟨j,h,fun k hk=>?_,he⟩
     cases hq:sEq (env[env.length - 1 - k]'(by omega)).1 nm with
     | false=>rfl
     | true=>exact absurd ⟨k,by omega,by omega,hq⟩ hs
  obtain⟨j0,h0,he0⟩:=hex
  obtain⟨j,h,h1,h2⟩:=key j0 ⟨j0,h0,Nat.le_refl _,he0⟩
  refine⟨j,h,h1,h2,envLook_at (by omega) (fun y hy=>?_) h2⟩
  obtain⟨i,hi,rfl⟩:=List.mem_iff_getElem.1 hy
  rw[List.getElem_drop]
  have hl:i<env.length - (env.length - 1 - j+1):=by simpa using hi
  have:=h1 (j - 1 - i) (by omega)
  simpa[show env.length - 1 - (j - 1 - i)=env.length - 1 - j+1+i by omega] using this
 ·left
  have hno:∀ j (h:j<env.length),sEq (env[env.length - 1 - j]'(by omega)).1 nm=false:=fun j h=>by
   cases hq:sEq (env[env.length - 1 - j]'(by omega)).1 nm with
   | false=>rfl
   | true=>exact absurd ⟨j,h,hq⟩ hex
  refine⟨hno,envLook_none fun x hx=>?_⟩
  obtain⟨i,hi,rfl⟩:=List.mem_iff_getElem.1 hx
  have:=hno (env.length - 1 - i) (by omega)
  simpa[show env.length - 1 - (env.length - 1 - i)=i by omega] using this
def zeroRl:List EV:=[.p (eI 0),.full 1 []]
theorem namedP{s:Spc}{m:Mdl}(hm:MOk s m)(hsm:small m.scope.atoms)(hfl:s.fields.length≤1000)(hnm:∀ x∈s.sorts,x.name.size≤1048576)(nm:ByteArray)(st:Int)(env:List (ByteArray×Int))(a:Int)(h0:0≤st)(h1:st<m.states.length)(he:∀ x∈env,0≤x.2∧x.2<m.n)(hse:env.length≤5000000)(ht:NameTy s (tyE env) nm a):
 AFun Tryz.prog 73 [mch s m,plc st env,eS nm] (.p (nameVal s m st env nm).av):=by
 have hbl:(backs (env.map toB)).length=env.length:=by rw[backs_len,List.length_map]
 have hat:∀ j (h:j<env.length),(backs (env.map toB))[j]?=some [eI ((env.length - 1 - j:Nat):Int),(toB (env[env.length - 1 - j]'(by omega))).av]:=fun j h=>by
  have:=backs_at (env.map toB) (i:=j) (by simpa using h)
  simpa using this
 have hit:=backward1 (env.map toB) (by rw[List.length_map];exact hse)
 have hbk:=backP (env.map toB)
 refine AFun.of hT Tryz.func73 rfl rfl (by simp) ?_
 rw[plc,bdA_toB]
 refine AD.run hT hmix (.pure [binds (env.map toB)] _ rfl hbk ?_)
 rcases env_first env nm with ⟨hno,hlk⟩ | ⟨j,hj,hno,hyes,hlk⟩
 ·refine AD.rangeFunc (T:=T) hit [(0,.p (mch s m)),(4,.loc 4 0),(5,.loc 5 0),(6,.loc 6 0),(19,.p (.fn (.func 190) [] [.ref [binds (env.map toB)]]))]
   (fun _=>[(4,.box 90 ([eI st,binds (env.map toB)].map .p)),(5,.box 9 [.p (eS nm)]),(6,.box 50 zeroRl)]) env.length none .of rfl (by rw[hbl];exact Nat.le_refl _) (fun _=>hbl.symm) (fun h=>absurd rfl h) ?_ ?_ ?_
  ·intro i xs hi hx
   rw[hat i hi] at hx
   cases hx
   refine AD.run hT hmix (AD.run hT hmix ?_)
   exact bgo_false (hno i hi) ⟨jumpNone _,.of⟩
  ·intro xs hx
   obtain⟨x,_,rfl⟩:=List.mem_map.1 hx
   exact⟨rfl,rfl⟩
  ·have hno':s.found nm=[a]:=by
    unfold NameTy at ht
    rw[tyE_look,hlk] at ht
    exact ht
   have hfr:=foundR_ok hm h0 h1 nm
   obtain⟨r,hr⟩:∃ r,foundR s m st nm=[r]:=by
    have e:=hfr.2
    rw[hno'] at e
    match hq:foundR s m st nm with
    | [r]=>exact⟨r,rfl⟩
    | []=>rw[hq] at e;cases e
    | _::_::_=>rw[hq] at e;simp at e
   have hv:nameVal s m st env nm=r:=by rw[nameVal,hlk,hr];rfl
   rw[hv]
   generalize binds (env.map toB)=bs
   obtain⟨row,hrow,hrl,hrk⟩:=state_at hm h0 h1
   have hst:st.toNat<m.states.length:=by omega
   have hrow2:m.states[st.toNat]=row:=by rw[List.getElem?_eq_getElem hst] at hrow;exact Option.some.inj hrow
   have hf1:(s.fields.map Fld.av).length=s.fields.length:=List.length_map _
   have hs1:(s.sorts.map Srt.av).length=s.sorts.length:=List.length_map _
   have hs4:s.sorts.length≤4:=by rw[← hm.sl];exact hsm.1
   intro _
   refine AD.loopI (fun x:Nat×List Rl=>x.1≤s.fields.length∧x.2=(s.fields.zipIdx.take x.1).flatMap (fRels m st nm)∧x.2.length≤x.1) (fun x=>s.fields.length - x.1)
    (fun x=>[(0,.p (mch s m)),(4,.loc 4 0),(5,.loc 5 0),(6,.loc 6 0),(9,.own 2 (x.2.map Rl.av) 300),(34,.p (.slice 3 (s.fields.map Fld.av))),(35,eint .i64 (s.fields.map Fld.av).length),(36,eint .i64 x.1)])
    (fun x=>[(4,.box 90 ([eI st,bs].map .p)),(5,.box 9 [.p (eS nm)]),(6,.box 50 zeroRl),(300,.tail (x.2.map Rl.av).length)]) (0,[]) ⟨Nat.zero_le _,by simp,Nat.zero_le _⟩ .of fun ⟨i,es⟩ ⟨g1,g2,g3⟩=>AD.run hT hmix ?_
   dsimp only at g1 g2 g3 ⊢
   refine bgs (fun hb=>?_) (fun hb=>?_)
   ·replace hb:=odt hb
    have hlt:i<s.fields.length:=by omega
    have hsn:=fm_take (fRels m st nm) s.fields.zipIdx (i:=i) (by simpa using hlt)
    rw[List.getElem_zipIdx,Nat.zero_add,fRels] at hsn
    refine igo_map i rfl hlt (bgs (fun hc=>?_) (fun hc=>?_))
    ·have hri:i<row.length:=by omega
     rw[if_pos hc] at hsn
     refine igo_map st.toNat (by omega) hst ?_
     rw[hrow2]
     refine igo_map i rfl hri ⟨rfl,⟨by simp;omega,by simp;omega⟩,⟨by kernel_rfl,ngo_in (by omega) (by omega) ⟨(i+1,es++[row[i]]),⟨by dsimp only;omega,?_,by dsimp only;rw[List.length_append,List.length_singleton];omega⟩,by dsimp only;omega,?_⟩⟩⟩
     ·dsimp only
      rw[hsn,← g2]
      simp[hrow,List.getElem?_eq_getElem hri]
     ·dsimp only
      rw[List.map_append]
      exact .of
    ·rw[if_neg (fun e=>Bool.false_ne_true (hc.symm.trans e)),List.append_nil] at hsn
     exact ngo_in (by omega) (by omega) ⟨(i+1,es),⟨by dsimp only;omega,by dsimp only;rw[hsn];exact g2,by dsimp only;omega⟩,by dsimp only;omega,.of⟩
   ·replace hb:=of_decide_eq_false hb
    obtain rfl:i=s.fields.length:=by omega
    have hft:s.fields.zipIdx.take s.fields.length=s.fields.zipIdx:=List.take_of_length_le (by simp)
    rw[hft] at g2
    intro _
    refine AD.loopI (fun x:Nat×List Rl=>x.1≤s.sorts.length∧x.2=es++(s.sorts.zipIdx.take x.1).flatMap (sRels m nm)∧x.2.length≤s.fields.length+3*x.1) (fun x=>s.sorts.length - x.1)
     (fun x=>[(0,.p (mch s m)),(5,.loc 5 0),(6,.loc 6 0),(9,.own 2 (x.2.map Rl.av) 300),(65,.p (.slice 2 (s.sorts.map Srt.av))),(66,eint .i64 (s.sorts.map Srt.av).length),(67,eint .i64 x.1)])
     (fun x=>[(5,.box 9 [.p (eS nm)]),(6,.box 50 zeroRl),(300,.tail (x.2.map Rl.av).length)]) (0,es) ⟨Nat.zero_le _,by simp,g3⟩ .of fun ⟨i,es0⟩ ⟨f1,f2,f3⟩=>?_
    dsimp only at f1 f2 f3 ⊢
    by_cases hb:i<s.sorts.length
    case neg=>
     obtain rfl:i=s.sorts.length:=by omega
     have hft2:s.sorts.zipIdx.take s.sorts.length=s.sorts.zipIdx:=List.take_of_length_le (by simp)
     rw[hft2,g2] at f2
     have hf:es0=[r]:=f2.trans hr
     subst hf
     refine AD.run hT hmix (bgo_false (decide_eq_false (by omega)) ?_)
     intro _
     exact⟨0,r.av,rfl,rfl,⟨_,_,rfl,rfl,rfl⟩⟩
    case pos=>
     have hia:i<m.scope.atoms.length:=by rw[hm.sl];exact hb
     obtain⟨N,hN⟩:∃ N:Nat,m.n=N:=⟨m.n.toNat,by have:=hm.pos;omega⟩
     have h12:N≤12:=by have:=hm.n12;omega
     have hfull:=fullP m.scope hsm N hN h12 i hia
     have hrel:=sortL_rel hm hb
     have hal:=atoms_pos hm hb
     have hfi:=first_in hm hb
     have hsn:=fm_take (sRels m nm) s.sorts.zipIdx (i:=i) (by simpa using hb)
     rw[List.getElem_zipIdx,Nat.zero_add,sRels] at hsn
     dsimp only at hsn
     obtain⟨L,hL⟩:∃ L,sortL m.scope i=L:=⟨_,rfl⟩
     have hLl:L.length=(atomsOf m.scope i).toNat:=by rw[← hL,sortL,List.length_map,List.length_range]
     have hLk:∀ (k:Nat) (h:k<L.length),L[k]=firstOf m.scope i+k:=fun k h=>by subst hL;simp[sortL]
     rw[hL] at hfull hrel
     obtain⟨srt,hsrt⟩:∃ srt,s.sorts[i]=srt:=⟨_,rfl⟩
     have hnl:srt.name.size≤1048576:=by rw[← hsrt];exact hnm _ (List.getElem_mem hb)
     rw[hsrt] at hsn
     refine AD.cut hT hmix 18 (fun es1:List Rl=>es1=es0++(if sEq srt.name nm=true then [sortRel m.scope i] else [])∧es1.length≤es0.length+1)
      (fun es1=>[(0,.p (mch s m)),(5,.loc 5 0),(6,.loc 6 0),(9,.own 2 (es1.map Rl.av) 300),(13,.loc 13 0),(14,.loc 14 0),(65,.p (.slice 2 (s.sorts.map Srt.av))),(66,eint .i64 (s.sorts.map Srt.av).length),(67,eint .i64 i)])
      (fun es1=>[(5,.box 9 [.p (eS nm)]),(6,.box 50 zeroRl),(13,.box 78 [.p (eS srt.name),.p (eB srt.ordered)]),(14,.box 50 [.p (eI 1),.p (ints L)]),(300,.tail (es1.map Rl.av).length)]) ?_ fun es1 ⟨k1,k2⟩=>?_
     ·refine bgo_true (decide_eq_true (by omega)) (igo_map i rfl hb ?_)
      rw[hsrt]
      refine .pure [m.scope.av,ints [(i:Int)]] _ rfl hfull (bgs (fun hc=>?_) (fun hc=>?_))
      ·refine⟨rfl,⟨by simp;omega,by simp;omega⟩,es0++[⟨1,L⟩],⟨by rw[if_pos hc,hrel],by rw[List.length_append,List.length_singleton];omega⟩,?_⟩
       dsimp only
       rw[List.map_append]
       exact .of
      ·exact⟨es0,⟨by rw[if_neg (fun e=>Bool.false_ne_true (hc.symm.trans e)),List.append_nil],by omega⟩,.of⟩
     ·have hL1:1≤L.length:=by omega
      refine AD.cut hT hmix 20 (fun es2:List Rl=>es2=es1++(if (srt.ordered&&sEq (srt.name++sFirst) nm)=true then [headRel m.scope i] else [])∧es2.length≤es1.length+1)
       (fun es2=>[(0,.p (mch s m)),(5,.loc 5 0),(6,.loc 6 0),(9,.own 2 (es2.map Rl.av) 300),(13,.loc 13 0),(14,.loc 14 0),(65,.p (.slice 2 (s.sorts.map Srt.av))),(66,eint .i64 (s.sorts.map Srt.av).length),(67,eint .i64 i)])
       (fun es2=>[(5,.box 9 [.p (eS nm)]),(6,.box 50 zeroRl),(13,.box 78 [.p (eS srt.name),.p (eB srt.ordered)]),(14,.box 50 [.p (eI 1),.p (ints L)]),(300,.tail (es2.map Rl.av).length)]) ?_ fun es2 ⟨k3,k4⟩=>?_
      ·obtain⟨x,L',hLx⟩:∃ x L',L=x::L':=by
        match L,hL1 with
        | x::L',_=>exact⟨x,L',rfl⟩
       have hx:x=firstOf m.scope i:=by have:=hLk 0 (by omega);simp only[hLx] at this;simpa using this
       have hhr:headRel m.scope i=⟨1,[x]⟩:=by rw[hx];rfl
       have hcl:=clipI [x] (by simp)
       refine bgs (fun o1=>?_) (fun o1=>?_)
       ·refine⟨str_add hnl (by decide),bgs (fun hc=>?_) (fun hc=>?_)⟩
        ·have hc2:(srt.ordered&&sEq (srt.name++sFirst) nm)=true:=by rw[o1,sEq_comm];exact hc
         subst hLx
         intro _
         have hmin:¬ ((((x::L').map eI).length:Int)<1):=by rw[List.length_map,List.length_cons];omega
         refine⟨0,1,rfl,if_neg hmin,by omega,by simp,.pure [ints [x]] _ rfl hcl ⟨rfl,⟨by simp;omega,by simp;omega⟩,es1++[⟨1,[x]⟩],⟨by rw[if_pos hc2,hhr],by rw[List.length_append,List.length_singleton];omega⟩,?_⟩⟩
         dsimp only
         rw[List.map_append]
         exact .of
        ·have hc2:(srt.ordered&&sEq (srt.name++sFirst) nm)=false:=by rw[o1,sEq_comm];exact hc
         exact⟨es1,⟨by rw[hc2];simp,by omega⟩,.of⟩
       ·have hc2:(srt.ordered&&sEq (srt.name++sFirst) nm)=false:=by rw[o1];rfl
        exact⟨es1,⟨by rw[hc2];simp,by omega⟩,.of⟩
      ·have hfin:∀ es3:List Rl,es3=es2++(if (srt.ordered&&sEq (srt.name++sNext) nm)=true then [nextRel m.scope i] else [])→es3=es++(s.sorts.zipIdx.take (i+1)).flatMap (sRels m nm):=fun es3 h=>by
        rw[h,k3,k1,hsn,f2]
        simp only[List.append_assoc]
       refine AD.run hT hmix (bgs (fun o1=>?_) (fun o1=>?_))
       ·refine⟨str_add hnl (by decide),bgs (fun hc=>?_) (fun hc=>?_)⟩
        ·have hc2:(srt.ordered&&sEq (srt.name++sNext) nm)=true:=by rw[o1,sEq_comm];exact hc
         rw[if_pos hc2] at hfin
         obtain⟨nx,hnx⟩:∃ nx:Nat→List Int,nx=fun k=>(List.range (k - 1)).map fun q:Nat=>(firstOf m.scope i+q)*N+(firstOf m.scope i+q+1):=⟨_,rfl⟩
         have hnxl:∀ k,(nx k).length=k - 1:=fun k=>by rw[hnx];simp
         have hfr2:∀ q:Nat,q<L.length→0≤firstOf m.scope i+q∧firstOf m.scope i+q<N:=fun q hq=>by
          have:=(firstOf_iff hm hia (firstOf m.scope i+q)).1 ⟨by omega,by omega⟩
          rw[hN] at this;omega
         have hnr:nextRel m.scope i=⟨2,nx L.length⟩:=by
          rw[nextRel]
          congr 1
          have hsm:sumI m.scope.atoms=N:=hN
          rw[hsm,hnx]
          refine(cl_eq ?_ fun x=>?_).symm
          ·refine up_pairs (f:=fun q:Nat=>(firstOf m.scope i+q)*N+(firstOf m.scope i+q+1)) (fun a b h=>?_) _
           have:(firstOf m.scope i+(a:Int))*N≤(firstOf m.scope i+(b:Int))*N:=Int.mul_le_mul_of_nonneg_right (by omega) (by omega)
           show _+_<_+_
           omega
          ·rw[List.mem_map]
           constructor
           ·rintro⟨q,hq,rfl⟩
            rw[List.mem_range] at hq
            have h2:=hfr2 q (by omega)
            have h3:=hfr2 (q+1) (by omega)
            have m0:0≤(firstOf m.scope i+(q:Int))*N:=Int.mul_nonneg (by omega) (by omega)
            have m1:(firstOf m.scope i+(q:Int))*N≤12*12:=Int.mul_le_mul (by omega) (by omega) (by omega) (by omega)
            exact⟨by omega,firstOf m.scope i+q,by omega,by omega,rfl⟩
           ·rintro⟨_,k,h2,h3,rfl⟩
            refine⟨(k - firstOf m.scope i).toNat,List.mem_range.2 (by omega),?_⟩
            rw[show firstOf m.scope i+(((k - firstOf m.scope i).toNat:Nat):Int)=k by omega]
         have hrank:∀ k,1≤k→∀ h:k<L.length,AFun Tryz.prog 125 [m.scope.av,ints [L[k - 1]'(by omega),L[k]]] (.p (eI ((firstOf m.scope i+((k - 1:Nat):Int))*N+(firstOf m.scope i+((k - 1:Nat):Int)+1)))):=fun k hk1 h=>by
          have:=rankU m.scope hsm N hN h12 [L[k - 1]'(by omega),L[k]] (by simp) (fun x hx=>by
           rcases List.mem_cons.1 hx with rfl | hx
           ·rw[hLk];exact hfr2 _ (by omega)
           ·obtain rfl:=List.mem_singleton.1 hx;rw[hLk];exact hfr2 _ h)
          have e:rnk N [L[k - 1]'(by omega),L[k]]=(firstOf m.scope i+((k - 1:Nat):Int))*N+(firstOf m.scope i+((k - 1:Nat):Int)+1):=by
           show(0*(N:Int)+L[k - 1])*N+L[k]=_
           rw[hLk,hLk,Int.zero_mul,Int.zero_add];omega
          rw[e] at this;exact this
         have hLm:(L.map eI).length=L.length:=List.length_map _
         have hL5:L.length≤12:=by have:=hfr2 (L.length - 1) (by omega);omega
         refine AD.loopI (fun k:Nat=>1≤k∧k≤L.length) (fun k=>L.length - k)
          (fun k=>[(0,.p (mch s m)),(5,.loc 5 0),(6,.loc 6 0),(9,.own 2 (es2.map Rl.av) 300),(14,.loc 14 0),(15,.loc 15 0),(16,.p (eI k)),(65,.p (.slice 2 (s.sorts.map Srt.av))),(66,eint .i64 (s.sorts.map Srt.av).length),(67,eint .i64 i)])
          (fun k=>[(5,.box 9 [.p (eS nm)]),(6,.box 50 zeroRl),(14,.box 50 [.p (eI 1),.p (ints L)]),(15,.box 50 [.p (eI 2),.own 1 ((nx k).map eI) 301]),(301,.tail ((nx k).map eI).length),(300,.tail (es2.map Rl.av).length)]) 1 ⟨Nat.le_refl _,hL1⟩ ?_ fun k ⟨j1,j2⟩=>AD.run hT hmix ?_
         ·rw[hnx];exact .of
         ·intro _
          refine bgs (fun hb2=>?_) (fun hb2=>?_)
          ·replace hb2:=odt hb2
           have hk:k<L.length:=by omega
           have hrk:=hrank k j1 hk
           refine ngo_in (by omega) (by omega) (igo_map (k - 1) (by omega) (by omega) (igo_map k rfl hk (.pure [m.scope.av,ints [L[k - 1]'(by omega),L[k]]] _ rfl hrk ⟨rfl,⟨by simp[hnxl];omega,by simp[hnxl];omega⟩,⟨by kernel_rfl,ngo_in (by omega) (by omega) ⟨k+1,⟨by omega,by omega⟩,by omega,?_⟩⟩⟩)))
           have hsn2:nx (k+1)=nx k++[(firstOf m.scope i+((k - 1:Nat):Int))*N+(firstOf m.scope i+((k - 1:Nat):Int)+1)]:=by
            rw[hnx]
            dsimp only
            rw[show k+1 - 1=k - 1+1 by omega,List.range_succ,List.map_append];rfl
           dsimp only
           rw[hsn2,List.map_append]
           exact .of
          ·replace hb2:=of_decide_eq_false hb2
           obtain rfl:k=L.length:=by omega
           refine⟨rfl,⟨by simp;omega,by simp;omega⟩,AD.run hT hmix (ngo_in (by omega) (by omega) ⟨(i+1,es2++[⟨2,nx L.length⟩]),⟨by dsimp only;omega,hfin _ (by rw[hnr]),by dsimp only;rw[List.length_append,List.length_singleton];omega⟩,by dsimp only;omega,?_⟩)⟩
           dsimp only
           rw[List.map_append]
           exact .of
        ·have hc2:¬ (srt.ordered&&sEq (srt.name++sNext) nm)=true:=by rw[o1,sEq_comm];exact fun e=>Bool.false_ne_true (hc.symm.trans e)
         rw[if_neg hc2] at hfin
         exact AD.run hT hmix (ngo_in (by omega) (by omega) ⟨(i+1,es2),⟨by dsimp only;omega,hfin _ (by simp),by dsimp only;omega⟩,by dsimp only;omega,.of⟩)
       ·have hc2:¬ (srt.ordered&&sEq (srt.name++sNext) nm)=true:=by rw[o1];simp
        rw[if_neg hc2] at hfin
        exact AD.run hT hmix (ngo_in (by omega) (by omega) ⟨(i+1,es2),⟨by dsimp only;omega,hfin _ (by simp),by dsimp only;omega⟩,by dsimp only;omega,.of⟩)
 ·have hv:nameVal s m st env nm=⟨1,[(env[env.length - 1 - j]'(by omega)).2]⟩:=by rw[nameVal,hlk]
  rw[hv]
  refine AD.rangeFunc (T:=T) hit [(0,.p (mch s m)),(4,.loc 4 0),(5,.loc 5 0),(6,.loc 6 0),(19,.p (.fn (.func 190) [] [.ref [binds (env.map toB)]]))]
   (fun i=>[(4,.box 90 ([eI st,binds (env.map toB)].map .p)),(5,.box 9 [.p (eS nm)]),(6,.box 50 (bif Nat.blt j i then [.p (eI 1),.p (ints [(env[env.length - 1 - j]'(by omega)).2])] else zeroRl))]) (j+1) (some .ret) .of rfl (by rw[hbl];exact hj) (fun h=>by cases h) (fun _=>Nat.succ_pos _) ?_ ?_ ?_
  ·intro i xs hi hx
   rw[hat i (by omega)] at hx
   cases hx
   have e1:Nat.blt j i=false:=blt_false (by omega)
   dsimp only
   rw[e1]
   refine AD.run hT hmix (AD.run hT hmix ?_)
   by_cases hij:i<j
   ·have e2:Nat.blt j (i+1)=false:=blt_false (by omega)
    have e3:Nat.blt (i+1) (j+1)=true:=Nat.ble_eq_true_of_le (by omega)
    rw[e2,e3]
    exact bgo_false (hno i hij) ⟨trivial,.of⟩
   ·obtain rfl:i=j:=by omega
    have e2:Nat.blt i (i+1)=true:=Nat.ble_eq_true_of_le (Nat.le_refl _)
    have e3:Nat.blt (i+1) (i+1)=false:=blt_false (by omega)
    rw[e2,e3]
    exact bgo_true hyes ⟨trivial,.of⟩
  ·intro xs hx
   obtain⟨x,_,rfl⟩:=List.mem_map.1 hx
   exact⟨rfl,rfl⟩
  ·have e2:Nat.blt j (j+1)=true:=Nat.ble_eq_true_of_le (Nat.le_refl _)
   dsimp only
   rw[e2]
   exact⟨_,_,rfl,rfl,rfl⟩
def lmap(p:List Int)(x:Int):Int:=p.getD x.toNat 0
theorem rankP(p:List Int)(N:Nat)(hN:p.length=N)(h0:0<N)(h12:N≤12)(hp:∀ x∈p,0≤x∧x<N)(k:Nat)(hk:k≤3)(t:Int)(ht:0≤t∧t<2000):
 AFun Tryz.prog 34 [.agg [ints p,eI k],eI t] (.p (eI (pm N (lmap p) k t))):=by
 have hpl:(p.map eI).length=p.length:=List.length_map _
 have hsc:∀ i:Nat,i≤3→1≤(N:Int) ^ i∧(N:Int) ^ i≤2000:=fun i hi=>⟨by have:=ipow_pos (n:=(N:Int)) (by omega) i;omega,pow_le_2000 (by omega) (by omega) hi⟩
 have hsc2:∀ i:Nat,i<3→(N:Int) ^ i≤144:=fun i hi=>by
  match i,hi with
  | 0,_=>simp
  | 1,_=>rw[Int.pow_succ,Int.pow_zero,Int.one_mul];omega
  | 2,_=>rw[Int.pow_succ,Int.pow_succ,Int.pow_zero,Int.one_mul];exact Int.le_trans (Int.mul_le_mul (by omega:(N:Int)≤12) (by omega:(N:Int)≤12) (by omega) (by omega)) (by omega)
 refine AFun.of hT Tryz.func34 rfl rfl (by simp) (AD.run hT hmix ?_)
 intro h1
 refine AD.loopI (fun x:Nat×Int×Int×Int=>x.1≤k∧(0≤x.2.1∧x.2.1≤2000*x.1)∧x.2.2.1=(N:Int) ^ x.1∧(0≤x.2.2.2∧x.2.2.2<2000)∧pm N (lmap p) k t=pm N (lmap p) (k - x.1) x.2.2.2*(N:Int) ^ x.1+x.2.1) (fun x=>k - x.1)
  (fun x=>[(1,.p (eI x.2.2.2)),(2,.loc 2 0),(5,eint .i64 (p.map eI).length),(6,.p (eI x.2.1)),(7,.p (eI x.2.2.1)),(12,.p (eI k)),(13,eint .i64 x.1)]) (fun _=>[(2,.box 94 ([ints p,eI k].map .p))]) (0,0,1,t) ⟨Nat.zero_le _,by simp,by simp,ht,by simp⟩ .of fun ⟨i,o,sc,u⟩ ⟨g1,g2,g3,g4,g5⟩=>AD.run hT hmix ?_
 dsimp only at g1 g2 g3 g4 g5 ⊢
 subst g3
 refine bgs (fun h2=>?_) (fun h2=>?_)
 ·replace h2:=odt h2
  have hi3:i<3:=by omega
  have s1:=hsc i (by omega)
  have s2:=hsc2 i hi3
  have s3:=hsc (i+1) (by omega)
  rw[Int.pow_succ] at s3
  have m0:=Int.emod_nonneg u (show(N:Int)≠0 by omega)
  have m1:=Int.emod_lt_of_pos u (show(0:Int)<N by omega)
  have hlt:(u % N).toNat<p.length:=by omega
  have hpx:=hp _ (List.getElem_mem hlt)
  have hlm:p[(u % N).toNat]=lmap p (u % N):=by rw[lmap,List.getD_eq_getElem?_getD,List.getElem?_eq_getElem hlt];rfl
  have b2:=Int.ediv_nonneg g4.1 (show 0≤(N:Int) by omega)
  have b3:=Int.ediv_le_self (N:Int) g4.1
  have q0:0≤lmap p (u % N)*(N:Int) ^ i:=Int.mul_nonneg (by omega) (by omega)
  have q1:lmap p (u % N)*(N:Int) ^ i≤12*144:=Int.mul_le_mul (by omega) s2 (by omega) (by omega)
  rw[hpl,hN]
  refine⟨by omega,u % N,Int.tmod_eq_emod_of_nonneg g4.1,igo_map (u % N).toNat (by omega) hlt ?_⟩
  rw[hlm]
  refine ngo_in (by omega) (by omega) (ngo_in (by omega) (by omega) ⟨by kernel_rfl,⟨by omega,u / N,by rw[Int.tdiv_eq_ediv_of_nonneg g4.1];exact wrap64_in (by omega) (by omega),ngo_in (by omega) (by omega) (ngo_in (by omega) (by omega) ?_)⟩⟩)
  refine⟨(i+1,o+lmap p (u % N)*(N:Int) ^ i,(N:Int) ^ i*N,u / N),⟨by dsimp only;omega,⟨by dsimp only;omega,by dsimp only;omega⟩,by dsimp only;rw[Int.pow_succ],⟨b2,by dsimp only;omega⟩,?_⟩,by dsimp only;omega,?_⟩
  ·dsimp only
   obtain⟨a,ha⟩:∃ a,k - (i+1)=a:=⟨_,rfl⟩
   rw[ha,g5,show k - i=a+1 by omega,pm,Int.add_mul,Int.pow_succ,Int.mul_assoc,Int.mul_comm (N:Int) ((N:Int) ^ i)]
   omega
  ·dsimp only
   exact .of
 ·replace h2:=of_decide_eq_false h2
  obtain rfl:i=k:=by omega
  exact⟨_,_,rfl,rfl,by rw[g5,Nat.sub_self,pm,Int.zero_mul,Int.zero_add];rfl⟩
theorem mappedI(l:List Int)(hl:l.length≤1000000)(f:FuncId)(pv:AV)(g:Int→Int)(hg:∀ x∈l,AFun Tryz.prog f [pv,eI x] (.p (eI (g x)))):
 AFunV Tryz.prog 35 [ints l,.fn (.func f) [pv] []] 1 3 l.length ((l.map g).map eI):=by
 suffices hh:∃ n cs,(n=l.length∧cs=(l.map g).map eI)∧AFunV Tryz.prog 35 [ints l,.fn (.func f) [pv] []] 1 3 n cs by
  obtain⟨n,cs,⟨rfl,rfl⟩,hv⟩:=hh
  exact hv
 have hll:(l.map eI).length=l.length:=List.length_map _
 refine AFunVE.intro hT Tryz.func35 rfl rfl (by simp) ⟨_,_,rfl,rfl⟩ (AD.run hT hmix ?_)
 intro h1
 refine .vec l.length rfl (by rw[hll];rfl) (by show 8*l.length≤_;omega) (by omega) ?_
 intro h2
 refine AD.loopI (fun i:Nat=>i≤l.length) (fun i=>l.length - i) (fun i=>[(1,.p (.fn (.func f) [pv] [])),(5,.arr 1 10 0 i),(11,.p (ints l)),(12,eint .i64 (l.map eI).length),(13,eint .i64 i)]) (fun i=>[(10,.box 3 ((((l.take i).map g).map eI).map .p))]) 0 (Nat.zero_le _) .of fun i hi=>AD.run hT hmix ?_
 have htk:(l.take i).length=i:=by rw[List.length_take];omega
 refine bgs (fun hb=>?_) (fun hb=>?_)
 ·replace hb:=odt hb
  have hlt:i<l.length:=by omega
  refine igo_map i rfl hlt (.pure [pv,eI l[i]] _ rfl (hg _ (List.getElem_mem hlt)) ?_)
  refine⟨by rw[List.length_map,List.length_map,List.length_map,htk,Nat.mul_one],⟨by simp;omega,by simp;omega⟩,ngo_in (by omega) (by omega) ⟨i+1,by omega,by omega,?_⟩⟩
  refine SubAll.trans (c:=[(1,.p (.fn (.func f) [pv] [])),(5,.arr 1 22 0 (i+1)),(11,.p (ints l)),(12,eint .i64 (l.map eI).length),(13,eint .i64 ((i+1:Nat):Int))]) (d:=[(22,.box 3 ((((l.take (i+1)).map g).map eI).map EV.p))]) ?_ ((SubAll.ren 22 10).trans .of)
  rw[List.take_succ_eq_append_getElem hlt,List.map_append,List.map_append,List.map_append]
  exact .of
 ·replace hb:=of_decide_eq_false hb
  obtain rfl:i=l.length:=by omega
  rw[List.take_length]
  exact⟨l.length,(l.map g).map eI,10,_,rfl,rfl,toPs_p _,by rw[List.length_map,List.length_map,List.length_map,Nat.mul_one],rfl,rfl⟩
theorem sort_up{l:List Int}(h:l.Nodup):Up (sortI l)∧∀ x,x∈sortI l↔x∈l:=by
 have hp:(sortI l).Perm l:=List.mergeSort_perm l _
 refine⟨?_,fun x=>hp.mem_iff⟩
 have h1:(sortI l).Pairwise fun a b=>decide (a≤b)=true:=List.pairwise_mergeSort (by intro a b c;simp;omega) (by intro a b;simp;omega) l
 have h2:(sortI l).Nodup:=hp.nodup_iff.2 h
 refine(h1.and h2).imp fun ⟨ha,hb⟩=>?_
 have:=odt ha
 omega
theorem relP(s:Scope)(p:List Int)(N:Nat)(hN:p.length=N)(hn0:0<N)(h12:N≤12)(hpr:Prm N (lmap p))(hp:∀ x∈p,0≤x∧x<N)(r:Rl)(hr:r.Ok N):
 AFun Tryz.prog 12 [s.av,ints p,r.av] (.p (imgR N (lmap p) r).av):=by
 have hn0':(0:Int)<N:=by omega
 have hl:=ok_len hn0' (by omega) hr
 obtain⟨k,hk⟩:∃ k:Nat,r.arity=k:=⟨r.arity.toNat,by have:=hr.a;omega⟩
 have hk3:1≤k∧k≤3:=by have:=hr.a;omega
 have hg:∀ x∈r.tuples,AFun Tryz.prog 34 [.agg [ints p,eI r.arity],eI x] (.p (eI (pm N (lmap p) k x))):=fun x hx=>by
  rw[hk]
  exact rankP p N hN hn0 h12 hp k hk3.2 x (ok_rng hn0' (by omega) hr hx)
 have hm:=mappedI r.tuples (by omega) 34 (.agg [ints p,eI r.arity]) (pm N (lmap p) k) hg
 have hml:(r.tuples.map (pm N (lmap p) k)).length=r.tuples.length:=List.length_map _
 have hso:=sortE 17 (r.tuples.map (pm N (lmap p) k)) (by omega)
 rw[hml] at hso
 have hst:sortI (r.tuples.map (pm N (lmap p) k))=(imgR N (lmap p) r).tuples:=by
  have hkk:r.arity.toNat=k:=by omega
  have hnd:(r.tuples.map (pm N (lmap p) k)).Nodup:=by
   have hu:=hr.up
   refine List.pairwise_map.2 (hu.imp_of_mem fun {a b} ha hb h e=>?_)
   have h1:=hr.rng a ha
   have h2:=hr.rng b hb
   rw[hkk] at h1 h2
   have:=pm_inj hpr k a b h1.1 h1.2 h2.1 h2.2 e
   omega
  obtain⟨h1,h2⟩:=sort_up hnd
  have hio:=img_ok hpr (by omega) hr
  refine up_ext h1 hio.up fun x=>?_
  rw[h2,mem_img hpr (by omega) hr,hkk,List.mem_map]
  exact⟨fun ⟨a,h3,h4⟩=>⟨a,h3,h4.symm⟩,fun ⟨a,h3,h4⟩=>⟨a,h3,h4.symm⟩⟩
 rw[hst] at hso
 have hil:(imgR N (lmap p) r).tuples.length=r.tuples.length:=by rw[← hst,sortI,List.length_mergeSort,hml]
 obtain⟨L,hL⟩:∃ L,(imgR N (lmap p) r).tuples=L:=⟨_,rfl⟩
 rw[show imgR N (lmap p) r=⟨r.arity,L⟩ by rw[← hL];rfl]
 rw[hL] at hso hil
 refine AFun.of hT Tryz.func12 rfl rfl (by simp) (AD.finSub (AD.run hT hmix ?_))
 refine .vec [ints r.tuples,.fn (.func 34) [.agg [ints p,eI r.arity]] []] _ _ _ _ 17 rfl hm rfl rfl ?_
 refine .eff [(17,.box 3 (((r.tuples.map (pm N (lmap p) k)).map eI).map .p))] [(17,.box 3 ((L.map eI).map .p))] _ hso ⟨rfl,trivial⟩ rfl rfl (okH_one _ _ _ _) rfl ?_
 rw[← hil]
 exact⟨[(6,.loc 6 0)],[(6,.box 50 [.p (eI r.arity),.p (ints L)])],.sealB 17 (hx:=toPs_p _) (h1:=⟨⟨.inl rfl,rfl⟩,trivial⟩) (h2:=⟨⟨rfl,.inl ⟨⟨.inl rfl,rfl⟩,⟨.inr (.inr (.inr (.inl ⟨_,_,rfl,.inr ⟨1,0,L.length,L.map eI,rfl,rfl,by rw[flat_ints,List.drop_zero,Nat.mul_one,← List.length_map (f:=eI),List.take_length],fun e he=>by obtain⟨x,_,rfl⟩:=List.mem_map.1 he;rfl,List.length_map _⟩⟩))),rfl⟩,trivial⟩⟩,trivial⟩),_,_,rfl,rfl,rfl⟩
theorem ex_1{s:Spc}{m:Mdl}{n:Nd}(ho:n.op=1){st:Int}{env:List (ByteArray×Int)}{r:Rl}(h:AFun Tryz.prog 73 [mch s m,plc st env,eS n.name] (.p r.av)):CX s m n st env r:=by
 rw[CX,show n.ex=.agg [eI 1,eS n.name,eI n.n,.slice 5 (n.kids.map Nd.av),eI n.at_] by rw[Nd.ex,ho]]
 exact AFun.of hT Tryz.func32 rfl rfl (by simp) (AD.run hT hmix (.pure [mch s m,plc st env,eS n.name] _ rfl h ⟨_,_,rfl,rfl,rfl⟩))
theorem nameNP{s:Spc}{m:Mdl}(hm:MOk s m)(hsm:small m.scope.atoms)(hfl:s.fields.length≤1000)(hnm:∀ x∈s.sorts,x.name.size≤1048576):NP s m:=
 fun k st env a ho h0 h1 he hse ht=>ex_1 ho (namedP hm hsm hfl hnm k.name st env a h0 h1 he hse ht)
abbrev mbox(m:Mdl)(p:List Int):AHp:=[(9003,.box 43 (m.cs.map .p)),(9002,.box 28 [.p (ints p)])]
theorem okH_mbox(m:Mdl)(p:List Int):okH (mbox m p) (mbox m p)=true:=by simp[okH,okL_p,okE.okL,okE]
theorem mapF{s:Spc}{m:Mdl}(hm:MOk s m){p:List Int}{N:Nat}(hN:p.length=N)(hmn:m.n=N)(hpr:Prm N (lmap p))(hp:∀ x∈p,0≤x∧x<N)(r:Rl)(hr:r.Ok N):
 EFun Tryz.prog 29 [.p r.av,.loc 9003 0,.loc 9002 0] (mbox m p) (.p (imgR N (lmap p) r).av) (mbox m p):=by
 have h12:N≤12:=by have:=hm.n12;omega
 have h:=relP m.scope p N hN (by have:=hm.pos;omega) h12 hpr hp r hr
 refine EFun.of hT Tryz.func29 rfl rfl (by simp) rfl (AD.run hT hmix ?_)
 refine .pure [m.scope.av,ints p,r.av] _ rfl h ?_
 exact⟨_,[.p (imgR N (lmap p) r).av],_,rfl,.of,rfl,rfl,rfl⟩
abbrev mfn(f:FuncId):EV:=.fn (.func f) [] [.loc 9003 0,.loc 9002 0]
theorem mappedR{s:Spc}{m:Mdl}(hm:MOk s m){p:List Int}{N:Nat}(hN:p.length=N)(hmn:m.n=N)(hpr:Prm N (lmap p))(hp:∀ x∈p,0≤x∧x<N)(l:List Rl)(hl:∀ r∈l,r.Ok N)(hll:l.length≤1000):
 EFun Tryz.prog 28 [.p (.slice 2 (l.map Rl.av)),mfn 29] (mbox m p) (.p (.slice 2 ((l.map (imgR N (lmap p))).map Rl.av))) (mbox m p):=by
 have hml:(l.map Rl.av).length=l.length:=List.length_map _
 refine EFun.of hT Tryz.func28 rfl rfl (by simp) rfl (AD.run hT hmix ?_)
 intro h1
 refine .own l.length rfl (by rw[hml];rfl) (by show 32*l.length≤_;omega) (by omega) ?_
 intro h2
 refine AD.loopI (fun i:Nat=>i≤l.length) (fun i=>l.length - i) (fun i=>[(1,mfn 29),(5,.own 2 (((l.take i).map (imgR N (lmap p))).map Rl.av) 10),(11,.p (.slice 2 (l.map Rl.av))),(12,eint .i64 (l.map Rl.av).length),(13,eint .i64 i)]) (fun i=>mbox m p++[(10,.tail (((l.take i).map (imgR N (lmap p))).map Rl.av).length)]) 0 (Nat.zero_le _) .of fun i hi=>AD.run hT hmix ?_
 have htk:(l.take i).length=i:=by rw[List.length_take];omega
 refine bgs (fun hb=>?_) (fun hb=>?_)
 ·replace hb:=odt hb
  have hlt:i<l.length:=by omega
  have hf:=mapF hm hN hmn hpr hp l[i] (hl _ (List.getElem_mem hlt))
  replace hf:=hf.le (args':=[.agg [.p (eI l[i].arity),.p (ints l[i].tuples)],.loc 9003 0,.loc 9002 0]) ⟨.inr ⟨_,rfl,rfl⟩,.inl rfl,.inl rfl,trivial⟩
  refine igo_map i rfl hlt (.eff (mbox m p) (mbox m p) _ hf ⟨rfl,rfl,trivial⟩ rfl rfl ?_ rfl ?_)
  ·exact okH_mbox m p
  ·refine⟨rfl,⟨by simp;omega,by simp;omega⟩,ngo_in (by omega) (by omega) ⟨i+1,by omega,by omega,?_⟩⟩
   rw[List.take_succ_eq_append_getElem hlt,List.map_append,List.map_append]
   exact .of
 ·replace hb:=of_decide_eq_false hb
  obtain rfl:i=l.length:=by omega
  rw[List.take_length]
  exact⟨_,[.p (.slice 2 ((l.map (imgR N (lmap p))).map Rl.av))],_,rfl,.of,rfl,rfl,rfl⟩
theorem rowF{s:Spc}{m:Mdl}(hm:MOk s m){p:List Int}{N:Nat}(hN:p.length=N)(hmn:m.n=N)(hpr:Prm N (lmap p))(hp:∀ x∈p,0≤x∧x<N)(l:List Rl)(hl:∀ r∈l,r.Ok N)(hll:l.length≤1000):
 EFun Tryz.prog 27 [.p (.slice 2 (l.map Rl.av)),.loc 9003 0,.loc 9002 0] (mbox m p) (.p (.slice 2 ((l.map (imgR N (lmap p))).map Rl.av))) (mbox m p):=by
 have h:=mappedR hm hN hmn hpr hp l hl hll
 refine EFun.of hT Tryz.func27 rfl rfl (by simp) rfl (AD.run hT hmix ?_)
 refine .eff (mbox m p) (mbox m p) _ h ⟨rfl,rfl,trivial⟩ rfl rfl (okH_mbox m p) rfl ?_
 exact⟨_,[.p (.slice 2 ((l.map (imgR N (lmap p))).map Rl.av))],_,rfl,.of,rfl,rfl,rfl⟩
def rowAV(l:List Rl):AV:=.slice 2 (l.map Rl.av)
theorem mappedS{s:Spc}{m:Mdl}(hm:MOk s m){p:List Int}{N:Nat}(hN:p.length=N)(hmn:m.n=N)(hpr:Prm N (lmap p))(hp:∀ x∈p,0≤x∧x<N)(l:List (List Rl))(hl:∀ st∈l,st.length≤1000∧∀ r∈st,r.Ok N)(hll:l.length≤1000):
 EFun Tryz.prog 26 [.p (.slice 1 (l.map rowAV)),mfn 27] (mbox m p) (.p (.slice 1 ((l.map fun st=>st.map (imgR N (lmap p))).map rowAV))) (mbox m p):=by
 have hml:(l.map rowAV).length=l.length:=List.length_map _
 refine EFun.of hT Tryz.func26 rfl rfl (by simp) rfl (AD.run hT hmix ?_)
 intro h1
 refine .own l.length rfl (by rw[hml];rfl) (by show 24*l.length≤_;omega) (by omega) ?_
 intro h2
 refine AD.loopI (fun i:Nat=>i≤l.length) (fun i=>l.length - i) (fun i=>[(1,mfn 27),(5,.own 1 (((l.take i).map fun st=>st.map (imgR N (lmap p))).map rowAV) 10),(11,.p (.slice 1 (l.map rowAV))),(12,eint .i64 (l.map rowAV).length),(13,eint .i64 i)]) (fun i=>mbox m p++[(10,.tail (((l.take i).map fun st=>st.map (imgR N (lmap p))).map rowAV).length)]) 0 (Nat.zero_le _) .of fun i hi=>AD.run hT hmix ?_
 have htk:(l.take i).length=i:=by rw[List.length_take];omega
 refine bgs (fun hb=>?_) (fun hb=>?_)
 ·replace hb:=odt hb
  have hlt:i<l.length:=by omega
  have hi2:=hl _ (List.getElem_mem hlt)
  have hf:=rowF hm hN hmn hpr hp l[i] hi2.2 hi2.1
  refine igo_map i rfl hlt (.eff (mbox m p) (mbox m p) _ hf ⟨rfl,rfl,trivial⟩ rfl rfl (okH_mbox m p) rfl ?_)
  refine⟨rfl,⟨by simp;omega,by simp;omega⟩,ngo_in (by omega) (by omega) ⟨i+1,by omega,by omega,?_⟩⟩
  rw[List.take_succ_eq_append_getElem hlt,List.map_append,List.map_append]
  exact .of
 ·replace hb:=of_decide_eq_false hb
  obtain rfl:i=l.length:=by omega
  rw[List.take_length]
  exact⟨_,[.p (.slice 1 ((l.map fun st=>st.map (imgR N (lmap p))).map rowAV))],_,rfl,.of,rfl,rfl,rfl⟩
theorem modelP{s:Spc}{m:Mdl}(hm:MOk s m)(hfl:s.fields.length≤1000)(hsl:m.states.length≤1000){p:List Int}{N:Nat}(hN:p.length=N)(hmn:m.n=N)(hpr:Prm N (lmap p))(hp:∀ x∈p,0≤x∧x<N):
 AFun Tryz.prog 9 [ints p,m.av] (.p (imgM (lmap p) m).av):=by
 have h:=((mappedS hm hN hmn hpr hp m.states (fun st hst=>by
  obtain⟨h1,h2⟩:=hm.st st hst
  refine⟨by omega,fun r hr=>?_⟩
  obtain⟨f,hf,rfl⟩:=List.mem_iff_getElem.1 hr
  rw[← hmn]
  exact(h2 f hf (by omega)).1) hsl).ren 9003 3).ren 9002 2
 have h':EFun Tryz.prog 26 [.p (.slice 1 (m.states.map rowAV)),.fn (.func 27) [] [.loc 3 0,.loc 2 0]] [(3,.box 43 (m.cs.map .p)),(2,.box 28 [.p (ints p)])] (.p (.slice 1 ((m.states.map fun st=>st.map (imgR N (lmap p))).map rowAV))) [(3,.box 43 (m.cs.map .p)),(2,.box 28 [.p (ints p)])]:=h
 refine AFun.of hT Tryz.func9 rfl rfl (by simp) (AD.run hT hmix ?_)
 refine .eff [(3,.box 43 (m.cs.map .p)),(2,.box 28 [.p (ints p)])] [(3,.box 43 (m.cs.map .p)),(2,.box 28 [.p (ints p)])] _ h' ⟨rfl,rfl,trivial⟩ rfl rfl rfl rfl ?_
 refine⟨_,_,rfl,rfl,?_⟩
 rw[← hmn];rfl
theorem sameInts04(a b:List Int):AFun Tryz.prog 47 [ints a,ints b] (.p (eB (decide (a=b)))):=by
 refine AFun.of hT Tryz.func47 rfl rfl (by simp) (AD.run hT hmix ?_)
 have e3:∀ x,decide (a=b)=x→EV.p (eB (decide (a=b)))=retEV [AV.imm (.bool x)]:=fun x h=>by rw[h];rfl
 have l1:(a.map eI).length=a.length:=List.length_map _
 have l2:(b.map eI).length=b.length:=List.length_map _
 intro _ _
 refine bgs (fun hb=>?_) (fun hb=>?_)
 ·refine⟨_,_,rfl,rfl,e3 _ (decide_eq_false fun h=>?_)⟩
  subst h;simp at hb
 have hb:a.length=b.length:=by
  have hb:(((a.map eI).length:Nat):Int)=(((b.map eI).length:Nat):Int):=by simpa using hb
  omega
 refine AD.loopI (fun i:Nat=>i≤a.length∧a.take i=b.take i) (fun i=>a.length - i) (fun i=>[(0,.p (ints a)),(1,.p (ints b)),(5,eint .i64 i)]) (fun _=>[]) 0 ⟨Nat.zero_le _,rfl⟩ .of fun i ⟨hi,ht⟩=>AD.run hT hmix ?_
 intro _
 refine bgs (fun hc=>?_) (fun hc=>?_)
 ·replace hc:=odt hc
  have hlt:i<a.length:=by omega
  have hlt2:i<b.length:=by omega
  refine igo_map i rfl hlt (igo_map i rfl hlt2 ⟨by kernel_rfl,?_⟩)
  refine bgs (fun hd=>?_) (fun hd=>?_)
  ·refine⟨_,_,rfl,rfl,e3 _ (decide_eq_false fun h=>?_)⟩
   subst h;simp at hd
  ·have hd:a[i]=b[i]:=by simpa using hd
   exact ngo_in (by omega) (by omega) ⟨i+1,⟨by omega,by rw[List.take_succ_eq_append_getElem hlt,List.take_succ_eq_append_getElem hlt2,ht,hd]⟩,by omega,.of⟩
 ·replace hc:=of_decide_eq_false hc
  refine⟨_,_,rfl,rfl,e3 _ (decide_eq_true ?_)⟩
  rw[List.take_of_length_le (by omega),List.take_of_length_le (by omega)] at ht
  exact ht
theorem fin_dg{env:Env}{h:AHp}{k:Nat}{e p:Int}{Q:Int→Prop}(he:Q e)(h2:lk env k=.loc k 0)(h3:hp h k=.box 103 [.p (eI e),.p (eI p)]):∃ es xs,resAll T env h [.cell k 103]=some es∧toPs es=some xs∧∃ e p,retEV xs=.p (Dg e p)∧Q e:=by
 have r2:resAll T env h [.cell k 103]=some [.agg [.p (eI e),.p (eI p)]]:=res_cell rfl h2 h3 rfl rfl
 exact⟨_,_,r2,rfl,e,p,rfl,he⟩
def parE(ps:List Param):List (ByteArray×Int):=ps.map fun q=>(q.name,1)
theorem check04(s:Spc)(hs:s.Fit)(hnm:∀ x∈s.sorts,x.name.size≤1048576)(calls:Int)(ps:List Param)(hps:ParamsOk s.sorts.length ps)(n:Nd)(hw:n.WF)(hsz:n.sz≤1048576):∃ e p,(e=0→30≤n.op∧∃ a,Ex s false (parE ps) n a)∧AFun Tryz.prog 104 [s.ex,eI calls,.slice 2 (ps.map Param.av),n.ex] (.p (Dg e p)):=by
 suffices hh:∃ y,(∃ e p,y=.p (Dg e p)∧(e=0→30≤n.op∧∃ a,Ex s false (parE ps) n a))∧AFun Tryz.prog 104 [s.ex,eI calls,.slice 2 (ps.map Param.av),n.ex] y by
  obtain⟨y,⟨e,p,rfl,h⟩,hf⟩:=hh
  exact⟨e,p,h,hf⟩
 refine AFunE.intro hT Tryz.func104 rfl rfl (by simp) ⟨_,1,0,rfl,fun h=>absurd h (by decide)⟩ (AD.run hT hmix ?_)
 refine .pure [n.ex] _ rfl (formula04 n) ?_
 refine bgs (fun hb=>fin_dg (fun h=>absurd h (by decide)) rfl rfl) (fun hb=>?_)
 have hb:30≤n.op:=by simpa using hb
 have h1:=hs.n1
 have h3:=hs.n3
 obtain⟨tl,_,htl⟩:=temporals04 s (by omega)
 refine .pure [s.ex] _ rfl htl ?_
 obtain⟨l,hl,hll,hlt,hlf⟩:=env04 ps (by have:=hps.1;omega) (fun q hq=>by have:=hps.2 q hq;omega)
 refine .pure [.slice 2 (ps.map Param.av)] _ rfl hlf ?_
 obtain⟨y,⟨a,f,e,p,rfl,hf,ha⟩,hx⟩:=examine04 s hs hnm n hw ⟨s,tl,calls,false⟩ l rfl hl (by have:=hps.1;omega)
 rw[Nd.av_ex] at hx
 refine .pure [Vw.av ⟨s,tl,calls,false⟩,.slice 66 (l.map Vr.av),n.ex] _ rfl hx ?_
 refine bgo_true (by rw[Bool.and_eq_true,Bool.and_eq_true];exact⟨len_beq hf,rfl,rfl⟩) ?_
 refine⟨by kernel_rfl,fin_dg (fun he=>⟨hb,a,?_⟩) rfl rfl⟩
 have:=ha he
 rw[hlt] at this
 exact this
theorem checkFormula04(s:Spc)(hs:s.Fit)(hnm:∀ x∈s.sorts,x.name.size≤1048576)(ps:List Param)(hps:ParamsOk s.sorts.length ps)(n:Nd)(hw:n.WF)(hsz:n.sz≤1048576):∃ e p,(e=0→30≤n.op∧∃ a,Ex s false (parE ps) n a)∧AFun Tryz.prog 53 [s.ex,.slice 2 (ps.map Param.av),n.ex] (.p (Dg e p)):=by
 obtain⟨e,p,h,hf⟩:=check04 s hs hnm (s.preds.map Prd.ex).length ps hps n hw hsz
 refine⟨e,p,h,AFun.of hT Tryz.func53 rfl rfl (by simp) (AD.run hT hmix ?_)⟩
 intro _
 refine .pure [s.ex,eI (s.preds.map Prd.ex).length,.slice 2 (ps.map Param.av),n.ex] _ rfl hf ?_
 have r2:∀ env h,lk env 6=.loc 6 0→hp h 6=.box 103 [.p (eI e),.p (eI p)]→resAll T env h [.cell 6 103]=some [.agg [.p (eI e),.p (eI p)]]:=fun env h h2 h3=>res_cell rfl h2 h3 rfl rfl
 exact⟨_,_,r2 _ _ rfl rfl,rfl,rfl⟩
abbrev Dgs:=List (Int×Int)
def dg2(x:Int×Int):AV:=Dg x.1 x.2
theorem dg_snoc(l:Dgs)(e p:Int):(l++[(e,p)]).map dg2=l.map dg2++[Dg e p]:=by simp[dg2]
theorem dg_len(l:Dgs)(e p:Int):(l++[(e,p)]).length=(l.map dg2++[Dg e p]).length:=by simp
set_option maxHeartbeats 1000000 in
theorem declared04(s:Spc)(hs:s.Fit):∃ es,(∃ l:Dgs,es=l.map dg2∧l.length≤20)∧AFunO Tryz.prog 102 [s.ex] 2 es:=by
 refine AFunOE.intro hT Tryz.func102 rfl rfl (by simp) ⟨_,[],rfl,by simp⟩ (AD.run hT hmix ?_)
 have hl1:(s.sorts.map Srt.av).length=s.sorts.length:=List.length_map _
 have hl2:(s.fields.map Fld.av).length=s.fields.length:=List.length_map _
 have n1:=hs.n1
 have n2:=hs.n2
 refine AD.loopI (fun x:Nat×Dgs=>x.1≤s.sorts.length∧x.2.length≤x.1) (fun x=>s.sorts.length - x.1) (fun x=>[(1,.loc 1 0),(3,.own 2 (x.2.map dg2) 42),(4,eint .i64 x.1)]) (fun x=>[(1,.box 27 (s.cx.map .p)),(42,.tail x.2.length)]) (0,[]) ⟨Nat.zero_le _,Nat.le_refl _⟩ .of fun ⟨i,l⟩ ⟨hi,hll⟩=>AD.run hT hmix ?_
 dsimp only at hi hll ⊢
 have hlm:(l.map dg2).length=l.length:=List.length_map _
 intro _
 refine bgs (fun hb=>?_) (fun hb=>?_)
 ·replace hb:=odt hb
  have hlt:i<s.sorts.length:=by omega
  refine AD.loopI (fun x:Nat×Bool=>x.1≤i) (fun x=>i - x.1) (fun x=>[(1,.loc 1 0),(3,.own 2 (l.map dg2) 42),(4,eint .i64 i),(5,.p (eB x.2)),(6,eint .i64 x.1)]) (fun x=>[(1,.box 27 (s.cx.map .p)),(42,.tail l.length)]) (0,false) (Nat.zero_le _) .of fun ⟨k,b⟩ hk=>AD.run hT hmix ?_
  dsimp only at hk ⊢
  refine bgs (fun hc=>?_) (fun hc=>?_)
  ·replace hc:=odt hc
   have hkt:k<s.sorts.length:=by omega
   refine bgs (fun hd=>?_) (fun hd=>?_)
   ·exact⟨by kernel_rfl,ngo_in (by omega) (by omega) ⟨(k+1,true),by dsimp only;omega,by dsimp only;omega,.of⟩⟩
   ·refine igo_map k rfl hkt (igo_map i rfl hlt ⟨by kernel_rfl,ngo_in (by omega) (by omega) ⟨(k+1,_),by dsimp only;omega,by dsimp only;omega,.of⟩⟩)
  ·refine bgs (fun hd=>?_) (fun hd=>?_)
   ·refine⟨hlm.symm,⟨by simp;omega,by simp;omega⟩,ngo_in (by omega) (by omega) ⟨(i+1,l++[(41,0)]),⟨by dsimp only;omega,by simp;omega⟩,by dsimp only;omega,?_⟩⟩
    dsimp only
    rw[dg_snoc,dg_len]
    exact .of
   ·exact ngo_in (by omega) (by omega) ⟨(i+1,l),⟨by dsimp only;omega,by dsimp only;omega⟩,by dsimp only;omega,.of⟩
 ·clear hb
  refine AD.loopI (fun x:Nat×Dgs=>x.1≤s.fields.length∧x.2.length≤4+x.1) (fun x=>s.fields.length - x.1) (fun x=>[(1,.loc 1 0),(3,.own 2 (x.2.map dg2) 42),(7,eint .i64 x.1)]) (fun x=>[(1,.box 27 (s.cx.map .p)),(42,.tail x.2.length)]) (0,l) ⟨Nat.zero_le _,by dsimp only;omega⟩ .of fun ⟨i,l⟩ ⟨hi,hll⟩=>AD.run hT hmix ?_
  dsimp only at hi hll ⊢
  have hlm:(l.map dg2).length=l.length:=List.length_map _
  intro _
  refine bgs (fun hb=>?_) (fun hb=>?_)
  ·replace hb:=odt hb
   have hlt:i<s.fields.length:=by omega
   refine AD.loopI (fun x:Nat×Bool=>x.1≤i) (fun x=>i - x.1) (fun x=>[(1,.loc 1 0),(3,.own 2 (l.map dg2) 42),(7,eint .i64 i),(8,.p (eB x.2)),(9,eint .i64 x.1)]) (fun x=>[(1,.box 27 (s.cx.map .p)),(42,.tail l.length)]) (0,false) (Nat.zero_le _) .of fun ⟨k,b⟩ hk=>AD.run hT hmix ?_
   dsimp only at hk ⊢
   refine bgs (fun hc=>?_) (fun hc=>?_)
   ·replace hc:=odt hc
    have hkt:k<s.fields.length:=by omega
    refine bgs (fun hd=>?_) (fun hd=>?_)
    ·exact⟨by kernel_rfl,ngo_in (by omega) (by omega) ⟨(k+1,true),by dsimp only;omega,by dsimp only;omega,.of⟩⟩
    ·refine igo_map k rfl hkt (igo_map i rfl hlt ?_)
     refine bgs (fun he=>?_) (fun he=>?_)
     ·refine igo_map k rfl hkt (igo_map i rfl hlt ?_)
      refine .pure [ints s.fields[k].sorts,ints s.fields[i].sorts] _ rfl (sameInts04 _ _) ⟨by kernel_rfl,ngo_in (by omega) (by omega) ⟨(k+1,_),by dsimp only;omega,by dsimp only;omega,.of⟩⟩
     ·exact⟨by kernel_rfl,ngo_in (by omega) (by omega) ⟨(k+1,false),by dsimp only;omega,by dsimp only;omega,.of⟩⟩
   ·refine bgs (fun hd=>?_) (fun hd=>?_)
    ·refine⟨hlm.symm,⟨by simp;omega,by simp;omega⟩,ngo_in (by omega) (by omega) ⟨(i+1,l++[(41,0)]),⟨by dsimp only;omega,by simp;omega⟩,by dsimp only;omega,?_⟩⟩
     dsimp only
     rw[dg_snoc,dg_len]
     exact .of
    ·exact ngo_in (by omega) (by omega) ⟨(i+1,l),⟨by dsimp only;omega,by dsimp only;omega⟩,by dsimp only;omega,.of⟩
  ·exact⟨by decide,_,_,rfl,.inr ⟨42,rfl,by rw[hlm];rfl⟩,l,rfl,by omega⟩
set_option maxHeartbeats 1000000 in
theorem defined04(s:Spc)(hs:s.Fit)(hnm:∀ x∈s.sorts,x.name.size≤1048576)(i:Nat)(hi:i<s.preds.length)(hsz:s.preds[i].body.sz≤1048576):∃ l:Dgs,(l.length≤20∧(l=[]→30≤s.preds[i].body.op∧∃ a,Ex s false (parE s.preds[i].params) s.preds[i].body a))∧AFun Tryz.prog 103 [s.ex,eI i] (.p (.slice 2 (l.map dg2))):=by
 suffices hh:∃ y,(∃ l:Dgs,y=.p (.slice 2 (l.map dg2))∧l.length≤20∧(l=[]→30≤s.preds[i].body.op∧∃ a,Ex s false (parE s.preds[i].params) s.preds[i].body a))∧AFun Tryz.prog 103 [s.ex,eI i] y by
  obtain⟨y,⟨l,rfl,h⟩,hf⟩:=hh
  exact⟨l,h,hf⟩
 have hpr:=hs.prd _ (List.getElem_mem hi)
 refine AFunE.intro hT Tryz.func103 rfl rfl (by simp) ⟨_,[(1,1)],rfl,by simp⟩ (AD.cut hT hmix 4 (fun l:Dgs=>l.length≤1) (fun l=>[(1,eint .i64 i),(2,.loc 2 0),(5,.own 2 (l.map dg2) 24)]) (fun l=>[(2,.box 27 (s.cx.map .p)),(24,.tail l.length)]) ?_ fun l hl0=>AD.run hT hmix ?_)
 ·obtain⟨p,hp,hpf⟩:=pred04 s i s.preds[i].name
  refine igo_map i rfl hi (.pure [s.ex,eI i,eS s.preds[i].name] _ rfl hpf ⟨by kernel_rfl,?_⟩)
  refine bgs (fun hb=>?_) (fun hb=>?_)
  ·exact⟨⟨by simp,by simp⟩,[(41,0)],by simp,.of⟩
  ·exact⟨[],by simp,.of⟩
 ·have hpp:(s.preds[i].params.map Param.av).length=s.preds[i].params.length:=List.length_map _
  refine igo_map i rfl hi ?_
  refine AD.loopI (fun x:Nat×Dgs=>x.1≤s.preds[i].params.length∧x.2.length≤1+x.1) (fun x=>s.preds[i].params.length - x.1) (fun x=>[(1,eint .i64 i),(2,.loc 2 0),(5,.own 2 (x.2.map dg2) 24),(6,.p (.slice 2 (s.preds[i].params.map Param.av))),(7,eint .i64 x.1)]) (fun x=>[(2,.box 27 (s.cx.map .p)),(24,.tail x.2.length)]) (0,l) ⟨Nat.zero_le _,hl0⟩ .of fun ⟨j,l⟩ ⟨hj,hll⟩=>AD.run hT hmix ?_
  dsimp only at hj hll ⊢
  have h8:=hpr.1.1
  have hlm:(l.map dg2).length=l.length:=List.length_map _
  intro _
  refine bgs (fun hb=>?_) (fun hb=>?_)
  ·replace hb:=odt hb
   have hlt:j<s.preds[i].params.length:=by omega
   refine AD.loopI (fun x:Nat×Bool=>x.1≤j) (fun x=>j - x.1) (fun x=>[(1,eint .i64 i),(2,.loc 2 0),(5,.own 2 (l.map dg2) 24),(6,.p (.slice 2 (s.preds[i].params.map Param.av))),(7,eint .i64 j),(8,.p (eB x.2)),(9,eint .i64 x.1)]) (fun x=>[(2,.box 27 (s.cx.map .p)),(24,.tail l.length)]) (0,false) (Nat.zero_le _) .of fun ⟨k,b⟩ hk=>AD.run hT hmix ?_
   dsimp only at hk ⊢
   refine bgs (fun hc=>?_) (fun hc=>?_)
   ·replace hc:=odt hc
    have hkt:k<s.preds[i].params.length:=by omega
    refine bgs (fun hd=>?_) (fun hd=>?_)
    ·exact⟨by kernel_rfl,ngo_in (by omega) (by omega) ⟨(k+1,true),by dsimp only;omega,by dsimp only;omega,.of⟩⟩
    ·exact igo_map k rfl hkt (igo_map j rfl hlt ⟨by kernel_rfl,ngo_in (by omega) (by omega) ⟨(k+1,_),by dsimp only;omega,by dsimp only;omega,.of⟩⟩)
   ·refine bgs (fun hd=>?_) (fun hd=>?_)
    ·refine⟨hlm.symm,⟨by simp;omega,by simp;omega⟩,ngo_in (by omega) (by omega) ⟨(j+1,l++[(41,0)]),⟨by dsimp only;omega,by simp;omega⟩,by dsimp only;omega,?_⟩⟩
     dsimp only
     rw[dg_snoc,dg_len]
     exact .of
    ·exact ngo_in (by omega) (by omega) ⟨(j+1,l),⟨by dsimp only;omega,by dsimp only;omega⟩,by dsimp only;omega,.of⟩
  ·obtain⟨e,p,he,hf⟩:=check04 s hs hnm i s.preds[i].params hpr.1 s.preds[i].body hpr.2 hsz
   refine igo_map i rfl hi (.pure [s.ex,eI i,.slice 2 (s.preds[i].params.map Param.av),s.preds[i].body.ex] _ rfl hf ⟨by kernel_rfl,?_⟩)
   refine bgs (fun hc=>?_) (fun hc=>?_)
   ·refine⟨hlm.symm,⟨by simp;omega,by simp;omega⟩,_,_,rfl,rfl,l++[(e,p)],by rw[dg_snoc];rfl,by simp;omega,by simp⟩
   ·exact⟨_,_,rfl,rfl,l,rfl,by omega,fun _=>he (by simpa using hc)⟩
structure Spc.Acc(s:Spc):Prop where
 prd:∀ p∈s.preds,30≤p.body.op∧∃ a,Ex s false (parE p.params) p.body a
 fct:∀ f∈s.facts,30≤f.body.op∧∃ a,Ex s false [] f.body a
structure Spc.Few(s:Spc):Prop where
 nm:∀ x∈s.sorts,x.name.size≤1048576
 prd:∀ p∈s.preds,p.body.sz≤1048576
 fct:∀ f∈s.facts,f.body.sz≤1048576
set_option maxHeartbeats 1000000 in
theorem checkSpec04(s:Spc)(hs:s.Fit)(hfw:s.Few):∃ l:Dgs,(l=[]→s.Acc)∧AFun Tryz.prog 52 [s.ex] (.p (.slice 2 (l.map dg2))):=by
 suffices hh:∃ y,(∃ l:Dgs,y=.p (.slice 2 (l.map dg2))∧(l=[]→s.Acc))∧AFun Tryz.prog 52 [s.ex] y by
  obtain⟨y,⟨l,rfl,h⟩,hf⟩:=hh
  exact⟨l,h,hf⟩
 obtain⟨hnm,hps,hfs⟩:=hfw
 refine AFunE.intro hT Tryz.func52 rfl rfl (by simp) ⟨_,[(1,1)],rfl,by simp⟩ (AD.run hT hmix ?_)
 have hl1:(s.preds.map Prd.ex).length=s.preds.length:=List.length_map _
 have hl2:(s.facts.map Fct.ex).length=s.facts.length:=List.length_map _
 have n3:=hs.n3
 have n4:=hs.n4
 obtain⟨_,⟨l0,rfl,hl0⟩,hd⟩:=declared04 s hs
 refine .own [s.ex] 2 _ 10 rfl hd rfl rfl ?_
 refine AD.loopI (fun x:Nat×Dgs=>x.1≤s.preds.length∧x.2.length≤20+20*x.1∧(x.2=[]→∀ p∈s.preds.take x.1,30≤p.body.op∧∃ a,Ex s false (parE p.params) p.body a)) (fun x=>s.preds.length - x.1) (fun x=>[(1,.loc 1 0),(3,.own 2 (x.2.map dg2) 10),(4,eint .i64 x.1)]) (fun x=>[(1,.box 27 (s.cx.map .p)),(10,.tail (x.2.map dg2).length)]) (0,l0) ⟨Nat.zero_le _,hl0,by simp⟩ .of fun ⟨i,l⟩ ⟨hi,hll,hac⟩=>AD.run hT hmix ?_
 dsimp only at hi hll hac ⊢
 have hlm:(l.map dg2).length=l.length:=List.length_map _
 intro _
 refine bgs (fun hb=>?_) (fun hb=>?_)
 ·replace hb:=odt hb
  have hlt:i<s.preds.length:=by omega
  obtain⟨l2,⟨h20,hex⟩,hdf⟩:=defined04 s hs hnm i hlt (hps _ (List.getElem_mem hlt))
  have hl2m:(l2.map dg2).length=l2.length:=List.length_map _
  refine .pure [s.ex,eI i] _ rfl hdf ⟨rfl,⟨by rw[hl2m,hlm];show(l.length+l2.length)*16≤140737488355328;omega,by rw[hl2m];omega⟩,ngo_in (by omega) (by omega) ⟨(i+1,l++l2),⟨by dsimp only;omega,by simp;omega,fun h=>?_⟩,by dsimp only;omega,?_⟩⟩
  ·obtain⟨rfl,rfl⟩:=List.append_eq_nil_iff.1 h
   exact take_step hlt (hac rfl) (hex rfl)
  ·dsimp only
   rw[List.map_append]
   exact .of
 replace hb:=of_decide_eq_false hb
 obtain rfl:i=s.preds.length:=by omega
 rw[List.take_length] at hac
 refine AD.loopI (fun x:Nat×Dgs=>x.1≤s.facts.length∧x.2.length≤200+2*x.1∧(x.2=[]→(∀ p∈s.preds,30≤p.body.op∧∃ a,Ex s false (parE p.params) p.body a)∧∀ f∈s.facts.take x.1,30≤f.body.op∧∃ a,Ex s false [] f.body a)) (fun x=>s.facts.length - x.1) (fun x=>[(1,.loc 1 0),(3,.own 2 (x.2.map dg2) 10),(5,eint .i64 x.1)]) (fun x=>[(1,.box 27 (s.cx.map .p)),(10,.tail (x.2.map dg2).length)]) (0,l) ⟨Nat.zero_le _,by dsimp only;omega,fun h=>⟨hac h,by simp⟩⟩ .of fun ⟨i,l⟩ ⟨hi,hll,hac⟩=>AD.run hT hmix ?_
 dsimp only at hi hll hac ⊢
 have hlm:(l.map dg2).length=l.length:=List.length_map _
 intro _
 refine bgs (fun hb=>?_) (fun hb=>?_)
 ·replace hb:=odt hb
  have hlt:i<s.facts.length:=by omega
  refine AD.loopI (fun x:Nat×Bool=>x.1≤i) (fun x=>i - x.1) (fun x=>[(1,.loc 1 0),(3,.own 2 (l.map dg2) 10),(5,eint .i64 i),(6,.p (eB x.2)),(7,eint .i64 x.1)]) (fun x=>[(1,.box 27 (s.cx.map .p)),(10,.tail (l.map dg2).length)]) (0,false) (Nat.zero_le _) .of fun ⟨k,b⟩ hk=>AD.run hT hmix ?_
  dsimp only at hk ⊢
  refine bgs (fun hc=>?_) (fun hc=>?_)
  ·replace hc:=odt hc
   have hkt:k<s.facts.length:=by omega
   refine bgs (fun hd=>?_) (fun hd=>?_)
   ·exact⟨by kernel_rfl,ngo_in (by omega) (by omega) ⟨(k+1,true),by dsimp only;omega,by dsimp only;omega,.of⟩⟩
   ·exact igo_map k rfl hkt (igo_map i rfl hlt ⟨by kernel_rfl,ngo_in (by omega) (by omega) ⟨(k+1,_),by dsimp only;omega,by dsimp only;omega,.of⟩⟩)
  ·refine bgs (fun hd=>?_) (fun hd=>?_)
   ·refine⟨rfl,⟨by simp;omega,by simp;omega⟩,?_⟩
    obtain⟨e,p,he,hf⟩:=checkFormula04 s hs hnm [] ⟨by simp,nofun⟩ s.facts[i].body (hs.fct _ (List.getElem_mem hlt)) (hfs _ (List.getElem_mem hlt))
    refine igo_map i rfl hlt (.pure [s.ex,.slice 2 [],s.facts[i].body.ex] _ rfl hf ⟨by kernel_rfl,?_⟩)
    refine bgs (fun hc2=>?_) (fun hc2=>?_)
    ·refine⟨(by simp),⟨by simp;omega,by simp;omega⟩,ngo_in (by omega) (by omega) ⟨(i+1,(l++[(41,0)])++[(e,p)]),⟨by dsimp only;omega,by simp;omega,fun h=>absurd h (by simp)⟩,by dsimp only;omega,?_⟩⟩
     dsimp only
     rw[dg_snoc,dg_snoc]
     exact .of
    ·refine ngo_in (by omega) (by omega) ⟨(i+1,(l++[(41,0)])),⟨by dsimp only;omega,by simp;omega,fun h=>?_⟩,by dsimp only;omega,(by dsimp only;rw[dg_snoc];exact .of)⟩
     simp at h
   ·skip
    obtain⟨e,p,he,hf⟩:=checkFormula04 s hs hnm [] ⟨by simp,nofun⟩ s.facts[i].body (hs.fct _ (List.getElem_mem hlt)) (hfs _ (List.getElem_mem hlt))
    refine igo_map i rfl hlt (.pure [s.ex,.slice 2 [],s.facts[i].body.ex] _ rfl hf ⟨by kernel_rfl,?_⟩)
    refine bgs (fun hc2=>?_) (fun hc2=>?_)
    ·refine⟨(by simp),⟨by simp;omega,by simp;omega⟩,ngo_in (by omega) (by omega) ⟨(i+1,l++[(e,p)]),⟨by dsimp only;omega,by simp;omega,fun h=>absurd h (by simp)⟩,by dsimp only;omega,?_⟩⟩
     dsimp only
     rw[dg_snoc]
     exact .of
    ·refine ngo_in (by omega) (by omega) ⟨(i+1,l),⟨by dsimp only;omega,by simp;omega,fun h=>?_⟩,by dsimp only;omega,.of⟩
     exact⟨(hac h).1,take_step hlt (hac h).2 (he (by simpa using hc2))⟩
 replace hb:=of_decide_eq_false hb
 obtain rfl:i=s.facts.length:=by omega
 rw[List.take_length] at hac
 exact⟨_,_,rfl,rfl,l,rfl,fun h=>⟨(hac h).1,(hac h).2⟩⟩
theorem digits04:∀ (k:Nat) (n:Int),k≤18→n<10 ^ (k+1)→∃ b:ByteArray,b.size≤k+1∧AFun Tryz.prog 246 [eI n] (.p (eS b)):=by
 intro k
 induction k with
 | zero=>
  intro n _ hn
  have hn:n<10:=by simpa using hn
  suffices hh:∃ y,(∃ b:ByteArray,y=.p (eS b)∧b.size≤0+1)∧AFun Tryz.prog 246 [eI n] y by
   obtain⟨y,⟨b,rfl,h⟩,hf⟩:=hh
   exact⟨b,h,hf⟩
  refine AFunE.intro hT Tryz.func246 rfl rfl (by simp) ⟨_,⟨#[]⟩,rfl,by decide⟩ (AD.run hT hmix ?_)
  exact bgo_true (decide_eq_true hn) ⟨_,rfl,_,rfl,_,_,rfl,rfl,_,rfl,by rw[strOfNums_size];simp⟩
 | succ k ih=>
  intro n hk hn
  suffices hh:∃ y,(∃ b:ByteArray,y=.p (eS b)∧b.size≤k+1+1)∧AFun Tryz.prog 246 [eI n] y by
   obtain⟨y,⟨b,rfl,h⟩,hf⟩:=hh
   exact⟨b,h,hf⟩
  refine AFunE.intro hT Tryz.func246 rfl rfl (by simp) ⟨_,⟨#[]⟩,rfl,by simp[ByteArray.size]⟩ (AD.run hT hmix ?_)
  refine bgs (fun hb=>⟨_,rfl,_,rfl,_,_,rfl,rfl,_,rfl,by rw[strOfNums_size];simp⟩) (fun hb=>?_)
  replace hb:=of_decide_eq_false hb
  obtain⟨m,rfl⟩:=Int.eq_ofNat_of_zero_le (show 0≤n by omega)
  have e10:(10:Int) ^ (k+1+1)=((10 ^ (k+1)*10:Nat):Int):=by rw[Int.pow_succ];simp
  have e11:(10:Int) ^ (k+1)=((10 ^ (k+1):Nat):Int):=by simp
  rw[e10] at hn
  have hm:m<10 ^ (k+1)*10:=by omega
  have hm2:m / 10<10 ^ (k+1):=Nat.div_lt_of_lt_mul (by omega)
  have hbig:10 ^ (k+1)≤10 ^ 18:=Nat.pow_le_pow_right (by omega) (by omega)
  obtain⟨b,hbs,hf⟩:=ih ((m / 10:Nat):Int) (by omega) (by rw[e11];omega)
  refine⟨by decide,_,(show IntKind.i64.wrap ((m:Int).tdiv 10)=((m / 10:Nat):Int) from wrap64_in (n:=((m / 10:Nat):Int)) (by omega) (by omega)),?_⟩
  refine .pure [eI ((m / 10:Nat):Int)] _ rfl hf ?_
  refine⟨by decide,_,rfl,_,rfl,_,rfl,?_⟩
  refine⟨by rw[strOfNums_size];simp;omega,by kernel_rfl,_,_,rfl,rfl,_,rfl,?_⟩
  rw[ByteArray.size_append,strOfNums_size]
  simp;omega
theorem has04(l:List ByteArray)(nm:ByteArray):∃ b:Bool,AFun Tryz.prog 247 [.slice 1 (l.map eS),eS nm] (.p (eB b)):=by
 suffices hh:∃ y,(∃ b:Bool,y=.p (eB b))∧AFun Tryz.prog 247 [.slice 1 (l.map eS),eS nm] y by
  obtain⟨y,⟨b,rfl⟩,hf⟩:=hh
  exact⟨b,hf⟩
 have hl:(l.map eS).length=l.length:=List.length_map _
 refine AFunE.intro hT Tryz.func247 rfl rfl (by simp) ⟨_,true,rfl⟩ (AD.run hT hmix ?_)
 refine AD.loopI (fun i:Nat=>i≤l.length) (fun i=>l.length - i) (fun i=>[(0,.p (.slice 1 (l.map eS))),(1,.p (eS nm)),(5,eint .i64 i)]) (fun _=>[]) 0 (Nat.zero_le _) .of fun i hi=>AD.run hT hmix ?_
 intro _
 refine bgs (fun hb=>?_) (fun hb=>⟨_,_,rfl,rfl,_,rfl⟩)
 replace hb:=odt hb
 have hlt:i<l.length:=by omega
 refine igo_map i rfl hlt ?_
 exact bgs (fun hc=>⟨_,_,rfl,rfl,_,rfl⟩) (fun hc=>ngo_in (by omega) (by omega) ⟨i+1,by omega,by omega,.of⟩)
theorem depth04(n:Nd):∃ r:Int,AFun Tryz.prog 173 [n.ex] (.p (eI r)):=by
 induction n using Nd.ind with
 | h n ih=>
  suffices hh:∃ y,(∃ r:Int,y=.p (eI r))∧AFun Tryz.prog 173 [n.ex] y by
   obtain⟨y,⟨r,rfl⟩,hf⟩:=hh
   exact⟨r,hf⟩
  have hl:(n.kids.map Nd.av).length=n.kids.length:=List.length_map _
  refine AFunE.intro hT Tryz.func173 rfl rfl (by simp) ⟨_,1,rfl⟩ (AD.run hT hmix ?_)
  refine AD.loopI (fun x:Nat×Int=>x.1≤n.kids.length) (fun x=>n.kids.length - x.1) (fun x=>[(1,.loc 1 0),(3,.p (eI x.2)),(4,eint .i64 x.1)]) (fun _=>[(1,.box 35 ([eI n.op,eS n.name,eI n.n,.slice 5 (n.kids.map Nd.av),eI n.at_].map .p))]) (0,0) (Nat.zero_le _) .of fun ⟨i,d⟩ hi=>AD.run hT hmix ?_
  dsimp only at hi ⊢
  intro _
  refine bgs (fun hb=>?_) (fun hb=>⟨_,rfl,_,_,rfl,rfl,_,rfl⟩)
  replace hb:=odt hb
  have hlt:i<n.kids.length:=by omega
  obtain⟨r,hf⟩:=ih _ (List.getElem_mem hlt)
  rw[← Nd.av_ex] at hf
  exact igo_map i rfl hlt (.pure _ _ rfl hf (ngo_in (by omega) (by omega) ⟨(i+1,_),by dsimp only;omega,by dsimp only;omega,.of⟩))
theorem szs_take:∀ (l:List Nd) {i:Nat} (h:i<l.length),Nd.szs (l.take (i+1))=Nd.szs (l.take i)+l[i].sz
 | x::r,0,h=>by simp[Nd.szs]
 | x::r,i+1,h=>by
  have:=szs_take r (i:=i) (by simpa using h)
  simp only[List.take_succ_cons,Nd.szs,List.getElem_cons_succ,this];omega
theorem szs_le(n:Nd)(i:Nat):1+Nd.szs (n.kids.take i)≤n.sz:=by
 cases n with
 | mk op name num kids a=>
  show 1+Nd.szs (kids.take i)≤_
  rw[Nd.sz]
  have:∀ (l:List Nd) (i:Nat),Nd.szs (l.take i)≤Nd.szs l:=by
   intro l
   induction l with
   | nil=>intro i;simp
   | cons x r ih=>intro i;cases i with
    | zero=>simp[Nd.szs]
    | succ i=>simp only[List.take_succ_cons,Nd.szs];have:=ih i;omega
  have:=this kids i
  omega
theorem names04(n:Nd):∀ (l:List ByteArray),l.length+n.sz≤100000000→∃ l':List ByteArray,l'.length≤l.length+n.sz∧EFun Tryz.prog 226 [.own 1 (l.map eS) 9000,.p n.ex] [(9000,.tail (l.map eS).length)] (.own 1 (l'.map eS) 9000) [(9000,.tail (l'.map eS).length)]:=by
 induction n using Nd.ind with
 | h n ih=>
  intro l hl
  have hll:(l.map eS).length=l.length:=List.length_map _
  suffices hh:∃ y h1,(∃ l':List ByteArray,y=.own 1 (l'.map eS) 9000∧h1=[(9000,.tail (l'.map eS).length)]∧l'.length≤l.length+n.sz)∧EFun Tryz.prog 226 [.own 1 (l.map eS) 9000,.p n.ex] [(9000,.tail (l.map eS).length)] y h1 by
   obtain⟨y,h1,⟨l',rfl,rfl,hb⟩,hf⟩:=hh
   exact⟨l',hb,hf⟩
  have hkl:(n.kids.map Nd.av).length=n.kids.length:=List.length_map _
  have hsz1:1≤n.sz:=by cases n;rw[Nd.sz];omega
  refine EFunE.intro hT Tryz.func226 rfl rfl (by simp) rfl ⟨_,_,[],rfl,rfl,by simp⟩ (AD.cut hT hmix 3 (fun l1:List ByteArray=>l1.length≤l.length+1) (fun l1=>[(0,.own 1 (l1.map eS) 9000),(3,.loc 3 0)]) (fun l1=>[(3,.box 35 ([eI n.op,eS n.name,eI n.n,.slice 5 (n.kids.map Nd.av),eI n.at_].map .p)),(9000,.tail (l1.map eS).length)]) ?_ fun l1 hl1=>AD.run hT hmix ?_)
  ·refine bgs (fun hb=>?_) (fun hb=>?_)
   ·refine⟨rfl,⟨by simp;omega,by simp;omega⟩,l++[n.name],by simp,?_⟩
    dsimp only
    rw[List.map_append]
    exact .of
   ·exact⟨l,by omega,.of⟩
  ·refine AD.loopI (fun x:Nat×List ByteArray=>x.1≤n.kids.length∧x.2.length≤l.length+1+Nd.szs (n.kids.take x.1)) (fun x=>n.kids.length - x.1) (fun x=>[(0,.own 1 (x.2.map eS) 9000),(3,.loc 3 0),(5,eint .i64 x.1)]) (fun x=>[(3,.box 35 ([eI n.op,eS n.name,eI n.n,.slice 5 (n.kids.map Nd.av),eI n.at_].map .p)),(9000,.tail (x.2.map eS).length)]) (0,l1) ⟨Nat.zero_le _,by simpa[Nd.szs] using hl1⟩ .of fun ⟨i,l2⟩ ⟨hi,hl2⟩=>AD.run hT hmix ?_
   dsimp only at hi hl2 ⊢
   intro _
   refine bgs (fun hb=>?_) (fun hb=>?_)
   ·replace hb:=odt hb
    have hlt:i<n.kids.length:=by omega
    have hz:=szs_take n.kids hlt
    have hz2:=szs_le n (i+1)
    obtain⟨l3,hl3,hf⟩:=ih _ (List.getElem_mem hlt) l2 (by omega)
    rw[← Nd.av_ex] at hf
    refine igo_map i rfl hlt (.eff [(9000,.tail (l2.map eS).length)] [(9000,.tail (l3.map eS).length)] _ hf ⟨rfl,trivial⟩ rfl rfl rfl rfl ?_)
    exact ngo_in (by omega) (by omega) ⟨(i+1,l3),⟨by dsimp only;omega,by dsimp only;omega⟩,by dsimp only;omega,.of⟩
   ·replace hb:=of_decide_eq_false hb
    obtain rfl:i=n.kids.length:=by omega
    have hz2:=szs_le n n.kids.length
    exact⟨_,[.own 1 (l2.map eS) 9000],[(9000,.tail (l2.map eS).length)],rfl,.of,rfl,l2,rfl,rfl,by omega⟩
theorem names04n(n:Nd)(hn:n.sz≤10000000):∃ l':List ByteArray,l'.length≤([]:List ByteArray).length+n.sz∧EFun Tryz.prog 226 [.full 1 [],.p n.ex] [] (.own 1 (l'.map eS) 9000) [(9000,.tail (l'.map eS).length)]:=by
 suffices hh:∃ y h1,(∃ l':List ByteArray,y=.own 1 (l'.map eS) 9000∧h1=[(9000,.tail (l'.map eS).length)]∧l'.length≤([]:List ByteArray).length+n.sz)∧EFun Tryz.prog 226 [.full 1 [],.p n.ex] [] y h1 by
  obtain⟨y,h1,⟨l',rfl,rfl,hb⟩,hf⟩:=hh
  exact⟨l',hb,hf⟩
 have hkl:(n.kids.map Nd.av).length=n.kids.length:=List.length_map _
 have hsz1:1≤n.sz:=by cases n;rw[Nd.sz];omega
 refine EFunE.intro hT Tryz.func226 rfl rfl (by simp) rfl ⟨_,_,[],rfl,rfl,by simp⟩ (AD.cut hT hmix 3 (fun l1:List ByteArray=>l1.length≤([]:List ByteArray).length+1) (fun l1=>[(0,.own 1 (l1.map eS) 9000),(3,.loc 3 0)]) (fun l1=>[(3,.box 35 ([eI n.op,eS n.name,eI n.n,.slice 5 (n.kids.map Nd.av),eI n.at_].map .p)),(9000,.tail (l1.map eS).length)]) ?_ fun l1 hl1=>AD.run hT hmix ?_)
 ·refine bgs (fun hb=>?_) (fun hb=>?_)
  ·exact⟨⟨by simp,by simp⟩,[n.name],by simp,.trans (.ren 13 9000) .of⟩
  ·exact⟨[],by simp,.of⟩
 ·refine AD.loopI (fun x:Nat×List ByteArray=>x.1≤n.kids.length∧x.2.length≤([]:List ByteArray).length+1+Nd.szs (n.kids.take x.1)) (fun x=>n.kids.length - x.1) (fun x=>[(0,.own 1 (x.2.map eS) 9000),(3,.loc 3 0),(5,eint .i64 x.1)]) (fun x=>[(3,.box 35 ([eI n.op,eS n.name,eI n.n,.slice 5 (n.kids.map Nd.av),eI n.at_].map .p)),(9000,.tail (x.2.map eS).length)]) (0,l1) ⟨Nat.zero_le _,by simpa[Nd.szs] using hl1⟩ .of fun ⟨i,l2⟩ ⟨hi,hl2⟩=>AD.run hT hmix ?_
  dsimp only at hi hl2 ⊢
  intro _
  refine bgs (fun hb=>?_) (fun hb=>?_)
  ·replace hb:=odt hb
   have hlt:i<n.kids.length:=by omega
   have hz:=szs_take n.kids hlt
   have hz2:=szs_le n (i+1)
   obtain⟨l3,hl3,hf⟩:=names04 n.kids[i] l2 (by simp at hl2;omega)
   rw[← Nd.av_ex] at hf
   refine igo_map i rfl hlt (.eff [(9000,.tail (l2.map eS).length)] [(9000,.tail (l3.map eS).length)] _ hf ⟨rfl,trivial⟩ rfl rfl rfl rfl ?_)
   exact ngo_in (by omega) (by omega) ⟨(i+1,l3),⟨by dsimp only;omega,by dsimp only;omega⟩,by dsimp only;omega,.of⟩
  ·replace hb:=of_decide_eq_false hb
   obtain rfl:i=n.kids.length:=by omega
   have hz2:=szs_le n n.kids.length
   exact⟨_,[.own 1 (l2.map eS) 9000],[(9000,.tail (l2.map eS).length)],rfl,.of,rfl,l2,rfl,rfl,by omega⟩
theorem taken04(s:Spc)(hs:s.Fit)(hf:s.Few)(n:Nd)(hn:n.sz≤1048576):∃ l:List ByteArray,l.length≤10000000∧AFun Tryz.prog 172 [s.ex,n.ex] (.p (.slice 1 (l.map eS))):=by
 suffices hh:∃ y,(∃ l:List ByteArray,y=.p (.slice 1 (l.map eS))∧l.length≤10000000)∧AFun Tryz.prog 172 [s.ex,n.ex] y by
  obtain⟨y,⟨l,rfl,h⟩,hf⟩:=hh
  exact⟨l,h,hf⟩
 have hl1:(s.preds.map Prd.ex).length=s.preds.length:=List.length_map _
 have n3:=hs.n3
 refine AFunE.intro hT Tryz.func172 rfl rfl (by simp) ⟨_,[],rfl,by simp⟩ (AD.run hT hmix ?_)
 obtain⟨l0,hl0,hf0⟩:=names04n n (by omega)
 simp only[List.length_nil,Nat.zero_add] at hl0
 refine .eff [] [(9000,.tail (l0.map eS).length)] _ (hf0.le ⟨.inl rfl,.inr ⟨_,rfl,rfl⟩,trivial⟩) ⟨rfl,trivial⟩ rfl rfl rfl rfl ?_
 refine AD.loopI (fun x:Nat×List ByteArray=>x.1≤s.preds.length∧x.2.length≤1048576+1048576*x.1) (fun x=>s.preds.length - x.1) (fun x=>[(2,.loc 2 0),(5,.own 1 (x.2.map eS) 9000),(6,eint .i64 x.1)]) (fun x=>[(2,.box 27 (s.cx.map .p)),(9000,.tail (x.2.map eS).length)]) (0,l0) ⟨Nat.zero_le _,by dsimp only;omega⟩ .of fun ⟨i,l2⟩ ⟨hi,hl2⟩=>AD.run hT hmix ?_
 dsimp only at hi hl2 ⊢
 intro _
 refine bgs (fun hb=>?_) (fun hb=>?_)
 ·replace hb:=odt hb
  have hlt:i<s.preds.length:=by omega
  have hp:=hf.prd _ (List.getElem_mem hlt)
  obtain⟨l3,hl3,hf3⟩:=names04 s.preds[i].body l2 (by omega)
  refine igo_map i rfl hlt (.eff [(9000,.tail (l2.map eS).length)] [(9000,.tail (l3.map eS).length)] _ hf3 ⟨rfl,trivial⟩ rfl rfl rfl rfl ?_)
  exact ngo_in (by omega) (by omega) ⟨(i+1,l3),⟨by dsimp only;omega,by dsimp only;omega⟩,by dsimp only;omega,.of⟩
 ·exact⟨_,_,rfl,rfl,l2,rfl,by omega⟩
structure Wk where
 sp:Spc
 taken:List ByteArray
 last:Int
 cost:Int
def Wk.cs(w:Wk):List AV:=w.sp.cx++[.slice 1 (w.taken.map eS),eI w.last,eI w.cost]
def Wk.av(w:Wk):AV:=.agg w.cs
structure Rp where
 name:ByteArray
 to:ByteArray
 param:Bool
 arg:Nd
 size:Int
def Rp.av(x:Rp):AV:=.agg [eS x.name,eS x.to,eB x.param,eI x.arg.op,eS x.arg.name,eI x.arg.n,.slice 5 (x.arg.kids.map Nd.av),eI x.arg.at_,eI x.size]
theorem wrap64_rng(n:Int):-9223372036854775808≤IntKind.i64.wrap n∧IntKind.i64.wrap n≤9223372036854775807:=by
 rw[IntKind.wrap_i64];omega
set_option maxHeartbeats 1000000 in
theorem fresh04(w:Wk)(hfit:w.sp.Fit)(hfew:w.sp.Few)(ht:w.taken.length≤10000000):∃ (l:Int) (s:ByteArray),s.size≤100∧AFun Tryz.prog 225 [w.av] (.tup [.p (Wk.av { w with last:=l }),.p (eS s)]):=by
 suffices hh:∃ y,(∃ (l:Int) (s:ByteArray),y=.tup [.p (Wk.av { w with last:=l }),.p (eS s)]∧s.size≤100)∧AFun Tryz.prog 225 [w.av] y by
  obtain⟨y,⟨l,s,rfl,h⟩,hf⟩:=hh
  exact⟨l,s,h,hf⟩
 have htl:(w.taken.map eS).length=w.taken.length:=List.length_map _
 refine AFunE.intro hT Tryz.func225 rfl rfl (by simp) ⟨_,0,⟨#[]⟩,rfl,by decide⟩ (AD.run hT hmix ?_)
 refine AD.loopI (fun x:Nat×Int=>x.1≤w.taken.length+41) (fun x=>w.taken.length+41 - x.1) (fun x=>[(1,.loc 1 0),(2,.loc 2 0),(3,.p (eS ⟨#[]⟩)),(4,eint .i64 x.1)]) (fun x=>[(1,.box 250 ((Wk.cs { w with last:=x.2 }).map .p)),(2,.box 250 [.full 2 [],.full 3 [],.full 7 [],.full 6 [],.full 1 [],.p (eI 0),.p (eI 0)])]) (0,w.last) (Nat.zero_le _) .of fun ⟨i,l⟩ hi=>AD.run hT hmix ?_
 dsimp only at hi ⊢
 have htl2:(List.map eS ({ w with last:=l }:Wk).taken).length=w.taken.length:=List.length_map _
 intro _
 refine ngo_in (by omega) (by omega) ?_
 refine bgs (fun hb=>?_) (fun hb=>⟨_,_,rfl,rfl,l,⟨#[]⟩,rfl,by decide⟩)
 replace hb:=odt hb
 refine⟨_,rfl,?_⟩
 have hr:=wrap64_rng (l+1)
 obtain⟨b,hbs,hdf⟩:=digits04 18 (IntKind.i64.wrap (l+1)) (by omega) (by
  have:(10:Int) ^ (18+1)=10000000000000000000:=by decide
  rw[this];omega)
 refine .pure [eI (IntKind.i64.wrap (l+1))] _ rfl hdf ?_
 refine⟨by have:(⟨#[118]⟩:ByteArray).size=1:=rfl;omega,?_⟩
 obtain⟨y,⟨a,f,k,rfl,hf,_⟩,hn⟩:=named04 w.sp hfit.n1 (by have:=hfit.n2;omega) hfit.fld hfew.nm (⟨#[118]⟩++b)
 refine .pure [w.sp.ex,eS (⟨#[118]⟩++b)] _ rfl hn ?_
 refine bgo_true (by rw[Bool.and_eq_true,Bool.and_eq_true];exact⟨len_beq hf,rfl,rfl⟩) ?_
 generalize hy:setSeg _ _ ((setav a f).cells.map EV.p)=y
 clear hy
 have hsz:(⟨#[118]⟩++b:ByteArray).size≤100:=by
  rw[ByteArray.size_append]
  have:(⟨#[118]⟩:ByteArray).size=1:=rfl
  omega
 refine bgs (fun hc=>?_) (fun hc=>?_)
 ·obtain⟨b2,hhf⟩:=has04 w.taken (⟨#[118]⟩++b)
  refine .pure [.slice 1 (w.taken.map eS),eS (⟨#[118]⟩++b)] _ rfl hhf ?_
  refine bgs (fun hd=>?_) (fun hd=>?_)
  ·exact⟨_,_,rfl,rfl,IntKind.i64.wrap (l+1),_,rfl,hsz⟩
  ·exact ngo_in (by omega) (by omega) ⟨(i+1,IntKind.i64.wrap (l+1)),by dsimp only;omega,by dsimp only;omega,.of⟩
 ·exact ngo_in (by omega) (by omega) ⟨(i+1,IntKind.i64.wrap (l+1)),by dsimp only;omega,by dsimp only;omega,.of⟩
def scOk(sc:List Rp):Prop:=∀ x∈sc,0≤x.size∧x.size≤4000
def LeafR(w:Wk)(y:EV):Prop:=∃ (l c:Int) (n':Nd) (sz:Int),y=.tup [.p (Wk.av { w with last:=l,cost:=c }),.p n'.ex,.p (eI sz)]∧w.cost≤c∧c≤8001∧0≤sz∧sz≤c - w.cost+1
set_option maxHeartbeats 1000000 in
theorem leaf04(w:Wk)(sc:List Rp)(hsc:scOk sc)(n:Nd)(hc:0≤w.cost∧w.cost≤4000):∃ y,LeafR w y∧AFun Tryz.prog 222 [w.av,.slice 9 (sc.map Rp.av),n.ex] y:=by
 have hsl:(sc.map Rp.av).length=sc.length:=List.length_map _
 refine AFunE.intro hT Tryz.func222 rfl rfl (by simp) ⟨_,0,w.cost,n,0,rfl,by omega,by omega,by omega,by omega⟩ (AD.run hT hmix ?_)
 intro _
 refine ngo_in (by omega) (by omega) ?_
 rw[hsl]
 refine AD.loopI (fun i:Nat=>i≤sc.length) (fun i=>i) (fun i=>[(1,.p (.slice 9 (sc.map Rp.av))),(3,.loc 3 0),(5,.loc 5 0),(6,.loc 6 0),(7,.loc 7 0),(9,.p (eI ((i:Int) - 1)))]) (fun _=>[(3,.box 250 (w.cs.map .p)),(5,.box 35 ([eI n.op,eS n.name,eI n.n,.slice 5 (n.kids.map Nd.av),eI n.at_].map .p)),(6,.box 250 [.full 2 [],.full 3 [],.full 7 [],.full 6 [],.full 1 [],.p (eI 0),.p (eI 0)]),(7,.box 35 [.p (eI 0),.p (eS ⟨#[]⟩),.p (eI 0),.full 5 [],.p (eI 0)])]) sc.length (Nat.le_refl _) .of fun i hi=>AD.run hT hmix ?_
 refine bgs (fun hb=>?_) (fun hb=>?_)
 ·replace hb:=odt hb
  have hlt:i - 1<sc.length:=by omega
  have hz:=hsc _ (List.getElem_mem hlt)
  refine igo_map (i - 1) (by omega) hlt ⟨by kernel_rfl,?_⟩
  refine bgs (fun hd=>?_) (fun hd=>?_)
  ·refine ngo_in (by omega) (by omega) ⟨i - 1,by omega,by omega,?_⟩
   rw[show((i - 1:Nat):Int)=(i:Int) - 1 by omega]
   exact .of
  ·refine igo_map (i - 1) (by omega) hlt ?_
   refine bgs (fun he=>?_) (fun he=>?_)
   ·refine igo_map (i - 1) (by omega) hlt (ngo_in (by omega) (by omega) ⟨by kernel_rfl,?_⟩)
    refine igo_map (i - 1) (by omega) hlt (igo_map (i - 1) (by omega) hlt ⟨by kernel_rfl,?_⟩)
    exact⟨_,_,rfl,rfl,w.last,w.cost+sc[i - 1].size,sc[i - 1].arg,sc[i - 1].size,rfl,by omega,by omega,by omega,by omega⟩
   ·refine igo_map (i - 1) (by omega) hlt ⟨by kernel_rfl,?_⟩
    exact⟨_,_,rfl,rfl,w.last,w.cost,.mk n.op sc[i - 1].to n.n n.kids n.at_,1,rfl,by omega,by omega,by omega,by omega⟩
 ·exact⟨by kernel_rfl,_,_,rfl,rfl,w.last,w.cost,n,1,rfl,by omega,by omega,by omega,by omega⟩
def ExpR(w:Wk)(y:EV):Prop:=∃ (l c:Int) (n':Nd) (sz:Int),y=.tup [.p (Wk.av { w with last:=l,cost:=c }),.p n'.ex,.p (eI sz)]∧w.cost+1≤c∧c≤8001∧0≤sz∧sz≤c - w.cost
def nd0:Nd:=.mk 0 ⟨#[]⟩ 0 [] 0
set_option maxHeartbeats 1000000 in
theorem replace04(w:Wk)(sc:List Rp)(hsc:scOk sc)(n:Nd)(body:Bool)(hc:0≤w.cost∧w.cost≤4000)(hscl:sc.length+2*(4000 - w.cost)≤20000)(IH:∀ (w2:Wk) (sc2:List Rp) (n2:Nd) (b2:Bool),w2.sp=w.sp→w2.taken=w.taken→w.cost≤w2.cost→w2.cost≤4000→scOk sc2→sc2.length+2*(4000 - w2.cost)≤20000→∃ y,ExpR w2 y∧AFun Tryz.prog 171 [w2.av,.slice 9 (sc2.map Rp.av),n2.ex,eB b2] y):∃ y,LeafR w y∧AFun Tryz.prog 223 [w.av,.slice 9 (sc.map Rp.av),n.ex,eB body] y:=by
 have hkl:(n.kids.map Nd.av).length=n.kids.length:=List.length_map _
 have hpl:(w.sp.preds.map Prd.ex).length=w.sp.preds.length:=List.length_map _
 obtain⟨p,hp,hpf⟩:=pred04 w.sp (w.sp.preds.map Prd.ex).length n.name
 refine AFunE.intro hT Tryz.func223 rfl rfl (by simp) ⟨_,0,w.cost,n,0,rfl,by omega,by omega,by omega,by omega⟩ (AD.cut hT hmix 14 (fun x:Int×Int×List Rp=>0≤p∧w.cost≤x.2.1∧x.2.1≤4000∧scOk x.2.2∧x.2.2.length≤4000) (fun x=>[(3,.p (eB body)),(4,.loc 4 0),(6,.loc 6 0),(8,.loc 8 0),(9,.loc 9 0),(12,.p (eI p)),(13,.p (.slice 9 (x.2.2.map Rp.av)))]) (fun x=>[(4,.box 250 ((Wk.cs { w with last:=x.1,cost:=x.2.1 }).map .p)),(6,.box 35 ([eI n.op,eS n.name,eI n.n,.slice 5 (n.kids.map Nd.av),eI n.at_].map .p)),(8,.box 250 [.full 2 [],.full 3 [],.full 7 [],.full 6 [],.full 1 [],.p (eI 0),.p (eI 0)]),(9,.box 35 [.p (eI 0),.p (eS ⟨#[]⟩),.p (eI 0),.full 5 [],.p (eI 0)])]) ?_ fun ⟨l,c,own⟩ ⟨hp0,h1,h2,hok,hol⟩=>AD.run hT hmix ?_)
 ·intro _
  refine .pure [w.sp.ex,eI (w.sp.preds.map Prd.ex).length,eS n.name] _ rfl hpf ?_
  refine bgs (fun hb=>⟨by kernel_rfl,_,_,rfl,rfl,w.last,w.cost,n,1,rfl,by omega,by omega,by omega,by omega⟩) (fun hb=>?_)
  replace hb:=of_decide_eq_false hb
  obtain⟨j,rfl⟩:=Int.eq_ofNat_of_zero_le (show 0≤p by omega)
  have hj:j<w.sp.preds.length:=by omega
  have hpp:(w.sp.preds[j].params.map Param.av).length=w.sp.preds[j].params.length:=List.length_map _
  refine AD.loopI (fun x:Nat×Int×Int×List Rp=>x.1≤n.kids.length∧w.cost+x.1≤x.2.2.1∧x.2.2.1≤4000∧scOk x.2.2.2∧x.2.2.2.length=x.1) (fun x=>n.kids.length - x.1) (fun x=>[(1,.p (.slice 9 (sc.map Rp.av))),(3,.p (eB body)),(4,.loc 4 0),(6,.loc 6 0),(8,.loc 8 0),(9,.loc 9 0),(12,.p (eI j)),(13,.own 9 (x.2.2.2.map Rp.av) 86),(14,eint .i64 x.1)]) (fun x=>[(4,.box 250 ((Wk.cs { w with last:=x.2.1,cost:=x.2.2.1 }).map .p)),(6,.box 35 ([eI n.op,eS n.name,eI n.n,.slice 5 (n.kids.map Nd.av),eI n.at_].map .p)),(8,.box 250 [.full 2 [],.full 3 [],.full 7 [],.full 6 [],.full 1 [],.p (eI 0),.p (eI 0)]),(9,.box 35 [.p (eI 0),.p (eS ⟨#[]⟩),.p (eI 0),.full 5 [],.p (eI 0)]),(86,.tail (x.2.2.2.map Rp.av).length)]) (0,w.last,w.cost,[]) ⟨Nat.zero_le _,by dsimp only;omega,by dsimp only;omega,nofun,rfl⟩ .of fun ⟨i,l,c,own⟩ ⟨hi,h1,h2,hok,hol⟩=>AD.run hT hmix ?_
  dsimp only at hi h1 h2 hok hol ⊢
  have hpp2:(List.map Param.av ({ w with last:=l,cost:=c }:Wk).sp.preds[j].params).length=w.sp.preds[j].params.length:=List.length_map _
  have hom:(own.map Rp.av).length=own.length:=List.length_map _
  intro _
  refine bgs (fun hb1=>?_) (fun hb1=>⟨(l,c,own),⟨by omega,by dsimp only;omega,by dsimp only;omega,hok,by dsimp only;omega⟩,.of⟩)
  replace hb1:=odt hb1
  have hlt:i<n.kids.length:=by omega
  refine igo_map j rfl hj ?_
  intro _
  refine bgs (fun hb2=>?_) (fun hb2=>⟨(l,c,own),⟨by omega,by dsimp only;omega,by dsimp only;omega,hok,by dsimp only;omega⟩,.of⟩)
  replace hb2:=odt hb2
  have hlt2:i<w.sp.preds[j].params.length:=by omega
  obtain⟨y,⟨l',c',n',sz,rfl,q1,q2,q3,q4⟩,hx⟩:=IH { w with last:=l,cost:=c } sc n.kids[i] body rfl rfl (by dsimp only;omega) h2 hsc (by dsimp only;omega)
  dsimp only at q1 q4
  rw[← show n.kids[i].av=n.kids[i].ex from congrFun Nd.av_ex _] at hx
  refine igo_map i rfl hlt (.pure [Wk.av { w with last:=l,cost:=c },.slice 9 (sc.map Rp.av),n.kids[i].av,eB body] _ rfl hx ⟨by kernel_rfl,?_⟩)
  refine bgs (fun hd=>?_) (fun hd=>?_)
  ·exact⟨_,_,rfl,rfl,l',c',nd0,0,rfl,by omega,by omega,by omega,by omega⟩
  ·have hd:¬ c'>4000:=of_decide_eq_false hd
   refine igo_map j rfl hj (igo_map i rfl hlt2 ?_)
   refine⟨rfl,⟨by simp;omega,by simp;omega⟩,by kernel_rfl,ngo_in (by omega) (by omega) ⟨(i+1,l',c',own++[⟨w.sp.preds[j].params[i].name,⟨#[]⟩,true,n',sz⟩]),⟨by dsimp only;omega,by dsimp only;omega,by dsimp only;omega,fun x hx=>?_,by simp;omega⟩,by dsimp only;omega,?_⟩⟩
   ·rcases List.mem_append.1 hx with hx | hx
    ·exact hok x hx
    ·obtain rfl:=List.mem_singleton.1 hx
     exact⟨q3,by dsimp only;omega⟩
   ·dsimp only
    rw[List.map_append]
    exact .of
 ·obtain⟨j,rfl⟩:=Int.eq_ofNat_of_zero_le hp0
  have hj:j<w.sp.preds.length:=by omega
  dsimp only at h1 h2 hok hol ⊢
  obtain⟨y,⟨l',c',n',sz,rfl,q1,q2,q3,q4⟩,hx⟩:=IH { w with last:=l,cost:=c } own w.sp.preds[j].body true rfl rfl (by dsimp only;omega) h2 hok (by dsimp only;omega)
  dsimp only at q1 q4
  refine igo_map j rfl hj (.pure [Wk.av { w with last:=l,cost:=c },.slice 9 (own.map Rp.av),w.sp.preds[j].body.ex,eB true] _ rfl hx ⟨by kernel_rfl,?_⟩)
  exact⟨_,_,rfl,rfl,l',c',n',sz,rfl,by omega,by omega,by omega,by omega⟩
set_option maxHeartbeats 4000000 in
theorem expand04(s:Spc)(hfit:s.Fit)(hfew:s.Few):∀ (k:Nat) (w:Wk) (sc:List Rp) (n:Nd) (body:Bool),w.sp=s→w.taken.length≤10000000→0≤w.cost→w.cost≤4000→4000 - w.cost<k→scOk sc→sc.length+2*(4000 - w.cost)≤20000→∃ y,ExpR w y∧AFun Tryz.prog 171 [w.av,.slice 9 (sc.map Rp.av),n.ex,eB body] y:=by
 intro k
 induction k with
 | zero=>intro w sc n body _ _ _ _ h;omega
 | succ k ih=>
  intro w sc n body hsp htk hc0 hc4 hk hsc hscl
  have hkl:(n.kids.map Nd.av).length=n.kids.length:=List.length_map _
  refine AFunE.intro hT Tryz.func171 rfl rfl (by simp) ⟨_,0,w.cost+1,n,0,rfl,by omega,by omega,by omega,by omega⟩ (AD.run hT hmix ?_)
  refine ngo_in (by omega) (by omega) ?_
  refine bgs (fun hb=>⟨_,_,rfl,rfl,w.last,w.cost+1,nd0,0,rfl,by omega,by omega,by omega,by omega⟩) (fun hb=>?_)
  replace hb:=of_decide_eq_false hb
  refine bgs (fun h1=>?_) (fun h1=>?_)
  ·obtain⟨y,⟨l',c',n',sz,rfl,q1,q2,q3,q4⟩,hx⟩:=leaf04 { w with last:=w.last,cost:=w.cost+1 } sc hsc n ⟨by dsimp only;omega,by dsimp only;omega⟩
   dsimp only at q1 q4
   refine .pure [Wk.av { w with last:=w.last,cost:=w.cost+1 },.slice 9 (sc.map Rp.av),n.ex] _ rfl hx ?_
   exact⟨_,_,rfl,rfl,l',c',n',sz,rfl,by omega,by omega,by omega,by omega⟩
  refine bgs (fun h2=>?_) (fun h2=>?_)
  ·obtain⟨y,⟨l',c',n',sz,rfl,q1,q2,q3,q4⟩,hx⟩:=replace04 { w with last:=w.last,cost:=w.cost+1 } sc hsc n body ⟨by dsimp only;omega,by dsimp only;omega⟩ (by dsimp only;omega) (fun w2 sc2 n2 b2 e1 e2 e3 e4 e5 e6=>ih w2 sc2 n2 b2 (e1.trans hsp) (by rw[e2];exact htk) (by dsimp only at e3;omega) e4 (by dsimp only at e3;omega) e5 e6)
   dsimp only at q1 q4
   refine .pure [Wk.av { w with last:=w.last,cost:=w.cost+1 },.slice 9 (sc.map Rp.av),n.ex,eB body] _ rfl hx ?_
   exact⟨_,_,rfl,rfl,l',c',n',sz,rfl,by omega,by omega,by omega,by omega⟩
  refine AD.loopI (fun x:Nat×Int×Int×List Rp×ByteArray×List Nd×Int=>x.1≤n.kids.length∧w.cost+1+x.1≤x.2.2.1∧x.2.2.1≤4000∧scOk x.2.2.2.1∧(x.1≤1→x.2.2.2.1.length=sc.length)∧x.2.2.2.1.length≤sc.length+1∧x.2.2.2.2.2.1.length=x.1∧1≤x.2.2.2.2.2.2∧x.2.2.2.2.2.2≤x.2.2.1 - w.cost) (fun x=>n.kids.length - x.1) (fun x=>[(1,.p (.slice 9 (x.2.2.2.1.map Rp.av))),(3,.p (eB body)),(4,.loc 4 0),(6,.loc 6 0),(8,.loc 8 0),(9,.loc 9 0),(11,.loc 11 0),(12,.p (eI x.2.2.2.2.2.2)),(13,eint .i64 x.1)]) (fun x=>[(4,.box 250 ((Wk.cs { w with last:=x.2.1,cost:=x.2.2.1 }).map .p)),(6,.box 35 ([eI n.op,eS n.name,eI n.n,.slice 5 (n.kids.map Nd.av),eI n.at_].map .p)),(8,.box 250 [.full 2 [],.full 3 [],.full 7 [],.full 6 [],.full 1 [],.p (eI 0),.p (eI 0)]),(9,.box 35 [.p (eI 0),.p (eS ⟨#[]⟩),.p (eI 0),.full 5 [],.p (eI 0)]),(11,.box 35 [.p (eI n.op),.p (eS x.2.2.2.2.1),.p (eI n.n),.own 5 (x.2.2.2.2.2.1.map Nd.ex) 130,.p (eI n.at_)]),(130,.tail (x.2.2.2.2.2.1.map Nd.ex).length)]) (0,w.last,w.cost+1,sc,n.name,[],1) ⟨Nat.zero_le _,by dsimp only;omega,by dsimp only;omega,hsc,fun _=>rfl,by dsimp only;omega,rfl,Int.le_refl _,by dsimp only;omega⟩ .of fun ⟨i,l,c,sc1,nm,ks,size⟩ ⟨hi,c1,c2,hok,hse,hsl,hks,z1,z2⟩=>AD.cut hT hmix 21 (fun x:Int×ByteArray×List Rp=>i<n.kids.length∧scOk x.2.2∧(i=0→x.2.2.length=sc.length)∧x.2.2.length≤sc.length+1) (fun x=>[(1,.p (.slice 9 (x.2.2.map Rp.av))),(3,.p (eB body)),(4,.loc 4 0),(6,.loc 6 0),(8,.loc 8 0),(9,.loc 9 0),(11,.loc 11 0),(12,.p (eI size)),(13,eint .i64 i)]) (fun x=>[(4,.box 250 ((Wk.cs { w with last:=x.1,cost:=c }).map .p)),(6,.box 35 ([eI n.op,eS n.name,eI n.n,.slice 5 (n.kids.map Nd.av),eI n.at_].map .p)),(8,.box 250 [.full 2 [],.full 3 [],.full 7 [],.full 6 [],.full 1 [],.p (eI 0),.p (eI 0)]),(9,.box 35 [.p (eI 0),.p (eS ⟨#[]⟩),.p (eI 0),.full 5 [],.p (eI 0)]),(11,.box 35 [.p (eI n.op),.p (eS x.2.1),.p (eI n.n),.own 5 (ks.map Nd.ex) 130,.p (eI n.at_)]),(130,.tail (ks.map Nd.ex).length)]) ?_ fun ⟨l,nm,sc1⟩ ⟨hlt,hok,hse,hsl⟩=>AD.run hT hmix ?_
  ·dsimp only at hi c1 c2 hok hse hsl hks z1 z2 ⊢
   intro _
   refine bgs (fun hb2=>?_) (fun hb2=>?_)
   ·replace hb2:=odt hb2
    have hlt:i<n.kids.length:=by omega
    refine bgs (fun hi1=>?_) (fun hi1=>⟨(l,nm,sc1),⟨hlt,hok,fun h=>hse (by omega),hsl⟩,.of⟩)
    have hi1:i=1:=by have:=beq_iff_eq.1 hi1;omega
    refine bgs (fun ho=>?_) (fun ho=>?_)
    ·skip
     obtain⟨y,⟨a,f,kk,rfl,hf,_⟩,hn⟩:=named04 w.sp (by rw[hsp];exact hfit.n1) (by rw[hsp];have:=hfit.n2;omega) (by rw[hsp];exact hfit.fld) (by rw[hsp];exact hfew.nm) n.name
     refine .pure [w.sp.ex,eS n.name] _ rfl hn ?_
     refine bgo_true (by rw[Bool.and_eq_true,Bool.and_eq_true];exact⟨len_beq hf,rfl,rfl⟩) ?_
     generalize hy:setSeg _ _ ((setav a f).cells.map EV.p)=y
     clear hy
     refine bgs (fun hd=>?_) (fun hd=>?_)
     ·skip
      obtain⟨l2,s2,hs2,hff⟩:=fresh04 { w with last:=l,cost:=c } (by rw[hsp];exact hfit) (by rw[hsp];exact hfew) htk
      refine .pure [Wk.av { w with last:=l,cost:=c }] _ rfl hff ?_
      refine⟨⟨by simp;omega,by simp;omega⟩,by simp,⟨by simp;omega,by simp;omega⟩,by kernel_rfl,(l2,s2,sc1++[⟨n.name,s2,false,nd0,0⟩]),⟨hlt,fun x hx=>?_,fun h=>(by omega),by have:=hse (by omega);simp;omega⟩,?_⟩
      ·rcases List.mem_append.1 hx with hx | hx
       ·exact hok x hx
       ·obtain rfl:=List.mem_singleton.1 hx
        exact⟨Int.le_refl _,by show(0:Int)≤4000;decide⟩
      ·dsimp only
       rw[List.map_append]
       exact .of
     refine bgs (fun he=>?_) (fun he=>?_)
     ·skip
      obtain⟨l2,s2,hs2,hff⟩:=fresh04 { w with last:=l,cost:=c } (by rw[hsp];exact hfit) (by rw[hsp];exact hfew) htk
      refine .pure [Wk.av { w with last:=l,cost:=c }] _ rfl hff ?_
      refine⟨⟨by simp;omega,by simp;omega⟩,by simp,⟨by simp;omega,by simp;omega⟩,by kernel_rfl,(l2,s2,sc1++[⟨n.name,s2,false,nd0,0⟩]),⟨hlt,fun x hx=>?_,fun h=>(by omega),by have:=hse (by omega);simp;omega⟩,?_⟩
      ·rcases List.mem_append.1 hx with hx | hx
       ·exact hok x hx
       ·obtain rfl:=List.mem_singleton.1 hx
        exact⟨Int.le_refl _,by show(0:Int)≤4000;decide⟩
      ·dsimp only
       rw[List.map_append]
       exact .of
     exact⟨(l,nm,sc1),⟨hlt,hok,fun h=>hse (by omega),hsl⟩,.of⟩
    refine bgs (fun ho=>?_) (fun ho=>?_)
    ·skip
     obtain⟨y,⟨a,f,kk,rfl,hf,_⟩,hn⟩:=named04 w.sp (by rw[hsp];exact hfit.n1) (by rw[hsp];have:=hfit.n2;omega) (by rw[hsp];exact hfit.fld) (by rw[hsp];exact hfew.nm) n.name
     refine .pure [w.sp.ex,eS n.name] _ rfl hn ?_
     refine bgo_true (by rw[Bool.and_eq_true,Bool.and_eq_true];exact⟨len_beq hf,rfl,rfl⟩) ?_
     generalize hy:setSeg _ _ ((setav a f).cells.map EV.p)=y
     clear hy
     refine bgs (fun hd=>?_) (fun hd=>?_)
     ·skip
      obtain⟨l2,s2,hs2,hff⟩:=fresh04 { w with last:=l,cost:=c } (by rw[hsp];exact hfit) (by rw[hsp];exact hfew) htk
      refine .pure [Wk.av { w with last:=l,cost:=c }] _ rfl hff ?_
      refine⟨⟨by simp;omega,by simp;omega⟩,by simp,⟨by simp;omega,by simp;omega⟩,by kernel_rfl,(l2,s2,sc1++[⟨n.name,s2,false,nd0,0⟩]),⟨hlt,fun x hx=>?_,fun h=>(by omega),by have:=hse (by omega);simp;omega⟩,?_⟩
      ·rcases List.mem_append.1 hx with hx | hx
       ·exact hok x hx
       ·obtain rfl:=List.mem_singleton.1 hx
        exact⟨Int.le_refl _,by show(0:Int)≤4000;decide⟩
      ·dsimp only
       rw[List.map_append]
       exact .of
     refine bgs (fun he=>?_) (fun he=>?_)
     ·skip
      obtain⟨l2,s2,hs2,hff⟩:=fresh04 { w with last:=l,cost:=c } (by rw[hsp];exact hfit) (by rw[hsp];exact hfew) htk
      refine .pure [Wk.av { w with last:=l,cost:=c }] _ rfl hff ?_
      refine⟨⟨by simp;omega,by simp;omega⟩,by simp,⟨by simp;omega,by simp;omega⟩,by kernel_rfl,(l2,s2,sc1++[⟨n.name,s2,false,nd0,0⟩]),⟨hlt,fun x hx=>?_,fun h=>(by omega),by have:=hse (by omega);simp;omega⟩,?_⟩
      ·rcases List.mem_append.1 hx with hx | hx
       ·exact hok x hx
       ·obtain rfl:=List.mem_singleton.1 hx
        exact⟨Int.le_refl _,by show(0:Int)≤4000;decide⟩
      ·dsimp only
       rw[List.map_append]
       exact .of
     exact⟨(l,nm,sc1),⟨hlt,hok,fun h=>hse (by omega),hsl⟩,.of⟩
    refine bgs (fun ho=>?_) (fun ho=>⟨(l,nm,sc1),⟨hlt,hok,fun h=>hse (by omega),hsl⟩,.of⟩)
    ·skip
     obtain⟨y,⟨a,f,kk,rfl,hf,_⟩,hn⟩:=named04 w.sp (by rw[hsp];exact hfit.n1) (by rw[hsp];have:=hfit.n2;omega) (by rw[hsp];exact hfit.fld) (by rw[hsp];exact hfew.nm) n.name
     refine .pure [w.sp.ex,eS n.name] _ rfl hn ?_
     refine bgo_true (by rw[Bool.and_eq_true,Bool.and_eq_true];exact⟨len_beq hf,rfl,rfl⟩) ?_
     generalize hy:setSeg _ _ ((setav a f).cells.map EV.p)=y
     clear hy
     refine bgs (fun hd=>?_) (fun hd=>?_)
     ·skip
      obtain⟨l2,s2,hs2,hff⟩:=fresh04 { w with last:=l,cost:=c } (by rw[hsp];exact hfit) (by rw[hsp];exact hfew) htk
      refine .pure [Wk.av { w with last:=l,cost:=c }] _ rfl hff ?_
      refine⟨⟨by simp;omega,by simp;omega⟩,by simp,⟨by simp;omega,by simp;omega⟩,by kernel_rfl,(l2,s2,sc1++[⟨n.name,s2,false,nd0,0⟩]),⟨hlt,fun x hx=>?_,fun h=>(by omega),by have:=hse (by omega);simp;omega⟩,?_⟩
      ·rcases List.mem_append.1 hx with hx | hx
       ·exact hok x hx
       ·obtain rfl:=List.mem_singleton.1 hx
        exact⟨Int.le_refl _,by show(0:Int)≤4000;decide⟩
      ·dsimp only
       rw[List.map_append]
       exact .of
     refine bgs (fun he=>?_) (fun he=>?_)
     ·skip
      obtain⟨l2,s2,hs2,hff⟩:=fresh04 { w with last:=l,cost:=c } (by rw[hsp];exact hfit) (by rw[hsp];exact hfew) htk
      refine .pure [Wk.av { w with last:=l,cost:=c }] _ rfl hff ?_
      refine⟨⟨by simp;omega,by simp;omega⟩,by simp,⟨by simp;omega,by simp;omega⟩,by kernel_rfl,(l2,s2,sc1++[⟨n.name,s2,false,nd0,0⟩]),⟨hlt,fun x hx=>?_,fun h=>(by omega),by have:=hse (by omega);simp;omega⟩,?_⟩
      ·rcases List.mem_append.1 hx with hx | hx
       ·exact hok x hx
       ·obtain rfl:=List.mem_singleton.1 hx
        exact⟨Int.le_refl _,by show(0:Int)≤4000;decide⟩
      ·dsimp only
       rw[List.map_append]
       exact .of
     exact⟨(l,nm,sc1),⟨hlt,hok,fun h=>hse (by omega),hsl⟩,.of⟩
   ·have hz:(Nd.mk n.op nm n.n ks n.at_).ex=.agg [eI n.op,eS nm,eI n.n,.slice 5 (ks.map Nd.ex),eI n.at_]:=by
     show AV.agg [eI n.op,eS nm,eI n.n,.slice 5 (ks.map Nd.av),eI n.at_]=_
     rw[Nd.av_ex]
    exact⟨by kernel_rfl,_,_,rfl,rfl,l,c,.mk n.op nm n.n ks n.at_,size,by rw[hz];rfl,by omega,by omega,by omega,by omega⟩
  ·dsimp only at hlt hok hse hsl hks c1 c2 z1 z2 ⊢
   have hkm:(ks.map Nd.ex).length=ks.length:=List.length_map _
   obtain⟨y,⟨l',c',n',sz,rfl,q1,q2,q3,q4⟩,hx⟩:=ih { w with last:=l,cost:=c } sc1 n.kids[i] body hsp htk (by dsimp only;omega) c2 (by dsimp only;omega) hok (by dsimp only;omega)
   dsimp only at q1 q4
   rw[← show n.kids[i].av=n.kids[i].ex from congrFun Nd.av_ex _] at hx
   refine igo_map i rfl hlt (.pure [Wk.av { w with last:=l,cost:=c },.slice 9 (sc1.map Rp.av),n.kids[i].av,eB body] _ rfl hx ⟨by kernel_rfl,?_⟩)
   refine bgs (fun hd=>?_) (fun hd=>?_)
   ·exact⟨_,_,rfl,rfl,l',c',nd0,0,rfl,by omega,by omega,by omega,by omega⟩
   ·have hd:¬ c'>4000:=of_decide_eq_false hd
    refine⟨rfl,⟨by simp;omega,by simp;omega⟩,ngo_in (by omega) (by omega) (AD.run hT hmix (ngo_in (by omega) (by omega) ⟨(i+1,l',c',sc1,nm,ks++[n'],size+sz),⟨by dsimp only;omega,by dsimp only;omega,by dsimp only;omega,hok,fun h=>hse (by omega),hsl,by simp;omega,by dsimp only;omega,by dsimp only;omega⟩,by dsimp only;omega,?_⟩))⟩
    dsimp only
    rw[List.map_append]
    exact .of
def InlR(y:EV):Prop:=∃ (n':Nd) (e:Int),y=.tup [.p n'.ex,.p (eI e)]
set_option maxHeartbeats 1000000 in
theorem inline04(s:Spc)(hfit:s.Fit)(hfew:s.Few)(n:Nd)(hw:n.WF)(hsz:n.sz≤1048576):∃ y,InlR y∧AFun Tryz.prog 105 [s.ex,n.ex] y:=by
 refine AFunE.intro hT Tryz.func105 rfl rfl (by simp) ⟨_,nd0,0,rfl⟩ (AD.run hT hmix ?_)
 obtain⟨e,p,he,hf⟩:=checkFormula04 s hfit hfew.nm [] ⟨by simp,nofun⟩ n hw hsz
 refine .pure [s.ex,.slice 2 [],n.ex] _ rfl hf ?_
 refine bgs (fun hb=>⟨by kernel_rfl,_,_,rfl,rfl,nd0,e,rfl⟩) (fun hb=>?_)
 have hc:=hasCall04 n
 rw[Nd.av_ex] at hc
 refine .pure [n.ex] _ rfl hc ?_
 refine bgs (fun hb2=>⟨_,_,rfl,rfl,n,0,rfl⟩) (fun hb2=>?_)
 obtain⟨tl,htl,htf⟩:=taken04 s hfit hfew n hsz
 refine .pure [s.ex,n.ex] _ rfl htf ?_
 obtain⟨y,⟨l',c',n',sz,rfl,_⟩,hx⟩:=expand04 s hfit hfew 4001 ⟨s,tl,0,0⟩ [] n false rfl htl (Int.le_refl _) (by show(0:Int)≤4000;decide) (by show(4000:Int) - 0<_;decide) nofun (by show(0:Int)+2*(4000 - 0)≤20000;decide)
 refine .pure [Wk.av ⟨s,tl,0,0⟩,.slice 9 [],n.ex,eB false] _ rfl hx ⟨by kernel_rfl,?_⟩
 refine bgs (fun h1=>⟨_,_,rfl,rfl,nd0,2,rfl⟩) (fun h1=>?_)
 refine bgs (fun h2=>⟨_,_,rfl,rfl,nd0,2,rfl⟩) (fun h2=>?_)
 obtain⟨d,hd⟩:=depth04 n'
 refine .pure [n'.ex] _ rfl hd ?_
 exact bgs (fun h3=>⟨_,_,rfl,rfl,nd0,2,rfl⟩) (fun h3=>⟨_,_,rfl,rfl,n',0,rfl⟩)
theorem light08(s:Spc)(hfit:s.Fit)(hfew:s.Few)(at_ st:Int)(ha:0≤at_∧at_≤12)(hst:0≤st∧st≤4)(n:Nd)(hw:n.WF)(hsz:n.sz≤1048576):∃ b:Bool,AFun Tryz.prog 54 [s.ex,eI at_,eI st,n.ex] (.p (eB b)):=by
 suffices hh:∃ y,(∃ b:Bool,y=.p (eB b))∧AFun Tryz.prog 54 [s.ex,eI at_,eI st,n.ex] y by
  obtain⟨y,⟨b,rfl⟩,hf⟩:=hh
  exact⟨b,hf⟩
 have hfl:(s.facts.map Fct.ex).length=s.facts.length:=List.length_map _
 have n4:=hfit.n4
 refine AFunE.intro hT Tryz.func54 rfl rfl (by simp) ⟨_,true,rfl⟩ (AD.run hT hmix ?_)
 refine AD.loopI (fun i:Nat=>i≤s.facts.length+1) (fun i=>s.facts.length+1 - i) (fun i=>[(1,.p (eI at_)),(2,.p (eI st)),(4,.loc 4 0),(7,.loc 7 0),(9,eint .i64 i)]) (fun _=>[(4,.box 27 (s.cx.map .p)),(7,.box 35 ([eI n.op,eS n.name,eI n.n,.slice 5 (n.kids.map Nd.av),eI n.at_].map .p))]) 0 (Nat.zero_le _) .of fun i hi=>AD.run hT hmix ?_
 intro _
 refine bgs (fun hb=>?_) (fun hb=>⟨_,_,rfl,rfl,_,rfl⟩)
 replace hb:=odt hb
 intro _
 refine bgs (fun hc=>?_) (fun hc=>?_)
 ·replace hc:=odt hc
  have hlt:i<s.facts.length:=by omega
  refine igo_map i rfl hlt ?_
  obtain⟨y,⟨n',e,rfl⟩,hx⟩:=inline04 s hfit hfew s.facts[i].body (hfit.fct _ (List.getElem_mem hlt)) (hfew.fct _ (List.getElem_mem hlt))
  refine .pure [s.ex,(s.facts[i].body).ex] _ rfl hx ?_
  refine bgs (fun h1=>?_) (fun h1=>?_)
  ·obtain⟨r,hr,hwf⟩:=work08 n' at_ st ha hst
   refine .pure [n'.ex,eI at_,eI st] _ rfl hwf ?_
   refine bgs (fun h2=>⟨_,_,rfl,rfl,_,rfl⟩) (fun h2=>?_)
   exact ngo_in (by omega) (by omega) ⟨i+1,by omega,by omega,.of⟩
  ·exact ngo_in (by omega) (by omega) ⟨i+1,by omega,by omega,.of⟩
 ·skip
  obtain⟨y,⟨n',e,rfl⟩,hx⟩:=inline04 s hfit hfew n hw hsz
  refine .pure [s.ex,(n).ex] _ rfl hx ?_
  refine bgs (fun h1=>?_) (fun h1=>?_)
  ·obtain⟨r,hr,hwf⟩:=work08 n' at_ st ha hst
   refine .pure [n'.ex,eI at_,eI st] _ rfl hwf ?_
   refine bgs (fun h2=>⟨_,_,rfl,rfl,_,rfl⟩) (fun h2=>?_)
   exact ngo_in (by omega) (by omega) ⟨i+1,by omega,by omega,.of⟩
  ·exact ngo_in (by omega) (by omega) ⟨i+1,by omega,by omega,.of⟩
structure Cse where
 sp:Spc
 sc:Scope
 raw:List (List Int)
 n:Nd
 picks:List (List Bool)
 loop:Int
def Nd.ecs(n:Nd):List AV:=[eI n.op,eS n.name,eI n.n,.slice 5 (n.kids.map Nd.av),eI n.at_]
def Cse.cs(x:Cse):List AV:=x.sp.cx++x.sc.cs++[rawav x.raw]++x.n.ecs++[pick2 x.picks,eU8 x.loop]
def Cse.av(x:Cse):AV:=.agg x.cs
def mdl0:Mdl:=⟨⟨[],0⟩,[],0⟩
structure AnyM(x:Cse)(m:Mdl):Prop where
 scope:m.scope=x.sc
 len:(m.states.length:Int)=x.sc.steps
 loop:0≤m.loop∧m.loop<x.sc.steps
 st:∀ st∈m.states,StateIn (dflt x.sc (sumI x.sc.atoms).toNat x.sp.fields) st
structure Usable(x:Cse)(m:Mdl):Prop where
 fit:x.sp.Fit
 fit9:x.sp.Fit9 x.sc
 five:sumI x.sc.atoms≤5
 wf:x.n.WF
 acc:x.sp.Acc
 form:30≤x.n.op∧∃ a,Ex x.sp false [] x.n a
 any:AnyM x m
def MadeR(x:Cse)(y:EV):Prop:=∃ (bs:List Bnd) (m:Mdl) (b:Bool),y=.tup [.p (.slice 4 (bs.map Bnd.av)),.p (Mdl.av m),.p (eB b)]∧(b=true→Usable x m)
theorem MadeR.no(x:Cse):MadeR x (.tup [.p (.slice 4 []),.p mdl0.av,.p (eB false)]):=⟨[],mdl0,false,rfl,fun h=>by cases h⟩
theorem scopeOk{s:Spc}{sc:Scope}(h:s.Fit9 sc):ScopeOk sc (sumI sc.atoms).toNat:=by
 have hsm:=h.sz.small
 have h0:1≤sumI sc.atoms:=by
  have hs1:=h.s1
  have hl:=h.len
  obtain⟨a,r,hq⟩:∃ a r,sc.atoms=a::r:=by
   cases hq:sc.atoms with
   | nil=>rw[hq] at hl;rw[hl] at hs1;exact absurd hs1 (by simp)
   | cons a r=>exact⟨a,r,rfl⟩
  have hp:=h.sz.pos
  rw[hq] at hp ⊢
  rw[sumI_cons]
  have h2:=hp a (List.mem_cons_self ..)
  have h3:0≤sumI r:=sumI_nn fun k hk=>hp k (List.mem_cons_of_mem _ hk)
  omega
 exact⟨hsm,by omega,by omega,by have:=h.sz.sum;omega⟩
theorem fieldsOk{s:Spc}{sc:Scope}(h:s.Fit9 sc)(hf:s.Fit):FieldsOk s sc:=⟨hf.n2,fun f hfm=>⟨(hf.fld f hfm).1,fun x hx=>by have:=(hf.fld f hfm).2 x hx;rw[h.len] at this;exact this⟩⟩
theorem dflt_low{sc:Scope}{N:Nat}{l:List Fld}:∀ b∈dflt sc N l,b.lower.tuples=[]:=fun b hb=>by
 obtain⟨f,_,rfl⟩:=List.mem_map.1 hb;rfl
theorem dflt_up{s:Spc}{sc:Scope}{N:Nat}(h:ScopeOk sc N)(hf:s.Fit):∀ b∈dflt sc N s.fields,b.upper.tuples.length≤1728:=fun b hb=>by
 obtain⟨f,hfm,rfl⟩:=List.mem_map.1 hb
 exact fullR_le sc N h f (hf.fld f hfm).1.2
theorem anyM(x:Cse)(hfit:x.sp.Fit)(hfit9:x.sp.Fit9 x.sc)(hlp:0≤x.loop∧x.loop<256):∃ m,AnyM x m∧AFun Tryz.prog 22 [x.sp.ex,x.sc.av,.slice 4 ((dflt x.sc (sumI x.sc.atoms).toNat x.sp.fields).map Bnd.av),pick2 x.picks,.imm (.int .u8 x.loop)] (.p (Mdl.av m)):=by
 have hl:(dflt x.sc (sumI x.sc.atoms).toNat x.sp.fields).length=x.sp.fields.length:=List.length_map _
 obtain⟨m,⟨h1,h2,h3,h4⟩,hf⟩:=any25 x.sp x.sc (dflt x.sc (sumI x.sc.atoms).toNat x.sp.fields) (by rw[hl];exact hfit.n2) (by rw[hl];exact Nat.le_refl _) dflt_low (dflt_up (scopeOk hfit9) hfit) x.picks x.loop hlp hfit9.sz.steps
 exact⟨m,⟨h1,h2,h3,h4⟩,hf⟩
theorem made25(x:Cse)(hfew:x.sp.Few)(hsz:x.n.sz≤1048576)(hlp:0≤x.loop∧x.loop<256):∃ y,MadeR x y∧AFun Tryz.prog 21 [x.av] y:=by
 refine AFunE.intro hT Tryz.func21 rfl rfl (by simp) ⟨_,MadeR.no x⟩ (AD.run hT hmix ?_)
 obtain⟨b1,g1,c1⟩:=fits04 x.sp
 refine .pure [x.sp.ex] _ rfl c1 ?_
 cases b1 with
 | false=>exact⟨by kernel_rfl,_,_,rfl,rfl,MadeR.no x⟩
 | true=>
 obtain⟨b2,g2,c2⟩:=fits09 x.sp x.sc
 refine .pure [x.sp.ex,x.sc.av] _ rfl c2 ?_
 cases b2 with
 | false=>exact⟨by kernel_rfl,_,_,rfl,rfl,MadeR.no x⟩
 | true=>
 have hfit:=g1 rfl
 have hfit9:=g2 rfl
 have hsm:=hfit9.sz.small
 refine .pure [x.sc.av] _ rfl (atoms07 x.sc hsm) ?_
 refine bgs (fun h5=>⟨by kernel_rfl,_,_,rfl,rfl,MadeR.no x⟩) (fun h5=>?_)
 replace h5:=of_decide_eq_false h5
 obtain⟨b3,g3,c3⟩:=validNode02 x.n
 refine .pure [x.n.ex] _ rfl c3 ?_
 cases b3 with
 | false=>exact⟨by kernel_rfl,_,_,rfl,rfl,MadeR.no x⟩
 | true=>
 have hwf:=g3 rfl
 obtain⟨ld,g4,c4⟩:=checkSpec04 x.sp hfit hfew
 refine .pure [x.sp.ex] _ rfl c4 ?_
 intro hln
 refine bgs (fun h6=>⟨by kernel_rfl,_,_,rfl,rfl,MadeR.no x⟩) (fun h6=>?_)
 replace h6:=of_decide_eq_false h6
 have hacc:x.sp.Acc:=g4 (by
  rw[List.length_map] at h6
  exact List.eq_nil_of_length_eq_zero (by omega))
 obtain⟨e,p,g5,c5⟩:=checkFormula04 x.sp hfit hfew.nm [] ⟨by simp,by simp⟩ x.n hwf hsz
 refine .pure [x.sp.ex,.slice 2 [],x.n.ex] _ rfl c5 ?_
 refine⟨⟨by kernel_rfl,by kernel_rfl⟩,bgs (fun h7=>⟨by kernel_rfl,_,_,rfl,rfl,MadeR.no x⟩) (fun h7=>?_)⟩
 have he:e=0:=by
  simp only[keyB.keyL,Bool.not_eq_false',Bool.and_eq_true] at h7
  exact odt h7.1
 refine .pure [x.sc.av] _ rfl (atoms07 x.sc hsm) ?_
 have h0:0≤sumI x.sc.atoms:=by have:=hsm.sum x.sc.atoms.length (Nat.le_refl _);rw[List.take_length] at this;exact this.1
 obtain⟨b6,c6⟩:=light08 x.sp hfit hfew (sumI x.sc.atoms) x.sc.steps ⟨h0,by omega⟩ ⟨by have:=hfit9.sz.steps;omega,hfit9.sz.steps.2⟩ x.n hwf hsz
 refine .pure [x.sp.ex,eI (sumI x.sc.atoms),eI x.sc.steps,x.n.ex] _ rfl c6 ?_
 cases b6 with
 | false=>exact⟨by kernel_rfl,_,_,rfl,rfl,MadeR.no x⟩
 | true=>
 refine⟨by kernel_rfl,?_⟩
 have hso:=scopeOk hfit9
 have hfo:=fieldsOk hfit9 hfit
 obtain⟨bs,⟨hb1,hb2⟩,c7⟩:=made09 x.sp x.sc _ hso hfo x.raw
 have hn6:=hfit.n2
 obtain⟨es,c8⟩:=choices25 x.sp x.sc bs (by omega) (by omega) hb2
 have c9:=default09 x.sp x.sc _ hso hfo
 rw[Spc.av_ex] at c9
 obtain⟨m,hany,c10⟩:=anyM x hfit hfit9 hlp
 refine .pure [x.sp.ex,x.sc.av,rawav x.raw] _ rfl c7 (.pure [x.sp.ex,x.sc.av,.slice 4 (bs.map Bnd.av)] _ rfl c8 ?_)
 intro _
 refine bgs (fun h8=>⟨_,_,rfl,rfl,MadeR.no x⟩) (fun h8=>?_)
 refine .pure [x.sp.ex,x.sc.av] _ rfl c9 (.pure [x.sp.ex,x.sc.av,.slice 4 ((dflt x.sc (sumI x.sc.atoms).toNat x.sp.fields).map Bnd.av),pick2 x.picks,.imm (.int .u8 x.loop)] _ rfl c10 ⟨by kernel_rfl,_,_,rfl,rfl,bs,m,true,rfl,fun _=>⟨hfit,hfit9,by omega,hwf,hacc,g5 he,hany⟩⟩)
def someN(n:Nd):Nd:=if n.op<20 then .mk 34 ⟨#[]⟩ 0 [n] 0 else n
theorem someN_R{n:Nd}(h:n.op<20):(someN n).ecs=[eI 34,eS ⟨#[]⟩,eI 0,.slice 5 [n.ex],eI 0]:=by
 rw[someN,if_pos h,Nd.ecs,Nd.av_ex];rfl
theorem someN_F{n:Nd}(h:¬ n.op<20):(someN n).ecs=[eI n.op,eS n.name,eI n.n,.slice 5 (n.kids.map Nd.av),eI n.at_]:=by
 rw[someN,if_neg h];rfl
theorem someN_sz(n:Nd):(someN n).sz≤n.sz+1:=by
 unfold someN
 split
 ·simp[Nd.sz,Nd.szs];omega
 ·omega
def Cse.wn(x:Cse)(n:Nd):Cse:={ x with n:=n }
def MadeR14(x:Cse)(n:Nd)(y:EV):Prop:=∃ (m:Mdl) (b:Bool),y=.tup [.p m.av,.p (eB b)]∧(b=true→n.hasCall=false∧Usable (x.wn (someN n)) m)
theorem MadeR14.no(x:Cse)(n:Nd):MadeR14 x n (.tup [.p mdl0.av,.p (eB false)]):=⟨mdl0,false,rfl,fun h=>by cases h⟩
set_option maxHeartbeats 2000000 in
theorem madeR14P(x:Cse)(n:Nd)(hfew:x.sp.Few)(hsz:n.sz+1≤1048576)(hlp:0≤x.loop∧x.loop<256):∃ y,MadeR14 x n y∧AFun Tryz.prog 6 [x.av,n.ex] y:=by
 refine AFunE.intro hT Tryz.func6 rfl rfl (by simp) ⟨_,MadeR14.no x n⟩ ?_
 refine AD.cut hT hmix 4 (fun cs:List AV=>cs=(someN n).ecs) (fun cs=>[(2,.loc 2 0),(3,.loc 3 0),(4,.loc 4 0),(5,.p (eB false)),(6,.loc 6 0)])
  (fun cs=>[(2,.box 38 (x.cs.map .p)),(3,.box 35 (n.ecs.map .p)),(4,.box 43 (mdl0.cs.map .p)),(6,.box 35 (cs.map .p))]) ?_ fun cs hcs=>?_
 ·refine bgs (fun hb=>?_) (fun hb=>?_)
  ·exact⟨[eI 34,eS ⟨#[]⟩,eI 0,.slice 5 [n.ex],eI 0],(someN_R (odt hb)).symm,.of⟩
  ·exact⟨[eI n.op,eS n.name,eI n.n,.slice 5 (n.kids.map Nd.av),eI n.at_],(someN_F (of_decide_eq_false hb)).symm,.of⟩
 ·subst hcs
  have c1:=hasCall04 n
  rw[Nd.av_ex] at c1
  have hs2:=someN_sz n
  obtain⟨y,⟨bs,m0,b,rfl,hb⟩,c2⟩:=made25 (x.wn (someN n)) hfew (by show(someN n).sz≤_;omega) hlp
  refine AD.run hT hmix (.pure [n.ex] _ rfl c1 ?_)
  refine bgs (fun hc=>⟨_,_,rfl,rfl,MadeR14.no x n⟩) (fun hc=>?_)
  refine .pure [(x.wn (someN n)).av] _ rfl c2 ?_
  cases b with
  | false=>exact⟨_,_,rfl,rfl,MadeR14.no x n⟩
  | true=>
  have hu:=hb rfl
  have c9:=default09 x.sp x.sc _ (scopeOk hu.fit9) (fieldsOk hu.fit9 hu.fit)
  rw[Spc.av_ex] at c9
  obtain⟨m,hany,c10⟩:=anyM (x.wn (someN n)) hu.fit hu.fit9 hlp
  refine .pure [x.sp.ex,x.sc.av] _ rfl c9 ?_
  refine .pure [x.sp.ex,x.sc.av,.slice 4 ((dflt x.sc (sumI x.sc.atoms).toNat x.sp.fields).map Bnd.av),pick2 x.picks,.imm (.int .u8 x.loop)] _ rfl c10 ?_
  refine⟨by kernel_rfl,?_⟩
  exact⟨_,_,rfl,rfl,m,true,rfl,fun _=>⟨hc,⟨hu.fit,hu.fit9,hu.five,hu.wf,hu.acc,hu.form,hany⟩⟩⟩
end Go.Ab
