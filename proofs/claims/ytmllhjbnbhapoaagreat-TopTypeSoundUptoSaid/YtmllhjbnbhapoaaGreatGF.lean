/- Texts AbT, AbU, WC, AbV, WD, WE, WF, WG, WH, WI, WJ, WK, WL, WM, WN, WB, WO, WP, W3, WQ, WR, WS. Conditions: none. -/
import Derived.Test.YtmllhjbnbhapoaaGreatGE
import Derived.RecoverIn
import Derived.Tactics
set_option linter.unusedSimpArgs false
set_option linter.unusedVariables false
namespace Go.Ab
open Go Go.RowKit
def zipE:List Tmp→List AV→Env→Env
 | t::ts,x::xs,env=>zipE ts xs ((t,.p x)::env)
 | _,_,env=>env
theorem zip_rep{g:Gh}{H:Hp}:∀ (ts:List Tmp) (vs:List Value) (xs:List AV) (env:Env) (tm:Array Value),vs.length=xs.length→(∀ (i:Nat) v x,vs[i]?=some v→xs[i]?=some x→Rep g.fz v x)→(∀ t∈ts,t<tm.size) →
 (∀ t,ERep g H (tm.getD t undef) (lk env t))→(((ts.zip vs).foldl (fun tm (t,v)=>tm.setIfInBounds t v) tm).size=tm.size)∧∀ t,ERep g H (((ts.zip vs).foldl (fun tm (t,v)=>tm.setIfInBounds t v) tm).getD t undef) (lk (zipE ts xs env) t)
 | [],vs,xs,env,tm,hl,hr,hlt,h=>⟨rfl,by cases xs <;> exact h⟩
 | t::ts,[],xs,env,tm,hl,hr,hlt,h=>by
  obtain rfl:=List.eq_nil_of_length_eq_zero hl.symm
  exact⟨rfl,h⟩
 | t::ts,v::vs,[],env,tm,hl,hr,hlt,h=>by simp at hl
 | t::ts,v::vs,x::xs,env,tm,hl,hr,hlt,h=>by
  have hx:=hr 0 v x rfl rfl
  have:=zip_rep ts vs xs ((t,.p x)::env) (tm.setIfInBounds t v) (by simpa using hl) (fun i v x hv hx=>hr (i+1) v x (by simpa using hv) (by simpa using hx)) (fun s hs=>by simpa using hlt s (by simp[hs])) fun s=>by
   rw[lk_cons]
   have htlt:=hlt t (by simp)
   by_cases hs:s=t
   ·subst hs;rw[if_pos rfl];simp[htlt];exact .p _ _ hx
   ·rw[if_neg hs]
    have e:(tm.setIfInBounds t v).getD s undef=tm.getD s undef:=by simp[Array.getD_eq_getD_getElem?,Array.getElem?_setIfInBounds,Ne.symm hs]
    rw[e];exact h s
  exact⟨by simpa using this.1,this.2⟩
def JumpOk:Option Code→AExit→Prop
 | none,.normal=>True
 | some .ret,.ret=>True
 | some (.exit i),.exit j=>i=j
 | _,_=>False
def exitOf:Option Code→AExit
 | some (.exit i)=>.exit i
 | some .ret=>.ret
 | _=>.normal
def jumpB:Option Code→Bool
 | none=>true
 | some (.exit _)=>true
 | some .ret=>true
 | _=>false
def noLostH:AHp→Bool
 | []=>true
 | (_,.lost)::_=>false
 | _::r=>noLostH r
theorem noLostH_at:∀ {l:AHp},noLostH l=true→∀ k,hp l k≠.lost
 | [],_,k=>by intro h;cases h
 | (j,o)::r,hl,k=>by
  intro h
  rw[hp_cons] at h
  by_cases hj:k=j
  ·rw[if_pos hj] at h
   subst h
   simp[noLostH] at hl
  ·rw[if_neg hj] at h
   refine noLostH_at (l:=r) ?_ k h
   cases o <;> simp only[noLostH] at hl <;> first | exact hl | cases hl
structure LoopAt(Γ:Ctx)(g:Gh)(env:Env)(H:Hp)(a:Act)(ds:List Nat)(l:Nat)(r:Loop)(D:Nat→Prop)(g':Gh)(w:World):Prop where
 tmps:∀ t,ERep g' H (a.tmps.getD t undef) (lk env t)
 inv:WInv g' H w
 fr:∀ w1:World,w1.heap=w.heap→w1.os=Γ.w0.os→w1.tape=Γ.w0.tape→w1.output=Γ.w0.output→Fr Γ g' H w1
 dfs:∀ d∈ds,w.heap[d]?=some (.deferred (some []))∧∀ k,¬ Bset g' k (H k) d
 rc:w.heap[l]?=some (.loop r)
 own:∀ k,¬ Bset g' k (H k) l
 fz:FzLe g.fz g'.fz
 low:∀ b,b≤l→D b
 dB:∀ k b,Bset g' k (H k) b→D b
 dF:∀ b o v,g'.fz b o=some v→D b
 lt:∀ b,D b→b<w.heap.size
theorem LoopAt.still{Γ g env H a ds l r D g' w}(h:LoopAt Γ g env H a ds l r D g' w)(h0:Γ.w0.heap.size≤l)(hds:∀ d∈ds,d≤l){w':World}(hw:∀ b,D b→w'.heap[b]?=w.heap[b]?):LoopAt Γ g env H a ds l r D g' w':=by
 have hl:w'.heap[l]?=some (.loop r):=(hw l (h.low l (Nat.le_refl _))).trans h.rc
 refine⟨h.tmps,⟨fun b o v hz=>?_,fun k=>(h.inv.obj k).mono (GLe.refl _ _) rfl rfl rfl (fun b hb=>hw b (h.dB k b hb)) fun _ _ _=>rfl,h.inv.inj⟩,fun w1 e1 e2 e3 e4=>?_,fun d hd=>⟨(hw d (h.low d (hds d hd))).trans (h.dfs d hd).1,(h.dfs d hd).2⟩,hl,h.own,h.fz,h.low,h.dB,h.dF,fun b hb=>?_⟩
 ·rw[pk_congr (hw b (h.dF b o v hz))];exact h.inv.fz b o v hz
 ·have hf:=h.fr { w1 with heap:=w.heap } rfl e2 e3 e4
  refine⟨⟨e2,e3,e4,?_,fun k hk hx=>?_⟩,hf.fz,hf.low,hf.own,hf.box,hf.map,hf.tail⟩
  ·have:=lt_of_heap hl
   rw[e1];omega
  ·rw[e1,hw k (h.low k (by omega))]
   exact hf.kept.block k hk hx
 ·have:=h.lt b hb
  have e:=hw b hb
  rw[Array.getElem?_eq_getElem this] at e
  exact lt_of_heap e
def loopExt(Γ:Ctx)(g:Gh)(env:Env)(H:Hp)(a:Act)(ds:List Nat)(l:Nat)(r:Loop)(h0:Γ.w0.heap.size≤l)(hds:∀ d∈ds,d≤l):Ext where
 Z:=g.fz
 φ D w:=∃ g',LoopAt Γ g env H a ds l r D g' w
 st:=fun D w w' ⟨g',h⟩ hw=>⟨g',h.still h0 hds hw⟩
 lt:=fun D w b ⟨g',h⟩ hb=>h.lt b hb
 ne:=fun D w ⟨g',h⟩=>⟨l,h.low l (Nat.le_refl _)⟩
 zk:=fun D w b o v ⟨g',h⟩ hz=>h.inv.fz b o v (h.fz b o v hz)
def recAt(r:Loop)(jump:Option Code):Loop:=match jump with | none=>{ r with state:=.ready,pending:=none } | some c=>{ r with state:=.done,pending:=some c }
theorem LoopAt.subT{Γ g env a ds l r D g' w}{h h1:AHp}(hL:LoopAt Γ g env (hp h) a ds l r D g' w)(hT:SubT Γ env h env h1)(hsz:a.tmps.size=Γ.ntmps)(hd:∃ es:List Nat,a.defers=es.map markOf++Γ.dfs∧es.Nodup∧∀ d∈es,d∈ds∧Γ.w0.heap.size≤d):∃ g'',LoopAt Γ g env (hp h1) a ds l r D g'' w:=by
 obtain⟨es,d1,d2,d3⟩:=hd
 obtain⟨w1,hw1⟩:∃ w1:World,w1={ w with os:=Γ.w0.os,tape:=Γ.w0.tape,output:=Γ.w0.output }:=⟨_,rfl⟩
 have hh:w1.heap=w.heap:=by rw[hw1]
 have inv1:∀ {g2:Gh} {H:Hp} {wa wb:World},wb.heap=wa.heap→WInv g2 H wa→WInv g2 H wb:=fun {g2 H wa wb} e hi=>by
  refine⟨fun b o v hz=>by rw[pk_congr (w:=wa) (by rw[e])];exact hi.fz b o v hz,fun k=>(hi.obj k).mono (GLe.refl _ _) rfl rfl rfl (fun b hb=>by rw[e]) fun _ _ _=>rfl,hi.inj⟩
 have hs:SR Γ g' (lk env) (hp h) a w1:=⟨hsz,⟨es,d1,d2,fun d hd=>⟨by rw[hh];exact(hL.dfs d (d3 d hd).1).1,(d3 d hd).2,(hL.dfs d (d3 d hd).1).2⟩⟩,hL.tmps,inv1 hh hL.inv,hL.fr w1 hh (by rw[hw1]) (by rw[hw1]) (by rw[hw1])⟩
 obtain⟨g2,s1,s2,s3⟩:=hT g' a w1 hs
 refine⟨g2,s1.tmps,inv1 hh.symm s1.inv,fun w2 q1 q2 q3 q4=>?_,fun d hd=>⟨(hL.dfs d hd).1,fun k hk=>?_⟩,hL.rc,fun k hk=>?_,by rw[s2];exact hL.fz,hL.low,fun k b hb=>?_,fun b o v hz=>by rw[s2] at hz;exact hL.dF b o v hz,hL.lt⟩
 ·have hf:=s1.fr
  have e1:w1.os=Γ.w0.os:=by rw[hw1]
  have hk:=hf.kept
  refine⟨⟨q2,q3,q4,by rw[q1,← hh];exact hk.size,fun k hk1 hx=>by rw[q1,← hh];exact hk.block k hk1 hx⟩,hf.fz,hf.low,hf.own,hf.box,hf.map,hf.tail⟩
 ·obtain⟨j,hj⟩:=s3 k d hk;exact(hL.dfs d hd).2 j hj
 ·obtain⟨j,hj⟩:=s3 k l hk;exact hL.own j hj
 ·obtain⟨j,hj⟩:=s3 k b hb;exact hL.dB j b hj
theorem round_yields{P:Program}{Γ:Ctx}{g:Gh}{env:Env}{h h1 h2:AHp}{a:Act}{ds:List Nat}{l:Nat}{r:Loop}(h0:Γ.w0.heap.size≤l)(hds:∀ d∈ds,d≤l)(hsz:a.tmps.size=Γ.ntmps)(hr0:r.state=.ready)(hr1:r.pending=none)(hr2:r.tmps=a.tmps)
 {xs:List AV}(hfl:xs.all flatImm=true)(hps:r.params.size=xs.length)(hpl:∀ t∈r.params.toList,t<Γ.ntmps)(hfe:frEnv h env=true)(hnl:noLostH h=true)(jump:Option Code)(hj:jumpB jump=true)(hT:SubT Γ env h1 env h2)(hd:∃ es:List Nat,a.defers=es.map markOf++Γ.dfs∧es.Nodup∧∀ d∈es,d∈ds∧Γ.w0.heap.size≤d)
 (hround:AD P Γ.ntmps (hp h) true r.assign (AExit.thn (fun en hh=>AD P Γ.ntmps (hp h) true r.body (fun e en hh=>JumpOk jump e∧SubAll Γ.ntmps (hp h) en hh [] h1) en hh) (fun _ _ _=>False)) (zipE r.params.toList xs env) h):
 YFun P l xs (loopExt Γ g env (hp h) a ds l r h0 hds) jump.isNone (loopExt Γ g env (hp h2) a ds l (recAt r jump) h0 hds):=by
 refine⟨⟨rfl,hfl⟩,fun w D vs ⟨g',hL⟩ hreps ro n=>?_⟩
 have hlt:=lt_of_heap hL.rc
 obtain⟨z1,z2⟩:=zip_rep (g:=g') (H:=hp h) r.params.toList vs xs env a.tmps hreps.1 (fun i v x hv hx=>(hreps.2 i v x hv hx).flat (List.all_eq_true.1 hfl x (List.mem_of_getElem? hx)) _) (fun t ht=>by rw[hsz];exact hpl t ht) hL.tmps
 have hy:=run_yield (P:=P) (args:=vs.toArray) hL.rc (by simp[hps,hreps.1])
 have ez:(r.params.zip vs.toArray).foldl (fun tmps (t,v)=>tmps.setIfInBounds t v) r.tmps=(r.params.toList.zip vs).foldl (fun tm (t,v)=>tm.setIfInBounds t v) a.tmps:=by
  rw[hr2,← Array.foldl_toList];simp
 rw[ez] at hy
 generalize (r.params.toList.zip vs).foldl (fun tm (t,v)=>tm.setIfInBounds t v) a.tmps=tm at hy z1 z2
 refine⟨_,_,_,_,hy,roundIn_of_wpIn trivial ?_⟩
 have hs0:SR ⟨w,g',hp h,Γ.ntmps,[],some l⟩ g' (lk (zipE r.params.toList xs env)) (hp h) { tmps:=tm,defers:=[] } w:=⟨z1.trans hsz,DfOk.start rfl,z2,hL.inv,Fr.start _ _ _ _ _ _⟩
 have hc0:∀ w0:World,CtxR Γ.ntmps (hp h) true ⟨w0,g',hp h,Γ.ntmps,[],some l⟩:=fun _=>⟨⟨rfl,rfl⟩,nofun⟩
 have e0:=(hround.toAW (Γ:=⟨w,g',hp h,Γ.ntmps,[],some l⟩) (hc0 w) (fun _ _ _ h=>h)).out g' _ w hs0 n
 refine wpIn_mono e0 fun e a1 w1 hq=>?_
 obtain⟨ae,en,hh,g1,he,hk,hs1⟩:=hq
 cases ae with
 | exit i=>exact hk.elim
 | ret=>exact hk.elim
 | normal=>
  cases e <;> first | exact he.elim | skip
  obtain⟨t1,t2,hs2⟩:=hs1.turn (l:=l) (o:=.loop { r with state:=.busy }) hL.rc hL.own
  refine⟨_,run_beginRound t1 hr0,?_⟩
  have e1:=(AD.toAW (Γ:=⟨w.putObj l (.loop { r with state:=.busy }),g',hp h,Γ.ntmps,a1.defers,some l⟩) hk ⟨⟨rfl,rfl⟩,nofun⟩ (fun _ _ _ h=>h)).out g1 a1 _ hs2 n
  refine wpIn_mono e1 fun e a2 w3 hq=>?_
  obtain⟨ae,en2,hh2,g2,he2,⟨hj2,hsub⟩,hs3⟩:=hq
  obtain⟨g3,hs4⟩:=hsub ⟨w.putObj l (.loop { r with state:=.busy }),g',hp h,Γ.ntmps,a1.defers,some l⟩ ⟨rfl,rfl⟩ g2 a2 w3 hs3
  have hsz0:(w.putObj l (.loop { r with state:=.busy })).heap.size=w.heap.size:=by simp[World.putObj]
  have hl0:(w.putObj l (.loop { r with state:=.busy })).heap[l]?=some (.loop { r with state:=.busy }):=World.putObj_heap_same hlt
  have hother:∀ b,b≠l→(w.putObj l (.loop { r with state:=.busy })).heap[b]?=w.heap[b]?:=fun b hb=>World.putObj_heap_other hb
  have hX:∀ b,Ctx.X ⟨w.putObj l (.loop { r with state:=.busy }),g',hp h,Γ.ntmps,a1.defers,some l⟩ b→D b∧b≠l∧∀ d∈ds,b≠d:=fun b ⟨k,hk⟩=>⟨hL.dB k b hk,fun e=>hL.own k (e▸hk),fun d hd e=>(hL.dfs d hd).2 k (e▸hk)⟩
  generalize hWB:w.putObj l (.loop { r with state:=.busy })=wB at *
  have hk4:=hs4.fr.kept
  have hl3:w3.heap[l]?=some (.loop { r with state:=.busy }):=(hk4.block l (by show l<wB.heap.size;omega) fun hx=>(hX l hx).2.1 rfl).trans hl0
  have hsz3:w.heap.size≤w3.heap.size:=hsz0▸hk4.size
  have hos:wB.os=w.os∧wB.tape=w.tape∧wB.output=w.output:=by rw[← hWB];exact⟨rfl,rfl,rfl⟩
  have hown3:∀ b,(∀ k,¬ Bset g' k (hp h k) b)→b<w.heap.size→∀ k,¬ Bset g3 k (hp h1 k) b:=fun b hb hlt k hk=>by
   rcases hs4.fr.own k b hk with ⟨j,hj⟩ | hx
   ·exact hb j hj
   ·have hx:wB.heap.size≤b:=hx
    omega
  have fin:∀ o:Obj,Kept D w (w3.putObj l o)∧WInv g3 (hp h1) (w3.putObj l o):=fun o=>by
   refine⟨⟨hk4.os.trans hos.1,hk4.tape.trans hos.2.1,hk4.output.trans hos.2.2,by simpa[World.putObj] using hsz3,fun b hb hx=>?_⟩,hs4.inv.putO (hown3 l hL.own hlt) (hs4.inv.fz_loop hl3)⟩
   have hbl:b≠l:=fun e=>hx (e▸hL.low l (Nat.le_refl _))
   rw[World.putObj_heap_other hbl]
   exact(hk4.block b (by show b<wB.heap.size;omega) fun hX'=>hx (hX b hX').1).trans (hother b hbl)
  have good:∀ (o:Loop),o=recAt r jump→∃ D':Nat→Prop,(loopExt Γ g env (hp h2) a ds l (recAt r jump) h0 hds).φ D' (w3.putObj l (.loop o))∧Kept D w (w3.putObj l (.loop o))∧(∀ b,D b→D' b)∧∀ b,D' b→D b∨w.heap.size≤b:=by
   rintro o rfl
   obtain⟨f1,f2⟩:=fin (.loop (recAt r jump))
   have hsz4:(w3.putObj l (.loop (recAt r jump))).heap.size=w3.heap.size:=by simp[World.putObj]
   refine⟨fun b=>D b∨(w.heap.size≤b∧b<w3.heap.size),LoopAt.subT (g':=g3) (h:=h1) ?_ hT hsz hd,f1,fun b=>.inl,fun b hb=>hb.imp id And.left⟩
   refine⟨fun t=>?_,f2,fun w1 q1 q2 q3 q4=>?_,fun d hd=>?_,World.putObj_heap_same (lt_of_heap hl3),hown3 l hL.own hlt,hL.fz.trans hs4.fr.fz,fun b hb=>.inl (hL.low b hb),fun k b hb=>?_,fun b x v hz=>?_,fun b hb=>?_⟩
   ·exact(hL.tmps t).fr hs4.fr (frEnv_at hfe t)
   ·have hwA:=(hL.fr { w1 with heap:=w.heap } rfl q2 q3 q4).putO (l:=l) (o:=.loop { r with state:=.busy }) h0
    have heq:({ w1 with heap:=w.heap }:World).putObj l (.loop { r with state:=.busy })={ w1 with heap:=wB.heap }:=by rw[← hWB];rfl
    rw[heq] at hwA
    have hfin:Fr ⟨{ w1 with heap:=wB.heap },g',hp h,Γ.ntmps,a1.defers,some l⟩ g3 (hp h1) { w1 with heap:=w3.heap }:=
     ⟨⟨rfl,rfl,rfl,hk4.size,hk4.block⟩,hs4.fr.fz,hs4.fr.low,hs4.fr.own,hs4.fr.box,hs4.fr.map,hs4.fr.tail⟩
    have h9:=((hwA.trans hfin fun k hk=>absurd hk (noLostH_at hnl k))).putO (l:=l) (o:=.loop (recAt r jump)) h0
    have:({ w1 with heap:=w3.heap }:World).putObj l (.loop (recAt r jump))=w1:=by
     cases w1
     simp only at q1
     simp only[q1]
     rfl
    rw[this] at h9
    exact h9
   ·obtain⟨p1,p2⟩:=hL.dfs d hd
    have hne:d≠l:=fun e=>by rw[e,hL.rc] at p1;cases p1
    have hdl:=lt_of_heap p1
    refine⟨?_,hown3 d p2 hdl⟩
    rw[World.putObj_heap_other hne]
    exact(hk4.block d (by show d<wB.heap.size;omega) fun hX'=>(hX d hX').2.2 d hd rfl).trans ((hother d hne).trans p1)
   ·rcases hs4.fr.own k b hb with hx | hx
    ·exact .inl (hX b hx).1
    ·have hx:wB.heap.size≤b:=hx
     exact .inr ⟨by omega,by have:=f2.blk_lt hb;omega⟩
   ·by_cases hx:Ctx.X ⟨wB,g',hp h,Γ.ntmps,a1.defers,some l⟩ b
    ·exact .inl (hX b hx).1
    ·by_cases hbl:b<w.heap.size
     ·have:=hs4.fr.low b (by show b<wB.heap.size;omega) hx
      rw[this] at hz
      exact .inl (hL.dF b x v hz)
     ·exact .inr ⟨by omega,by have:=f2.fz_lt hz;omega⟩
   ·rcases hb with hb | hb
    ·have:=hL.lt b hb;omega
    ·omega
  have hend:=fun jm=>run_endRound (P:=P) (w:=w3) (l:=l) jm hl3
  have done:∀ jm,jm=jump→∃ v w',(Instr.endRound l jm).run P w3=.ok v w'∧∃ D':Nat→Prop,Ending.returned v=.returned (.bool jump.isNone)∧(loopExt Γ g env (hp h2) a ds l (recAt r jump) h0 hds).φ D' w'∧Kept D w w'∧(∀ b,D b→D' b)∧∀ b,D' b→D b∨w.heap.size≤b:=by
   rintro jm rfl
   obtain⟨D',p1,p2,p3,p4⟩:=good { { r with state:=.busy } with state:=if jm.isNone then .ready else .done,pending:=jm } (by cases jm <;> rfl)
   exact⟨_,_,hend jm,D',rfl,p1,p2,p3,p4⟩
  cases ae with
  | normal=>
   cases e <;> first | exact he2.elim | skip
   cases jump with
   | none=>exact done none rfl
   | some c=>cases c <;> exact hj2.elim
  | ret=>
   cases e <;> first | exact he2.elim | skip
   cases jump with
   | none=>exact hj2.elim
   | some c=>
    cases c with
    | ret=>exact done (some .ret) rfl
    | _=>exact hj2.elim
  | exit i=>
   cases e <;> first | exact he2.elim | skip
   have he2:i=_:=he2
   subst he2
   cases jump with
   | none=>exact hj2.elim
   | some c=>
    cases c with
    | exit j=>have hj2:j=i:=hj2;subst hj2;exact done (some (.exit j)) rfl
    | _=>exact hj2.elim
theorem Goes.rangeFunc{P:Program}{T:Tab}{N:Nat}{O:Hp}{g:Operand}{ps:Array Tmp}{assign body:Code}{f:FuncId}{first caps:List AV}{items:List (List AV)}(hit:IterP P f first caps items)
 (E:Env)(hs hm:Nat→AHp)(stop:Nat)(jump:Option Code)(hT:∀ i,i<stop→SubAllT N O E (hm i) E (hs (i+1)))(hg:opv T E 0 g=.p (.fn (.func f) first caps))(hstop:stop≤items.length)(hj0:jump=none→stop=items.length)(hj1:jump≠none→0<stop)(hj:jumpB jump=true)
 (hround:∀ i xs,i<stop→items[i]?=some xs→AD P N (hp (hs i)) true assign (AExit.thn (fun en hh=>AD P N (hp (hs i)) true body (fun e en hh=>JumpOk (bif Nat.blt (i+1) stop then none else jump) e∧SubAll N (hp (hs i)) en hh [] (hm i)) en hh) (fun _ _ _=>False)) (zipE ps.toList xs E) (hs i))
 (hps:∀ xs∈items,xs.length=ps.size∧xs.all flatImm=true)(hpl:ps.toList.all (fun t=>Nat.blt t N)=true)(hfe:∀ i,frEnv (hs i) E=true)(hnl:∀ i,noLostH (hs i)=true):
 Goes P N O false (.rangeFunc g ps assign body) E (hs 0) (exitOf jump) E (hs stop):=by
 intro Γ hc K hK
 have hcΓ:=hc.toCtxOk
 obtain⟨⟨rfl,_⟩,hrd⟩:=hc
 have hrd:=hrd rfl
 refine⟨fun gh a w hsr nn=>?_⟩
 have hF:Γ.F=Fence.wide:=by unfold Ctx.F;rw[hrd];rfl
 rw[hF]
 refine wpIn_rangeFunc fun fn _=>?_
 show ∃ l mark w₁ d w₁' f args w₂,(Instr.enterLoop fn a.tmps ps assign body none).run P w=_∧_
 obtain⟨r0,hr0⟩:∃ r0:Loop,r0={ state:=.ready,pending:=none,fn,tmps:=a.tmps,params:=ps,assign,body,defers:=w.heap.size }:=⟨_,rfl⟩
 obtain⟨W1,hW1⟩:∃ W1,(w.alloc (.deferred (some []))).alloc (.loop r0)=W1:=⟨_,rfl⟩
 have hsz1:W1.heap.size=w.heap.size+2:=by rw[← hW1];simp
 have hL1:W1.heap[w.heap.size+1]?=some (.loop r0):=by
  rw[← hW1];have:=World.alloc_heap_new (w.alloc (.deferred (some []))) (.loop r0);rwa [World.size_alloc] at this
 have hD1:W1.heap[w.heap.size]?=some (.deferred (some [])):=by
  rw[← hW1];exact(Below.heap_alloc _ _ _ (by simp)).trans (World.alloc_heap_new w _)
 have hk1:Kept (fun _=>False) w W1:=by rw[← hW1];exact(Kept.alloc _ w _).trans (Kept.alloc (fun _=>False) _ _) fun _ _ h=>h
 have hv:ERep gh (hp (hs 0)) (a.eval g) (.p (.fn (.func f) first caps)):=by
  rw[← hg]
  cases g with
  | tmp t=>exact hsr.tmps t
  | const v=>exact constEV_rep T 0 v
  | func f=>exact .p _ _ (.fn (.func f) [] [] [] [] rfl rfl (by intro i v x h;simp at h) (by intro i v x h;simp at h))
  | global g=>exact .dead _
 have hv:=hv.p_inv
 generalize hve:a.eval g=v at hv
 cases hv with
 | fn _ vf vc _ _ l1 l2 r1 r2=>
  obtain⟨ds,d1,d2,d3⟩:=hsr.dfr
  have hdlt:∀ d∈ds,d<w.heap.size:=fun d hd=>lt_of_heap (d3 d hd).1
  obtain⟨yl,hyl⟩:∃ yl:Value,yl=.func (.yield (w.heap.size+1)) #[] #[]:=⟨_,rfl⟩
  refine⟨w.heap.size+1,[markOf w.heap.size],W1,{ target:=.fn (.func f) vc.toArray,args:=vf.toArray++#[yl] },W1,f,(vf++yl::vc).toArray,W1,?_,?_,fun _ _=>trivial,?_,fun e=>by simp[Fence.wide] at e,(callsIn_wide (n:=nn - 1)).2 ?_⟩
  ·rw[← hW1,hr0];exact run_enterLoop_outer _ _ _ _ _
  ·simp only[resolve,hve,Deferred.ofValue]
   rw[hyl]
   simp[Act.eval]
  ·simp only[invoke]
   rw[run_callFunc hit.1]
   simp
  ·
   have hds:∀ d∈w.heap.size::ds,d≤w.heap.size+1:=fun d hd=>by
    rcases List.mem_cons.1 hd with rfl | hd
    ·omega
    ·have:=hdlt d hd;omega
   have h0:Γ.w0.heap.size≤w.heap.size+1:=by have:=hsr.fr.kept.size;omega
   let J:Nat→Ext:=fun i=>loopExt Γ gh E (hp (hs i)) a (w.heap.size::ds) (w.heap.size+1) (recAt r0 (bif Nat.blt i stop then none else jump)) h0 hds
   have erec:recAt r0 none=r0:=by rw[hr0];rfl
   have hJ0:∀ i,i<stop→recAt r0 (bif Nat.blt i stop then none else jump)=r0:=fun i hi=>by
    rw[show Nat.blt i stop=true from Nat.ble_eq_true_of_le hi];exact erec
   have start:LoopAt Γ gh E (hp (hs 0)) a (w.heap.size::ds) (w.heap.size+1) r0 (fun b=>b<W1.heap.size) gh W1:=by
    have hown:∀ b,w.heap.size≤b→∀ k,¬ Bset gh k (hp (hs 0) k) b:=fun b hb k hk=>by have:=hsr.inv.blk_lt hk;omega
    refine⟨hsr.tmps,⟨fun b o v hz=>hk1.pk (hsr.inv.fz b o v hz) id,fun k=>(hsr.inv.obj k).mono (GLe.refl _ _) rfl rfl rfl (fun b hb=>hk1.block b (hsr.inv.blk_lt hb) id) fun _ _ _=>rfl,hsr.inv.inj⟩,fun w1 e1 e2 e3 e4=>?_,fun d hd=>?_,hL1,hown _ (by omega),FzLe.refl _,fun b hb=>by omega,fun k b hb=>by have:=hsr.inv.blk_lt hb;omega,fun b o v hz=>by have:=hsr.inv.fz_lt hz;omega,fun b hb=>hb⟩
    ·have hf:=hsr.fr
     refine⟨⟨e2,e3,e4,by rw[e1];have:=hf.kept.size;omega,fun k hk hx=>?_⟩,hf.fz,hf.low,hf.own,hf.box,hf.map,hf.tail⟩
     rw[e1]
     exact(hk1.block k (Nat.lt_of_lt_of_le hk hf.kept.size) id).trans (hf.kept.block k hk hx)
    ·rcases List.mem_cons.1 hd with rfl | hd
     ·exact⟨hD1,hown _ (Nat.le_refl _)⟩
     ·exact⟨(hk1.block d (hdlt d hd) id).trans (d3 d hd).1,(d3 d hd).2.2⟩
   have hE:=hit.2 (w.heap.size+1) J stop jump.isNone hstop (fun e=>hj0 (Option.isNone_iff_eq_none.1 e)) (fun e=>hj1 (by intro e';rw[e'] at e;cases e)) fun i xs hi hx=>by
    obtain⟨p1,p2⟩:=hps xs (List.mem_of_getElem? hx)
    have:=round_yields (P:=P) (Γ:=Γ) (g:=gh) (env:=E) (h:=hs i) (h1:=hm i) (h2:=hs (i+1)) (a:=a) (ds:=w.heap.size::ds) (l:=w.heap.size+1) (r:=r0) h0 hds hsr.size (by rw[hr0]) (by rw[hr0]) (by rw[hr0]) (xs:=xs) p2 (by rw[hr0];exact p1.symm)
     (fun t ht=>by rw[hr0] at ht;exact Nat.le_of_ble_eq_true (List.all_eq_true.1 hpl t ht)) (hfe i) (hnl i) (bif Nat.blt (i+1) stop then none else jump) (by cases Nat.blt (i+1) stop <;> first | exact hj | rfl) (hT i hi Γ hcΓ) ⟨ds,d1,d2,fun d hd=>⟨List.mem_cons_of_mem _ hd,(d3 d hd).2.1⟩⟩ (by rw[hr0];exact hround i xs hi hx)
    have e1:J i=loopExt Γ gh E (hp (hs i)) a (w.heap.size::ds) (w.heap.size+1) r0 h0 hds:=by show loopExt _ _ _ _ _ _ _ (recAt _ _) _ _=_;rw[hJ0 i hi]
    have e2:(bif Nat.blt (i+1) stop then none else jump).isNone=(jump.isNone||Nat.blt (i+1) stop):=by
     cases Nat.blt (i+1) stop
     ·simp
     ·simp
    rw[e1,← e2]
    exact this
   obtain⟨gx,hgx⟩:∃ gx:Gh,gx=⟨gh.fz,fun _=>0,fun _=>0,fun _=>0,fun b=>b<W1.heap.size⟩:=⟨_,rfl⟩
   have hpx:∀ (e:Ext) k,hp [(xk,.ext e)] k=if k=xk then .ext e else .gone:=fun e k=>by rw[hp_cons];rfl
   have hwx:WInv gx (hp [(xk,.ext (J 0))]) W1:=by
    refine⟨fun b o v hz=>?_,fun k=>?_,fun k j b h1 h2=>?_⟩
    ·rw[hgx] at hz;exact hk1.pk (hsr.inv.fz b o v hz) id
    ·rw[hpx]
     by_cases hk:k=xk
     ·rw[if_pos hk]
      rw[hgx]
      refine⟨⟨gh,?_⟩,fun b o v _ hz=>hz⟩
      show LoopAt Γ gh E (hp (hs 0)) a _ _ (recAt r0 (bif Nat.blt 0 stop then none else jump)) _ gh W1
      have:recAt r0 (bif Nat.blt 0 stop then none else jump)=r0:=by
       by_cases h:0<stop
       ·exact hJ0 0 h
       ·have hjn:jump=none:=Classical.byContradiction fun e=>h (hj1 e)
        rw[hjn]
        cases Nat.blt 0 stop <;> exact erec
      rw[this];exact start
     ·rw[if_neg hk];trivial
    ·rw[hpx] at h1 h2
     by_cases hk:k=xk <;> by_cases hj:j=xk
     ·rw[hk,hj]
     ·rw[if_neg hj] at h2;exact h2.elim
     ·rw[if_neg hk] at h1;exact h1.elim
     ·rw[if_neg hk] at h1;exact h1.elim
   refine(hE.2 gx W1 (vf++yl::vc) hwx (by simp[l1,l2]) fun i v x hv hx=>?_).mono ?_
   ·rw[List.getElem?_map] at hx
    cases hq:(first++yv (w.heap.size+1)::caps)[i]? with
    | none=>rw[hq] at hx;cases hx
    | some y=>
     rw[hq] at hx;cases hx
     refine .p _ _ ?_
     rw[hgx]
     show Rep gh.fz v y
     by_cases h1:i<vf.length
     ·rw[List.getElem?_append_left h1] at hv
      rw[List.getElem?_append_left (l1▸h1)] at hq
      exact r1 i v y hv hq
     ·rw[List.getElem?_append_right (by omega)] at hv hq
      rw[← l1] at hq
      cases hi:i - vf.length with
      | zero=>
       rw[hi] at hv hq
       simp at hv hq
       subst hv;subst hq
       rw[hyl]
       exact .fn _ [] [] [] [] rfl rfl (by intro i v x h;simp at h) (by intro i v x h;simp at h)
      | succ m=>
       rw[hi] at hv hq
       exact r2 m v y (by simpa using hv) (by simpa using hq)
   ·rintro e w9 ⟨v,g9,rfl,_,hw9,hf9,_⟩
    have hob:=hw9.obj xk
    rw[hpx,if_pos rfl] at hob
    obtain⟨⟨g',hL⟩,_⟩:=hob
    have hL:LoopAt Γ gh E (hp (hs stop)) a (w.heap.size::ds) (w.heap.size+1) (recAt r0 jump) g9.dom g' w9:=by
     have:recAt r0 (bif Nat.blt stop stop then none else jump)=recAt r0 jump:=by
      cases hb:Nat.blt stop stop with
      | false=>rfl
      | true=>exact absurd (Nat.le_of_ble_eq_true hb) (Nat.lt_irrefl _)
     rw[← this];exact hL
    have hnb:(recAt r0 jump).state≠.busy:=by cases jump <;> simp[recAt]
    have hpd:(recAt r0 jump).pending=jump:=by cases jump <;> rfl
    have hend:=run_endLoop (P:=P) hL.rc hnb
    rw[hpd] at hend
    have hl9:=lt_of_heap hL.rc
    have real:SR Γ g' (lk E) (hp (hs stop)) { a with defers:=[markOf w.heap.size]++a.defers } (w9.putObj (w.heap.size+1) (.loop { recAt r0 jump with state:=.exhausted })):=by
     refine⟨hsr.size,⟨w.heap.size::ds,by simp[d1],List.nodup_cons.2 ⟨fun hm=>by have:=hdlt _ hm;omega,d2⟩,fun d hd=>?_⟩,hL.tmps,hL.inv.putO hL.own (hL.inv.fz_loop hL.rc),?_⟩
     ·obtain⟨p1,p2⟩:=hL.dfs d hd
      have hne:d≠w.heap.size+1:=fun e=>by rw[e,hL.rc] at p1;cases p1
      refine⟨by rw[World.putObj_heap_other hne];exact p1,?_,p2⟩
      rcases List.mem_cons.1 hd with rfl | hd
      ·exact hsr.fr.kept.size
      ·exact(d3 d hd).2.1
     ·refine(hL.fr w9 rfl ?_ ?_ ?_).putO h0
      ·exact hf9.kept.os.trans (hk1.os.trans hsr.fr.kept.os)
      ·exact hf9.kept.tape.trans (hk1.tape.trans hsr.fr.kept.tape)
      ·exact hf9.kept.output.trans (hk1.output.trans hsr.fr.kept.output)
    refine⟨jump,_,hend,?_⟩
    cases jump with
    | none=>exact⟨.normal,E,hs stop,g',trivial,hK,real⟩
    | some c=>
     cases c with
     | ret=>exact wpIn_ret ⟨.ret,E,hs stop,g',trivial,hK,real⟩
     | exit i=>exact wpIn_exit ⟨.exit i,E,hs stop,g',rfl,hK,real⟩
     | _=>simp[jumpB] at hj
theorem AD.rangeFuncT{P:Program}{T:Tab}{N:Nat}{O:Hp}{Q:Kc}{env:Env}{h:AHp}{g:Operand}{ps:Array Tmp}{assign body:Code}{f:FuncId}{first caps:List AV}{items:List (List AV)}(hit:IterP P f first caps items)
 (E:Env)(hs hm:Nat→AHp)(stop:Nat)(jump:Option Code)(h0:SubAll N O env h E (hs 0))(hT:∀ i,i<stop→SubAllT N O E (hm i) E (hs (i+1)))(hg:opv T E 0 g=.p (.fn (.func f) first caps))(hstop:stop≤items.length)(hj0:jump=none→stop=items.length)(hj1:jump≠none→0<stop)
 (hround:∀ i xs,i<stop→items[i]?=some xs→AD P N (hp (hs i)) true assign (AExit.thn (fun en hh=>AD P N (hp (hs i)) true body (fun e en hh=>JumpOk (bif Nat.blt (i+1) stop then none else jump) e∧SubAll N (hp (hs i)) en hh [] (hm i)) en hh) (fun _ _ _=>False)) (zipE ps.toList xs E) (hs i))
 (hps:∀ xs∈items,xs.length=ps.size∧xs.all flatImm=true)(hQ:Q (exitOf jump) E (hs stop))(hj:jumpB jump=true:=by rfl)(hpl:ps.toList.all (fun t=>Nat.blt t N)=true:=by rfl)(hfe:∀ i,frEnv (hs i) E=true:=by intro _;rfl)(hnl:∀ i,noLostH (hs i)=true:=by intro _;rfl):
 AD P N O false (.rangeFunc g ps assign body) Q env h:=
 AD.sub h0 ⟨fun hl=>⟨exitOf jump,E,hs stop,hQ,hl.goes (Goes.rangeFunc hit E hs hm stop jump hT hg hstop hj0 hj1 hj hround hps hpl hfe hnl),Goes.rangeFunc hit E hs hm stop jump hT hg hstop hj0 hj1 hj hround hps hpl hfe hnl⟩⟩
theorem AD.rangeFunc{P:Program}{T:Tab}{N:Nat}{O:Hp}{Q:Kc}{env:Env}{h:AHp}{g:Operand}{ps:Array Tmp}{assign body:Code}{f:FuncId}{first caps:List AV}{items:List (List AV)}(hit:IterP P f first caps items)
 (E:Env)(hs:Nat→AHp)(stop:Nat)(jump:Option Code)(h0:SubAll N O env h E (hs 0))(hg:opv T E 0 g=.p (.fn (.func f) first caps))(hstop:stop≤items.length)(hj0:jump=none→stop=items.length)(hj1:jump≠none→0<stop)
 (hround:∀ i xs,i<stop→items[i]?=some xs→AD P N (hp (hs i)) true assign (AExit.thn (fun en hh=>AD P N (hp (hs i)) true body (fun e en hh=>JumpOk (bif Nat.blt (i+1) stop then none else jump) e∧SubAll N (hp (hs i)) en hh [] (hs (i+1))) en hh) (fun _ _ _=>False)) (zipE ps.toList xs E) (hs i))
 (hps:∀ xs∈items,xs.length=ps.size∧xs.all flatImm=true)(hQ:Q (exitOf jump) E (hs stop))(hj:jumpB jump=true:=by rfl)(hpl:ps.toList.all (fun t=>Nat.blt t N)=true:=by rfl)(hfe:∀ i,frEnv (hs i) E=true:=by intro _;rfl)(hnl:∀ i,noLostH (hs i)=true:=by intro _;rfl):
 AD P N O false (.rangeFunc g ps assign body) Q env h:=
 AD.rangeFuncT hit E hs (fun i=>hs (i+1)) stop jump h0 (fun _ _=>.refl) hg hstop hj0 hj1 hround hps hQ hj hpl hfe hnl
theorem IterP.of{P : Program}{T : Tab}(hT : TabOk P T){f : FuncId}{fn : Func}{c : Code}{first caps : List AV}{items : List (List AV)}(hf : P.funcs[f]? = some fn)(hb : fn.body = some c)(hname : (fn.name == "runtime.NumGoroutine") = false)(hn : (first ++ yv 0 :: caps).length ≤ fn.ntmps)
 (hh:∀ (l:Nat) (J:Nat→Ext) (stop:Nat) (fin:Bool),stop≤items.length→(fin=true→stop=items.length)→(fin=false→0<stop)→(∀ i xs,i<stop→items[i]?=some xs→YFun P l xs (J i) (fin||Nat.blt (i+1) stop) (J (i+1))) →
  AD P fn.ntmps (hp [(xk,.ext (J 0))]) false c (FinE T fn.results.toList [(xk,.ext (J 0))] (fun y' h'=>y'=.tup []∧h'=[(xk,.ext (J stop))])) (mkE 0 ((first++yv l::caps).map .p)) [(xk,.ext (J 0))]):IterP P f first caps items:=
 ⟨⟨fn,hf,hname,by rw[hb];rfl⟩,fun l J stop fin h1 h2 h3 h4=>EFun.of hT hf hb hname (by simpa using hn) rfl (hh l J stop fin h1 h2 h3 h4)⟩
end Go.Ab
namespace Go.Ab
open Go Go.Proofs
set_option maxRecDepth 10000
structure Bind where
 name:ByteArray
 atom:Int
def Bind.av(b:Bind):AV:=.agg [eS b.name,eI b.atom]
def binds(l:List Bind):AV:=.slice 2 (l.map Bind.av)
def backs(l:List Bind):List (List AV):=(List.range l.length).reverse.map fun i=>[eI (i:Nat),(l.getD i ⟨.empty,0⟩).av]
theorem backs_len(l:List Bind):(backs l).length=l.length:=by simp[backs]
theorem backs_at(l:List Bind){i:Nat}(hi:i<l.length):(backs l)[i]?=some [eI ((l.length - 1 - i:Nat):Int),(l[l.length - 1 - i]'(by omega)).av]:=by
 simp only[backs,List.getElem?_map]
 rw[List.getElem?_reverse (by simpa using hi)]
 simp[List.getD_eq_getElem?_getD,show l.length - 1 - i<l.length by omega]
theorem backward1(l:List Bind)(hm:l.length≤5000000):IterP Tryz.prog 190 [] [.ref [binds l]] (backs l):=by
 refine IterP.of hT Tryz.func190 rfl rfl (by simp) fun q J stop fin h1 h2 h3 hy=>AD.run hT hmix ?_
 have hl:(l.map Bind.av).length=l.length:=List.length_map _
 rw[backs_len] at h1 h2
 intro _
 refine ngo_in (by omega) (by omega) ?_
 refine AD.loopI (fun x:Nat×Int=>x.1≤stop∧(fin=false→x.1<stop)∧x.2=(l.length:Int) - 1 - x.1) (fun x=>l.length - x.1) (fun x=>[(0,.p (yv q)),(1,.p (.ref [binds l])),(3,eint .i64 x.2)]) (fun x=>[(xk,.ext (J x.1))]) (0,((l.map Bind.av).length:Int) - 1) ⟨Nat.zero_le _,h3,by dsimp only;omega⟩
  .of fun ⟨i,v⟩ ⟨g1,g2,g3⟩=>AD.run hT hmix ?_
 dsimp only at g1 g2 g3 ⊢
 refine bgs (fun hb=>?_) (fun hb=>?_)
 ·replace hb:=odt hb
  have hi:i<l.length:=by omega
  have his:i<stop:=by
   cases fin with
   | true=>have:=h2 rfl;omega
   | false=>exact g2 rfl
  have hyi:=hy i _ his (backs_at l hi)
  rw[show((l.length - 1 - i:Nat):Int)=v by omega] at hyi
  refine igo_map (l.length - 1 - i) (by omega) (by omega) (.mk xk (J i) (J (i+1)) _ _ rfl rfl hyi ?_)
  cases hB:fin||Nat.blt (i+1) stop with
  | true=>
   refine ngo_in (by omega) (by omega) ⟨(i+1,v - 1),⟨by dsimp only;omega,fun hf=>?_,by dsimp only;omega⟩,by dsimp only;omega,.of⟩
   rw[hf] at hB
   exact Nat.le_of_ble_eq_true hB
  | false=>
   rw[Bool.or_eq_false_iff] at hB
   have:¬ (i+1<stop):=fun h=>by rw[show Nat.blt (i+1) stop=true from Nat.ble_eq_true_of_le h] at hB;cases hB.2
   obtain rfl:i+1=stop:=by omega
   exact⟨[],[],_,rfl,.of,rfl,rfl,rfl⟩
 ·replace hb:=of_decide_eq_false hb
  have hi:i=l.length:=by omega
  have:fin=true:=by
   cases fin with
   | true=>rfl
   | false=>have:=g2 rfl;omega
  have:=h2 this
  obtain rfl:i=stop:=by omega
  exact⟨[],[],_,rfl,.of,rfl,rfl,rfl⟩
end Go.Ab
namespace Go.Ab
open Go Go.RowKit
def DQuiet(P:Program)(f:FuncId)(k:Nat):Prop:=callable P f∧∀ (args:Array Value) (w:World),args.size=k→CallsDIn Fence.wide 0 P f args .returning w fun e u' w'=>(∃ v,e=.returned v)∧u'=.returning∧w'=w
theorem leaves_quiet{P:Program}{fn:Func}{tmps:Array Value}{R:Ending→World→Prop}{f:FuncId}{args:Array Value}(hq:DQuiet P f args.size){w:World}(h:∃ v,(results fn tmps).run P w=.ok v w∧R (.returned v) w):
 LeavesInM Fence.wide 0 P fn tmps R [{ target:=.fn (.func f) #[],args }] .returning w:=by
 refine⟨nofun,.inr ⟨fun e=>by simp[Fence.wide] at e,_,_,f,args,rfl,?_,fun _ _=>trivial,?_⟩⟩
 ·simp only[invoke]
  rw[run_callFunc hq.1]
  simp
 ·obtain⟨h1,h2⟩:=hq.2 args w rfl
  refine⟨h1,fun c cs hc hr=>?_⟩
  obtain⟨e,u',w',fr,⟨⟨v,rfl⟩,rfl,rfl⟩,h4,h5⟩:=h2 c cs hc hr
  exact⟨.returned v,.returning,w',fr,h,h4,h5⟩
theorem leaves_marksT{P:Program}{fn:Func}{tmps:Array Value}{R:Ending→World→Prop}{tail:List Deferred}:∀ (ds:List Nat) (w:World),ds.Nodup→(∀ d∈ds,w.heap[d]?=some (.deferred (some []))) →
 (∀ w',Kept (fun b=>b∈ds) w w'→LeavesInM Fence.wide 0 P fn tmps R tail .returning w')→LeavesInM Fence.wide 0 P fn tmps R (ds.map markOf++tail) .returning w
 | [],w,_,_,h=>h w (Kept.refl _ _)
 | d::ds,w,hn,hd,h=>by
  have h0:=hd d (by simp)
  have hlt:=lt_of_heap h0
  have hne:∀ x∈ds,x≠d:=fun x hx e=>(List.nodup_cons.1 hn).1 (e▸hx)
  refine⟨nofun,.inl ⟨d,_,rfl,run_takeDeferred h0,leaves_marksT ds _ (List.nodup_cons.1 hn).2 (fun x hx=>?_) fun w' hk=>h w' ?_⟩⟩
  ·rw[World.putObj_heap_other (hne x hx)];exact hd x (by simp[hx])
  ·have k1:Kept (fun b=>b∈d::ds) w (w.putObj d (.deferred none)):=⟨rfl,rfl,rfl,by simp[World.putObj],fun k hk hx=>World.putObj_heap_other (fun e=>hx (by simp[e]))⟩
   exact k1.trans hk fun b _ hb=>by simp[hb]
theorem tr_textD{P:Program}{N:Nat}{Γ:Ctx}(hN:Γ.ntmps=N){D:List Deferred}{ops:Array Oper}{l:List Oper}{E:Nat→EV}{H:Hp}{steps E' H'}(ht:Tr P N ops.toList l E H steps E' H'):∀ (i:Nat) (g:Gh) (a:Act) (w:World),ops.toList.drop i=l→SR Γ g E H a w→a.defers=D →
 ∀ (Q:Exit→Act→World→Prop),(∀ g' a' w',SR Γ g' E' H' a' w'→a'.defers=D→Q .normal a' w')→∀ n,wpOpsIn Γ.F n P ops Q (List.range' i l.length) a w:=by
 have put:∀ (a:Act) (d:Option Tmp) (v:Value),(a.put d v).defers=a.defers:=fun a d v=>by cases d <;> rfl
 have at0:∀ {i:Nat} {o:Oper} {r:List Oper},ops.toList.drop i=o::r→ops[i]?=some o∧ops.toList.drop (i+1)=r:=fun {i o r} hl=>by
  refine⟨?_,by rw[← List.drop_drop,hl];rfl⟩
  have:(ops.toList.drop i)[0]?=some o:=by rw[hl];rfl
  rw[List.getElem?_drop] at this
  simpa using this
 induction ht with
 | nil E H=>exact fun i g a w _ hs hd Q hQ n=>hQ g a w hs hd
 | run hd hg ho _ ih=>
  intro i g a w hl hs hdd Q hQ n
  obtain⟨hoi,hr⟩:=at0 hl
  rw[List.length_cons,List.range'_succ,wpOpsIn_cons]
  unfold wpOpIn
  rw[hoi]
  dsimp only
  rw[if_pos (GTake.wanted hg hs.tmps)]
  refine ho.2.2 Γ.rd g a w _ _ (fun _ _=>rfl) (fun _ _=>rfl) hs.tmps hs.inv n _ _ fun v g' w' hle hi hf hx=>?_
  have e:=ovr_self ho.1
  rw[e] at hle hi hf hx
  exact ih (i+1) g' _ w' hr (hs.put (hN▸hd) hle hi hf hx) ((put ..).trans hdd) Q hQ n
 | pass hd hg _ ih=>
  intro i g a w hl hs hdd Q hQ n
  obtain⟨hoi,hr⟩:=at0 hl
  rw[List.length_cons,List.range'_succ,wpOpsIn_cons]
  unfold wpOpIn
  rw[hoi]
  dsimp only
  rw[GPass.wanted hg hs.tmps]
  simp only[Bool.false_eq_true,if_false]
  exact⟨fun _ _=>trivial,ih (i+1) g _ w hr (hs.pass (hN▸hd)) ((put ..).trans hdd) Q hQ n⟩
theorem AFunE.introD{P:Program}{T:Tab}(hT:TabOk P T){f:FuncId}{fn:Func}{id0 id1:Nat}{ops0:Array Oper}{od:Oper}{rest:Code}{ys:List AV}{R:EV→Prop}(hf:P.funcs[f]?=some fn)(hb:fn.body=some (.seq (.region id0 ops0 false) (.seq (.region id1 #[od] false) rest)))
 (hname : (fn.name == "runtime.NumGoroutine") = false)(hn : ys.length ≤ fn.ntmps){c : Call}{fq : FuncId}(hod : od.op = .defer c)(hgd : od.guard = none)(hdst : od.dst = none)(hc : c.callee = .value (.func fq))(hq : DQuiet P fq c.args.size)
 (h0:∃ y,R y)(hh:aops P T fn.ntmps ops0.toList ops0.toList (mkEnv 0 ys) [] [] (fun env h _=>AD P fn.ntmps noH false rest (FinQ T fn.results.toList R) env h)):∃ y,R y∧AFun P f ys y:=by
 by_cases hex:∃ fz w vs,FzOk fz w∧RepsL fz vs ys
 ·obtain⟨fz,w,vs,hz,hr⟩:=hex
  obtain⟨steps,env1,hp1,htr,hAD,g1,a1,w1,hs1⟩:=aops_tr hT (N:=fn.ntmps) (Γ:=⟨w,⟨fz,fun _=>0,fun _=>0,fun _=>0,fun _=>False⟩,noH,fn.ntmps,[],none⟩) rfl _ _ _ _ _ hh _ _ w (start_SR (g:=⟨fz,fun _=>0,fun _=>0,fun _=>0,fun _=>False⟩) hz hr hn)
  obtain⟨ae,env',h',hqq,_,hg⟩:=AD.out hAD ⟨_,g1,a1,w1,⟨⟨rfl,rfl⟩,fun _=>rfl⟩,hs1⟩
  have mk:(∃ es xs,resAll T env' h' fn.results.toList=some es∧toPs es=some xs∧R (retEV xs))→(∀ i,ae≠.exit i)→∃ y,R y∧AFun P f ys y:=by
   rintro⟨es,xs,q1,q2,q3⟩ hne
   refine⟨_,q3,⟨fn,hf,hname,by rw[hb];rfl⟩,fun fz w vs hz hr=>?_⟩
   refine(callsIn_wide (n:=0)).1 (callsIn_of_wp_marks hf hb trivial ?_)
   have hs0:=start_SR (g:=⟨fz,fun _=>0,fun _=>0,fun _=>0,fun _=>False⟩) hz hr hn
   refine wpIn_seq ?_
   refine wpIn_region ?_
   rw[List.range_eq_range']
   have hl:ops0.size=ops0.toList.length:=by simp
   rw[hl]
   refine tr_textD (Γ:=⟨w,⟨fz,fun _=>0,fun _=>0,fun _=>0,fun _=>False⟩,noH,fn.ntmps,[],none⟩) rfl (D:=[]) htr 0 _ _ w (by simp) hs0 rfl _ (fun g2 a2 w2 hs2 hd2=>?_) 0
   show Code.wpIn _ _ _ (.seq _ _) _ _ _
   refine wpIn_seq (wpIn_region ?_)
   show wpOpsIn _ _ _ _ _ [0] _ _
   obtain⟨dq,hdq⟩:∃ dq:Deferred,dq={ target:=.fn (.func fq) #[],args:=c.args.map a2.eval }:=⟨_,rfl⟩
   have hres:(execOp a2.eval od).run P w2=.ok (.defer dq) w2:=by
    simp only[execOp,hod,resolve,hc,Act.eval,Deferred.ofValue]
    rw[hdq]
    simp[Act.eval]
   refine wpOps_one (o:=od) rfl hgd ⟨fun _ _=>trivial,?_⟩
   show od.uponIn _ _ _ _ _ _ ((execOp a2.eval od).run P w2)
   rw[hres,Oper.uponIn_defer,hdst]
   show Code.wpIn _ _ _ rest _ { a2 with defers:=dq::a2.defers } w2
   have hs3:SR ⟨w,⟨fz,fun _=>0,fun _=>0,fun _=>0,fun _=>False⟩,noH,fn.ntmps,[dq],none⟩ g2 (lk env1) (hp hp1) { a2 with defers:=dq::a2.defers } w2:=
    ⟨hs2.size,DfOk.start (by rw[hd2]),hs2.tmps,hs2.inv,⟨hs2.fr.kept,hs2.fr.fz,hs2.fr.low,hs2.fr.own,hs2.fr.box,hs2.fr.map,hs2.fr.tail⟩⟩
   have hw:=(hg ⟨w,⟨fz,fun _=>0,fun _=>0,fun _=>0,fun _=>False⟩,noH,fn.ntmps,[dq],none⟩ ⟨⟨rfl,rfl⟩,fun _=>rfl⟩ (fun e en hh=>e=ae∧en=env'∧hh=h') ⟨rfl,rfl,rfl⟩).out g2 _ w2 hs3 0
   refine wpIn_mono hw ?_
   rintro e a4 w4 ⟨ae4,en4,hh4,g4,he4,⟨rfl,rfl,rfl⟩,hs4⟩
   obtain⟨ds,d1,d2,d3⟩:=hs4.dfr
   have key:LeavesInM Fence.wide 0 P fn a4.tmps (fun e w'=>∃ v fz',e=.returned v∧Kept (fun _=>False) w w'∧FzStep w.heap.size fz fz'∧FzOk fz' w'∧∀ g:Gh,g.fz=fz'→ERep g noH v (retEV xs)) a4.defers .returning w4:=by
    rw[d1]
    refine leaves_marksT ds w4 d2 (fun d hd=>(d3 d hd).1) fun w5 hk=>?_
    have hs5:=hs4.other hk fun b hb=>⟨(d3 b hb).2.1,(d3 b hb).2.2,_,(d3 b hb).1⟩
    rw[show([dq]:List Deferred)=[{ target:=.fn (.func fq) #[],args:=c.args.map a2.eval }] from by rw[hdq]]
    refine leaves_quiet (by simpa using hq) ?_
    obtain⟨vs',r1,r2,r3⟩:=results_run hT (fn:=fn) hs5.tmps hs5.inv q1
    obtain⟨p1,p2⟩:=toPl_rep q2 r2 r3
    refine⟨_,r1,_,g4.fz,rfl,hs5.fr.kept.mono fun b _ hX=>noXs b hX,⟨hs5.fr.fz,fun b hb=>hs5.fr.low b hb (noXs b)⟩,hs5.inv.fz,fun g6 hg6=>?_⟩
    have hl:vs'.length=(xs.map EV.p).length:=by simpa using p1
    have e1:retEV xs=retE (xs.map .p):=by
     unfold retEV retE
     cases xs with
     | nil=>rfl
     | cons x r=>cases r <;> rfl
    rw[e1]
    refine ret_rep hl fun i v x hv hx=>?_
    rw[List.getElem?_map] at hx
    cases hq:xs[i]? with
    | none=>rw[hq] at hx;cases hx
    | some y=>rw[hq] at hx;cases hx;exact .p _ _ (hg6▸p2 i v y hv hq)
   cases ae4 with
   | normal=>cases e <;> first | exact he4.elim | exact key
   | exit i=>exact absurd rfl (hne i)
   | ret=>cases e <;> first | exact he4.elim | exact key
  cases ae with
  | exit i=>exact hqq.elim
  | normal=>exact mk hqq nofun
  | ret=>exact mk hqq nofun
 ·obtain⟨y,hy⟩:=h0
  exact⟨y,hy,⟨fn,hf,hname,by rw[hb];rfl⟩,fun fz w vs hz hr=>absurd ⟨fz,w,vs,hz,hr⟩ hex⟩
end Go.Ab
namespace Go.Ab
open Go Go.Proofs
set_option maxRecDepth 10000
theorem caught_quiet:DQuiet Tryz.prog 30 1:=by
 refine⟨⟨_,Tryz.func30,rfl,rfl⟩,fun args w hs=>?_⟩
 refine callsDIn_of_wpSIn Tryz.func30 rfl trivial fun c₀ cs hu=>?_
 obtain⟨x,rfl⟩:∃ x,args=#[x]:=by
  obtain⟨l⟩:=args
  cases l with
  | nil=>simp at hs
  | cons x r=>cases r with
   | nil=>exact⟨x,rfl⟩
   | cons y z=>simp at hs
 apply wpSIn_seq
 apply wpSIn_region
 simp[wpOpsSIn,go_sem,recoverD,hu,Exit.thenS]
 refine wpSIn_of_wpIn rfl (wpIn_wide.2 ?_)
 refine wp_block (wp_seq (wp_region ?_))
 simp[wpOps,Oper.wp,go_sem,List.range,List.range.loop,yielded,Region.wanted,Act.eval]
 left
 refine wp_cond_true (by simp[Act.eval]) ?_
 refine wp_region ?_
 simp[wpOps,Oper.wp,go_sem,List.range,List.range.loop,yielded,Region.wanted,Act.eval,Exit.inBlock,bodyPostS,results,hu]
 exact .inl (by rw[← hu])
theorem Nd.ind{P:Nd→Prop}(h:∀ n:Nd,(∀ k∈n.kids,P k)→P n)(n:Nd):P n:=
 Nd.rec (motive_1:=P) (motive_2:=fun l=>∀ k∈l,P k) (fun op name n kids a ih=>h _ ih) (fun k hk=>by cases hk) (fun x r hx hr k hk=>by
  rcases List.mem_cons.1 hk with rfl | hk
  ·exact hx
  ·exact hr k hk) n
theorem Nd.cs_eq(n:Nd):n.cs=[eI n.op,eS n.name,eI n.n,.slice 5 (n.kids.map Nd.av),eI n.at_]:=by
 cases n with
 | mk op name n kids a=>simp only[Nd.cs,Nd.avs_map,Nd.op,Nd.name,Nd.n,Nd.kids,Nd.at_]
def Nd.ex(n:Nd):AV:=.agg [eI n.op,eS n.name,eI n.n,.slice 5 (n.kids.map Nd.av),eI n.at_]
theorem Nd.av_ex:Nd.av=Nd.ex:=funext fun n=>by rw[Nd.av,n.cs_eq];rfl
mutual
def Nd.hasCall:Nd→Bool
 | .mk op _ _ kids _=>decide (op=47)||Nd.hasCalls kids
def Nd.hasCalls:List Nd→Bool
 | []=>false
 | x::r=>x.hasCall||Nd.hasCalls r
end
theorem Nd.hasCalls_any:∀ l:List Nd,Nd.hasCalls l=l.any Nd.hasCall
 | []=>rfl
 | x::r=>by simp only[Nd.hasCalls,List.any_cons,Nd.hasCalls_any r]
theorem Nd.hasCall_eq(n:Nd):n.hasCall=(decide (n.op=47)||n.kids.any Nd.hasCall):=by
 cases n with
 | mk op name n kids a=>show(decide (op=47)||Nd.hasCalls kids)=_;rw[Nd.hasCalls_any];rfl
theorem hasCall04(n:Nd):AFun Tryz.prog 20 [n.av] (.p (eB n.hasCall)):=by
 induction n using Nd.ind with
 | h n ih=>
  have e:n.av=.agg [eI n.op,eS n.name,eI n.n,.slice 5 (n.kids.map Nd.av),eI n.at_]:=by rw[Nd.av,n.cs_eq]
  rw[e]
  refine AFun.of hT Tryz.func20 rfl rfl (by simp) (AD.run hT hmix ?_)
  have hl:(n.kids.map Nd.av).length=n.kids.length:=List.length_map _
  refine bgs (fun hb=>?_) (fun hb=>?_)
  ·have hb:n.op=47:=by simpa using hb
   exact⟨_,_,rfl,rfl,by rw[n.hasCall_eq,hb];rfl⟩
  ·have hb:n.op≠47:=by simpa using hb
   refine AD.loopI (fun i:Nat=>i≤n.kids.length∧∀ k∈n.kids.take i,k.hasCall=false) (fun i=>n.kids.length - i) (fun i=>[(1,.loc 1 0),(3,eint .i64 i)]) (fun _=>[(1,.box 35 ([eI n.op,eS n.name,eI n.n,.slice 5 (n.kids.map Nd.av),eI n.at_].map .p))]) 0 ⟨Nat.zero_le _,by simp⟩ .of fun i ⟨hi,hk⟩=>AD.run hT hmix ?_
   intro hlen
   refine bgs (fun hb2=>?_) (fun hb2=>?_)
   ·replace hb2:=odt hb2
    have hlt:i<n.kids.length:=by omega
    refine igo_map i rfl hlt (.pure _ _ rfl (ih _ (List.getElem_mem hlt)) ?_)
    cases hc:n.kids[i].hasCall with
    | true=>exact⟨_,_,rfl,rfl,by rw[n.hasCall_eq,List.any_eq_true.2 ⟨_,List.getElem_mem hlt,hc⟩,Bool.or_true];rfl⟩
    | false=>
     refine ngo_in (by omega) (by omega) ⟨i+1,⟨by omega,fun k hk'=>?_⟩,by omega,.of⟩
     rw[List.take_succ_eq_append_getElem hlt,List.mem_append,List.mem_singleton] at hk'
     rcases hk' with hk' | rfl
     ·exact hk k hk'
     ·exact hc
   ·replace hb2:=of_decide_eq_false hb2
    obtain rfl:i=n.kids.length:=by omega
    rw[List.take_length] at hk
    refine⟨_,_,rfl,rfl,?_⟩
    have:n.kids.any Nd.hasCall=false:=by
     rw[List.any_eq_false];intro k hk';rw[hk k hk'];simp
    rw[n.hasCall_eq,this,decide_eq_false hb];rfl
def kindOf(op:Int):Int:=if 1≤op∧op≤15 then 101 else if 20≤op∧op≤23 then 105 else if 30≤op∧op≤51 then 102 else 0
theorem kind02(op:Int):AFun Tryz.prog 213 [eI op] (.p (eU8 (kindOf op))):=by
 refine AFun.of hT Tryz.func213 rfl rfl (by simp) (AD.run hT hmix ?_)
 have e3:∀ x,kindOf op=x→EV.p (eU8 (kindOf op))=retEV [AV.imm (.int .u8 x)]:=fun x h=>by rw[h];rfl
 repeat' first
  | exact⟨_,_,rfl,rfl,e3 _ (by simp only[decide_eq_true_eq,decide_eq_false_iff_not] at *;unfold kindOf;repeat' split <;> omega)⟩
  | refine bgs (fun _=>?_) (fun _=>?_)
def shapeOf(op:Int)(k:Nat):Option ByteArray:=
 if op∈[1,2,3,4,20,30,31] then some ⟨#[]⟩ else if op∈[5,11,12,13,21,34,35,36,37] then some ⟨#[101]⟩
 else if op∈[6,7,8,9,10,14,32,33] then some ⟨#[101,101]⟩ else if op∈[15,45,46] then some ⟨#[101,102]⟩
 else if op∈[22,23,38,39] then some ⟨#[105,105]⟩ else if op∈[40,48,49,50] then some ⟨#[102]⟩
 else if op∈[41,42,43,44,51] then some ⟨#[102,102]⟩ else if op=47 then some ⟨(List.replicate (min k 401) 101).toArray⟩ else none
set_option maxHeartbeats 2000000 in
theorem shape02(op:Int)(k:Nat):AFun Tryz.prog 212 [eI op,eI k] (.tup [.p (eS ((shapeOf op k).getD ⟨#[]⟩)),.p (eB (shapeOf op k).isSome)]):=by
 refine AFun.of hT Tryz.func212 rfl rfl (by simp) (AD.run hT hmix ?_)
 have e3:∀ o:Option ByteArray,shapeOf op k=o→EV.tup [.p (eS ((shapeOf op k).getD ⟨#[]⟩)),.p (eB (shapeOf op k).isSome)]=retEV [eS (o.getD ⟨#[]⟩),eB o.isSome]:=fun o h=>by rw[h];rfl
 have rep:∀ n:Nat,(⟨(List.replicate n 101).toArray⟩:ByteArray).size=n:=fun n=>by simp[ByteArray.size]
 repeat' first
  | refine bgo_true (by assumption) ?_
  | refine bgo_false (by assumption) ?_
  | refine bgs (fun _=>?_) (fun _=>?_)
  | (show ∃ es xs,_∧_;exact⟨_,_,rfl,rfl,e3 (some _) (by simp only[beq_iff_eq,beq_eq_false_iff_ne] at *;subst op;rfl)⟩)
  | (show ∃ es xs,_∧_;exact⟨_,_,rfl,rfl,e3 none (by simp only[beq_iff_eq,beq_eq_false_iff_ne] at *;unfold shapeOf;simp[*])⟩)
 refine AD.loopI (fun x:Nat×ByteArray=>x.1≤min k 401∧x.2=⟨(List.replicate x.1 101).toArray⟩) (fun x=>401 - x.1) (fun x=>[(1,.p (eI k)),(6,.p (eS x.2)),(7,eint .i64 x.1)]) (fun _=>[]) (0,⟨#[]⟩) ⟨Nat.zero_le _,rfl⟩ .of fun ⟨i,s⟩ ⟨hi,hs⟩=>AD.run hT hmix ?_
 dsimp only at hi hs ⊢
 have fin:min k 401=i→shapeOf op k=some s:=fun h=>by simp only[beq_iff_eq] at *;subst op;rw[hs,← h];rfl
 refine bgs (fun h1=>bgs (fun h2=>?_) (fun h2=>?_)) (fun h1=>?_)
 ·replace h1:=odt h1
  replace h2:=odt h2
  refine⟨by rw[hs,rep];simp[ByteArray.size];omega,ngo_in (by omega) (by omega) ⟨(i+1,_),⟨by dsimp only;omega,?_⟩,by dsimp only;omega,.of⟩⟩
  dsimp only
  rw[hs,List.replicate_succ']
  apply ByteArray.ext
  apply Array.ext'
  simp
 ·replace h2:=of_decide_eq_false h2
  exact⟨_,_,rfl,rfl,e3 (some _) (fin (by omega))⟩
 ·replace h1:=of_decide_eq_false h1
  exact⟨_,_,rfl,rfl,e3 (some _) (fin (by omega))⟩
def FitsK(op:Int)(kids:List Nd):Prop:=∃ s:ByteArray,shapeOf op kids.length=some s∧s.size=kids.length∧∀ (i:Nat) (h:i<kids.length),∃ b:UInt8,s[i]?=some b∧kindOf kids[i].op=(b.toNat:Int)
theorem fits02(op:Int)(kids:List Nd):Gate 165 [eI op,.slice 5 (kids.map Nd.av)] (FitsK op kids):=by
 rw[Nd.av_ex]
 refine Gate.of Tryz.func165 rfl rfl (by simp) (AD.run hT hmix ?_)
 have hl:(kids.map Nd.ex).length=kids.length:=List.length_map _
 intro _
 have hsh:=shape02 op (kids.map Nd.ex).length
 rw[hl] at hsh ⊢
 refine .pure _ _ rfl hsh ?_
 cases hS:shapeOf op kids.length with
 | none=>exact⟨_,_,rfl,rfl,false,rfl,nofun⟩
 | some s=>
  intro _
  refine bgs (fun hb=>?_) (fun hb=>?_)
  ·exact⟨_,_,rfl,rfl,false,rfl,nofun⟩
  have hsz:(s.size:Int)=kids.length:=by simpa[hl] using hb
  have hsz:s.size=kids.length:=by omega
  refine AD.loopI (fun i:Nat=>i≤kids.length∧∀ (j:Nat) (h:j<kids.length),j<i→∃ b:UInt8,s[j]?=some b∧kindOf kids[j].op=(b.toNat:Int)) (fun i=>kids.length - i) (fun i=>[(1,.p (.slice 5 (kids.map Nd.ex))),(5,.p (eS s)),(7,eint .i64 i)]) (fun _=>[]) 0 ⟨Nat.zero_le _,fun _ _ h=>by omega⟩ .of fun i ⟨hi,hg⟩=>AD.run hT hmix ?_
  intro _
  refine bgs (fun hb2=>?_) (fun hb2=>?_)
  ·replace hb2:=odt hb2
   have hlt:i<kids.length:=by omega
   have hb:i<s.size:=by omega
   refine igo_map i rfl hlt (.pure _ _ rfl (kind02 _) ⟨i,s[i],rfl,by simp[hb],⟨by kernel_rfl,bgs (fun hc=>⟨_,_,rfl,rfl,false,rfl,nofun⟩) (fun hc=>?_)⟩⟩)
   have hc:kindOf kids[i].op=(s[i].toNat:Int):=by simpa using hc
   refine ngo_in (by omega) (by omega) ⟨i+1,⟨by omega,fun j hj hji=>?_⟩,by omega,.of⟩
   by_cases hj2:j=i
   ·subst hj2;exact⟨_,by simp[hb],hc⟩
   ·exact hg j hj (by omega)
  ·replace hb2:=of_decide_eq_false hb2
   obtain rfl:i=kids.length:=by omega
   exact⟨_,_,rfl,rfl,true,rfl,fun _=>⟨s,hS,hsz,fun j h=>hg j h h⟩⟩
mutual
def Nd.WF:Nd→Prop
 | .mk op _ n kids _=>(FitsK op kids∧(op=2→1≤n∧n≤3)∧(op=20→-64≤n∧n≤64))∧Nd.WFs kids
def Nd.WFs:List Nd→Prop
 | []=>True
 | x::r=>x.WF∧Nd.WFs r
end
theorem Nd.WFs_all:∀ l:List Nd,Nd.WFs l↔∀ x∈l,x.WF
 | []=>by simp[Nd.WFs]
 | x::r=>by simp[Nd.WFs,Nd.WFs_all r]
theorem Nd.WF_iff(n:Nd):n.WF↔(FitsK n.op n.kids∧(n.op=2→1≤n.n∧n.n≤3)∧(n.op=20→-64≤n.n∧n.n≤64))∧∀ x∈n.kids,x.WF:=by
 cases n with
 | mk op name n kids a=>simp only[Nd.WF,Nd.WFs_all,Nd.op,Nd.n,Nd.kids]
def Test(f:FuncId)(ys:List AV):Prop:=Gate f ys True
theorem Test.of{f : FuncId}{fn : Func}{c : Code}{ys : List AV}(hf : Tryz.prog.funcs[f]? = some fn)(hb : fn.body = some c)(hname : (fn.name == "runtime.NumGoroutine") = false)(hn : ys.length ≤ fn.ntmps)
 (hh:AD Tryz.prog fn.ntmps noH false c (FinQ T fn.results.toList fun y=>∃ b:Bool,y=.p (eB b)) (mkEnv 0 ys) []):Test f ys:=
 Gate.of hf hb hname hn (hh.mono fun e env h hq=>by
  cases e <;> first | exact hq | (obtain⟨es,xs,h1,h2,b,h3⟩:=hq;exact⟨es,xs,h1,h2,b,h3,fun _=>trivial⟩))
def keywords:List ByteArray:=[⟨#[115,111,114,116]⟩,⟨#[111,114,100,101,114,101,100]⟩,⟨#[118,97,114]⟩,⟨#[102,105,101,108,100]⟩,⟨#[112,114,101,100]⟩,⟨#[102,97,99,116]⟩,⟨#[97,108,108]⟩,⟨#[115,111,109,101]⟩,⟨#[110,111]⟩,⟨#[111,110,101]⟩,⟨#[108,111,110,101]⟩,⟨#[97,108,119,97,121,115]⟩,⟨#[101,118,101,110,116,117,97,108,108,121]⟩,⟨#[97,102,116,101,114]⟩,⟨#[117,110,116,105,108]⟩,⟨#[110,111,110,101]⟩,⟨#[117,110,105,118]⟩,⟨#[105,100,101,110]⟩,⟨#[105,110]⟩,⟨#[110,111,116]⟩,⟨#[116,114,117,101]⟩,⟨#[102,97,108,115,101]⟩]
theorem keyword02(s:ByteArray):Test 238 [eS s]:=by
 refine Test.of Tryz.func238 rfl rfl (by simp) (AD.run hT hmix ?_)
 refine AD.loopI (fun i:Nat=>i≤22) (fun i=>22 - i) (fun i=>[(0,.p (eS s)),(3,.p (.slice 1 (keywords.map eS))),(4,eint .i64 i)]) (fun _=>[]) 0 (Nat.zero_le _) .of fun i hi=>AD.run hT hmix ?_
 intro _
 refine bgs (fun hb=>?_) (fun hb=>⟨_,_,rfl,rfl,false,rfl⟩)
 have hl:(keywords.map eS).length=22:=rfl
 replace hb:=odt hb
 refine igo_map i rfl (show i<keywords.length by show i<22;omega) ?_
 refine bgs (fun hc=>⟨_,_,rfl,rfl,true,rfl⟩) (fun hc=>ngo_in (by omega) (by omega) ⟨i+1,by omega,by omega,.of⟩)
theorem name02(s:ByteArray):Test 211 [eS s]:=by
 refine Test.of Tryz.func211 rfl rfl (by simp) (AD.run hT hmix ?_)
 obtain⟨kb,_,hk⟩:=keyword02 s
 repeat' first
  | exact⟨_,_,rfl,rfl,_,rfl⟩
  | refine .pure _ _ rfl hk ?_
  | refine bgo_true (by assumption) ?_
  | refine bgo_false (by assumption) ?_
  | refine bgs (fun _=>?_) (fun _=>?_)
 refine AD.loopI (fun i:Nat=>i≤s.size∧s.size≤16) (fun i=>s.size - i) (fun i=>[(0,.p (eS s)),(3,eint .i64 i)]) (fun _=>[]) 0 ⟨Nat.zero_le _,?_⟩ .of fun i ⟨hi,h16⟩=>AD.run hT hmix ?_
 ·rename_i h1 h2 h3
  have:=of_decide_eq_false h2
  omega
 refine bgs (fun hb=>?_) (fun hb=>⟨_,_,rfl,rfl,_,rfl⟩)
 replace hb:=odt hb
 have hb:i<s.size:=by omega
 refine⟨i,s[i],rfl,by simp[hb],?_⟩
 generalize ((s[i].toNat:Nat):Int)=c
 have next:SubAll Tryz.f211.ntmps noH [(3,eint .i64 (i+1:Int))] [] [(3,eint .i64 (i+1:Int))] []:=.of
 repeat' first
  | exact⟨_,_,rfl,rfl,_,rfl⟩
  | refine bgo_true (by assumption) ?_
  | refine bgo_false (by assumption) ?_
  | refine bgs (fun _=>?_) (fun _=>?_)
  | exact ngo_in (by omega) (by omega) ⟨i+1,⟨by omega,h16⟩,by omega,.of⟩
def Nd.NumOk(n:Nd):Prop:=(n.op=2→1≤n.n∧n.n≤3)∧(n.op=20→-64≤n.n∧n.n≤64)
set_option maxHeartbeats 1000000 in
theorem own02(n:Nd):Gate 164 [n.ex] n.NumOk:=by
 refine Gate.of Tryz.func164 rfl rfl (by simp) (AD.run hT hmix ?_)
 obtain⟨kb,_,hk⟩:=name02 n.name
 repeat' first
  | refine bgo_true (by assumption) ?_
  | refine bgo_false (by assumption) ?_
  | refine bgs (fun _=>?_) (fun _=>?_)
  | refine .pure _ _ rfl hk ?_
  | exact⟨_,_,rfl,rfl,false,rfl,nofun⟩
  | exact⟨_,_,rfl,rfl,_,rfl,fun _=>by simp only[beq_iff_eq,beq_eq_false_iff_ne,decide_eq_true_eq] at *;exact⟨fun _=>by omega,fun _=>by omega⟩⟩
theorem count02(n:Nd):∀ left:Int,-1000000≤left→left≤1000000→∃ r:Int,(1≤r∧r≤max 1 (left+1))∧AFun Tryz.prog 100 [n.ex,eI left] (.p (eI r)):=by
 induction n using Nd.ind with
 | h n ih=>
  intro left hlo hhi
  suffices hh:∃ y,(∃ r:Int,y=.p (eI r)∧1≤r∧r≤max 1 (left+1))∧AFun Tryz.prog 100 [n.ex,eI left] y by
   obtain⟨y,⟨r,rfl,hr⟩,hf⟩:=hh
   exact⟨r,hr,hf⟩
  refine AFunE.intro hT Tryz.func100 rfl rfl (by simp) ⟨_,1,rfl,Int.le_refl _,by omega⟩ (AD.run hT hmix ?_)
  have hl:(n.kids.map Nd.av).length=n.kids.length:=List.length_map _
  refine AD.loopI (fun x:Nat×Int=>x.1≤n.kids.length∧1≤x.2∧x.2≤max 1 (left+1)) (fun x=>n.kids.length - x.1) (fun x=>[(1,.p (eI left)),(2,.loc 2 0),(5,eint .i64 x.2),(6,eint .i64 x.1)]) (fun _=>[(2,.box 35 ([eI n.op,eS n.name,eI n.n,.slice 5 (n.kids.map Nd.av),eI n.at_].map .p))]) (0,1) ⟨Nat.zero_le _,by dsimp only;omega,by dsimp only;omega⟩ .of fun ⟨i,s⟩ ⟨hi,g1,g2⟩=>AD.run hT hmix ?_
  dsimp only at hi g1 g2 ⊢
  intro hlen
  refine bgs (fun hb=>bgs (fun hc=>?_) (fun hc=>⟨_,_,rfl,rfl,s,rfl,g1,g2⟩)) (fun hb=>⟨_,_,rfl,rfl,s,rfl,g1,g2⟩)
  replace hb:=odt hb
  replace hc:=odt hc
  have hlt:i<n.kids.length:=by omega
  obtain⟨r,hr,hf⟩:=ih _ (List.getElem_mem hlt) (left - s) (by omega) (by omega)
  rw[← Nd.av_ex] at hf
  refine igo_map i rfl hlt (ngo_in (by omega) (by omega) (.pure _ _ rfl hf (ngo_in (by omega) (by omega) (ngo_in (by omega) (by omega) ⟨(i+1,s+r),⟨by dsimp only;omega,by dsimp only;omega,by dsimp only;omega⟩,by dsimp only;omega,.of⟩))))
theorem formed02(n:Nd):∀ lev:Int,lev≤1000000→-1≤lev→Gate 101 [n.ex,eI lev] n.WF:=by
 induction n using Nd.ind with
 | h n ih=>
  intro lev h1 h2
  refine Gate.of Tryz.func101 rfl rfl (by simp) (AD.run hT hmix ?_)
  have hl:(n.kids.map Nd.av).length=n.kids.length:=List.length_map _
  obtain⟨bo,fo,ho⟩:=own02 n
  obtain⟨bf,ff,hf⟩:=fits02 n.op n.kids
  refine bgs (fun hb=>⟨_,_,rfl,rfl,false,rfl,nofun⟩) (fun hb=>?_)
  replace hb:=of_decide_eq_false hb
  refine .pure _ _ rfl ho ?_
  cases bo with
  | false=>exact⟨_,_,rfl,rfl,false,rfl,nofun⟩
  | true=>
   refine .pure _ _ rfl hf ?_
   cases bf with
   | false=>exact⟨_,_,rfl,rfl,false,rfl,nofun⟩
   | true=>
    refine AD.loopI (fun i:Nat=>i≤n.kids.length∧∀ k∈n.kids.take i,k.WF) (fun i=>n.kids.length - i) (fun i=>[(1,.p (eI lev)),(2,.loc 2 0),(5,eint .i64 i)]) (fun _=>[(2,.box 35 ([eI n.op,eS n.name,eI n.n,.slice 5 (n.kids.map Nd.av),eI n.at_].map .p))]) 0 ⟨Nat.zero_le _,by simp⟩ .of fun i ⟨hi,hk⟩=>AD.run hT hmix ?_
    intro hlen
    refine bgs (fun hb2=>?_) (fun hb2=>?_)
    ·replace hb2:=odt hb2
     have hlt:i<n.kids.length:=by omega
     obtain⟨bk,fk,hkk⟩:=ih _ (List.getElem_mem hlt) (lev - 1) (by omega) (by omega)
     rw[← Nd.av_ex] at hkk
     refine igo_map i rfl hlt (ngo_in (by omega) (by omega) (.pure _ _ rfl hkk ?_))
     cases bk with
     | false=>exact⟨_,_,rfl,rfl,false,rfl,nofun⟩
     | true=>
      refine ngo_in (by omega) (by omega) ⟨i+1,⟨by omega,fun k hk'=>?_⟩,by omega,.of⟩
      rw[List.take_succ_eq_append_getElem hlt,List.mem_append,List.mem_singleton] at hk'
      rcases hk' with hk' | rfl
      ·exact hk k hk'
      ·exact fk rfl
    ·replace hb2:=of_decide_eq_false hb2
     obtain rfl:i=n.kids.length:=by omega
     rw[List.take_length] at hk
     exact⟨_,_,rfl,rfl,true,rfl,fun _=>(Nd.WF_iff n).2 ⟨⟨ff rfl,fo rfl⟩,hk⟩⟩
theorem validNode02(n:Nd):Gate 51 [n.ex] n.WF:=by
 refine Gate.of Tryz.func51 rfl rfl (by simp) (AD.run hT hmix ?_)
 obtain⟨r,_,hc⟩:=count02 n 400 (by omega) (by omega)
 obtain⟨b,f,hf⟩:=formed02 n 24 (by omega) (by omega)
 refine .pure _ _ rfl hc (bgs (fun hb=>.pure _ _ rfl hf ⟨_,_,rfl,rfl,b,rfl,f⟩) (fun hb=>⟨_,_,rfl,rfl,false,rfl,nofun⟩))
def Prd.ex(p:Prd):AV:=.agg [eS p.name,.slice 2 (p.params.map Param.av),eI p.body.op,eS p.body.name,eI p.body.n,.slice 5 (p.body.kids.map Nd.av),eI p.body.at_]
def Fct.ex(f:Fct):AV:=.agg [eS f.name,eI f.body.op,eS f.body.name,eI f.body.n,.slice 5 (f.body.kids.map Nd.av),eI f.body.at_]
theorem Prd.av_ex:Prd.av=Prd.ex:=funext fun p=>by rw[Prd.av,p.body.cs_eq];rfl
theorem Fct.av_ex:Fct.av=Fct.ex:=funext fun f=>by rw[Fct.av,f.body.cs_eq];rfl
def Spc.cx(s:Spc):List AV:=[.slice 2 (s.sorts.map Srt.av),.slice 3 (s.fields.map Fld.av),.slice 7 (s.preds.map Prd.ex),.slice 6 (s.facts.map Fct.ex)]
def Spc.ex(s:Spc):AV:=.agg s.cx
theorem Spc.av_ex:Spc.av=Spc.ex:=funext fun s=>by rw[Spc.av,Spc.cs,Prd.av_ex,Fct.av_ex];rfl
def ParamsOk(m:Nat)(ps:List Param):Prop:=ps.length≤8∧∀ q∈ps,0≤q.sort∧q.sort<m
theorem params04(s:Spc)(ps:List Param):Gate 98 [s.ex,.slice 2 (ps.map Param.av)] (ParamsOk s.sorts.length ps):=by
 refine Gate.of Tryz.func98 rfl rfl (by simp) (AD.run hT hmix ?_)
 have hl:(ps.map Param.av).length=ps.length:=List.length_map _
 have hs:(s.sorts.map Srt.av).length=s.sorts.length:=List.length_map _
 intro _
 refine bgs (fun hb=>⟨_,_,rfl,rfl,false,rfl,nofun⟩) (fun hb=>?_)
 replace hb:=of_decide_eq_false hb
 refine AD.loopI (fun i:Nat=>i≤ps.length∧∀ k∈ps.take i,0≤k.sort∧k.sort<s.sorts.length) (fun i=>ps.length - i) (fun i=>[(1,.p (.slice 2 (ps.map Param.av))),(2,.loc 2 0),(5,eint .i64 i)]) (fun _=>[(2,.box 27 (s.cx.map .p))]) 0 ⟨Nat.zero_le _,by simp⟩ .of fun i ⟨hi,hk⟩=>AD.run hT hmix ?_
 intro _
 refine bgs (fun hb2=>?_) (fun hb2=>?_)
 ·replace hb2:=odt hb2
  have hlt:i<ps.length:=by omega
  refine igo_map i rfl hlt (bgs (fun hc=>⟨by kernel_rfl,_,_,rfl,rfl,false,rfl,nofun⟩) (fun hc=>igo_map i rfl hlt ?_))
  intro _
  refine⟨by kernel_rfl,bgs (fun hd=>⟨_,_,rfl,rfl,false,rfl,nofun⟩) (fun hd=>?_)⟩
  replace hc:=of_decide_eq_false hc
  replace hd:=of_decide_eq_false hd
  refine ngo_in (by omega) (by omega) ⟨i+1,⟨by omega,fun k hk'=>?_⟩,by omega,.of⟩
  rw[List.take_succ_eq_append_getElem hlt,List.mem_append,List.mem_singleton] at hk'
  rcases hk' with hk' | rfl
  ·exact hk k hk'
  ·omega
 ·replace hb2:=of_decide_eq_false hb2
  obtain rfl:i=ps.length:=by omega
  rw[List.take_length] at hk
  exact⟨_,_,rfl,rfl,true,rfl,fun _=>⟨by omega,hk⟩⟩
def SortsOk(m:Nat)(l:List Int):Prop:=(1≤l.length∧l.length≤3)∧∀ x∈l,0≤x∧x<m
structure Spc.Fit(s:Spc):Prop where
 n1:s.sorts.length≤4
 n2:s.fields.length≤6
 n3:s.preds.length≤8
 n4:s.facts.length≤16
 fld:∀ f∈s.fields,SortsOk s.sorts.length f.sorts
 prd:∀ p∈s.preds,ParamsOk s.sorts.length p.params∧p.body.WF
 fct:∀ f∈s.facts,f.body.WF
theorem take_step{α:Type}{Q:α→Prop}{l:List α}{i:Nat}(hlt:i<l.length)(h:∀ k∈l.take i,Q k)(hx:Q l[i]):∀ k∈l.take (i+1),Q k:=fun k hk=>by
 rw[List.take_succ_eq_append_getElem hlt,List.mem_append,List.mem_singleton] at hk
 rcases hk with hk | rfl
 ·exact h k hk
 ·exact hx
set_option maxHeartbeats 1000000 in
theorem fits04(s:Spc):Gate 48 [s.ex] s.Fit:=by
 refine Gate.of Tryz.func48 rfl rfl (by simp) (AD.run hT hmix ?_)
 have l1:(s.sorts.map Srt.av).length=s.sorts.length:=List.length_map _
 have l2:(s.fields.map Fld.av).length=s.fields.length:=List.length_map _
 have l3:(s.preds.map Prd.ex).length=s.preds.length:=List.length_map _
 have l4:(s.facts.map Fct.ex).length=s.facts.length:=List.length_map _
 have no:∀ {es:List EV} {xs:List AV},es=[ebool false]→xs=[eB false]→True:=fun _ _=>trivial
 intro _
 refine bgs (fun hb=>⟨_,_,rfl,rfl,false,rfl,nofun⟩) (fun hb1=>?_)
 intro _
 refine bgs (fun hb=>⟨_,_,rfl,rfl,false,rfl,nofun⟩) (fun hb2=>?_)
 intro _
 refine bgs (fun hb=>⟨_,_,rfl,rfl,false,rfl,nofun⟩) (fun hb3=>?_)
 intro _
 refine bgs (fun hb=>⟨_,_,rfl,rfl,false,rfl,nofun⟩) (fun hb4=>?_)
 replace hb1:=of_decide_eq_false hb1
 replace hb2:=of_decide_eq_false hb2
 replace hb3:=of_decide_eq_false hb3
 replace hb4:=of_decide_eq_false hb4
 refine AD.loopI (fun i:Nat=>i≤s.fields.length∧∀ f∈s.fields.take i,SortsOk s.sorts.length f.sorts) (fun i=>s.fields.length - i) (fun i=>[(1,.loc 1 0),(3,eint .i64 i)]) (fun _=>[(1,.box 27 (s.cx.map .p))]) 0 ⟨Nat.zero_le _,by simp⟩ .of fun i ⟨hi,hk⟩=>AD.run hT hmix ?_
 intro _
 refine bgs (fun hb=>?_) (fun hb=>?_)
 ·replace hb:=odt hb
  have hlt:i<s.fields.length:=by omega
  refine igo_map i rfl hlt ?_
  intro _
  have l5:(s.fields[i].sorts.map eI).length=s.fields[i].sorts.length:=List.length_map _
  refine bgs (fun hb=>⟨_,_,rfl,rfl,false,rfl,nofun⟩) (fun hc1=>?_)
  intro _
  refine bgs (fun hb=>⟨_,_,rfl,rfl,false,rfl,nofun⟩) (fun hc2=>?_)
  replace hc1:=of_decide_eq_false hc1
  replace hc2:=of_decide_eq_false hc2
  refine AD.loopI (fun j:Nat=>j≤s.fields[i].sorts.length∧∀ x∈s.fields[i].sorts.take j,0≤x∧x<s.sorts.length) (fun j=>s.fields[i].sorts.length - j) (fun j=>[(1,.loc 1 0),(3,eint .i64 i),(4,.p (ints s.fields[i].sorts)),(5,eint .i64 j)]) (fun _=>[(1,.box 27 (s.cx.map .p))]) 0 ⟨Nat.zero_le _,by simp⟩ .of fun j ⟨hj,hx⟩=>AD.run hT hmix ?_
  intro _
  refine bgs (fun hb=>?_) (fun hb=>?_)
  ·replace hb:=odt hb
   have hjt:j<s.fields[i].sorts.length:=by omega
   refine igo_map j rfl hjt (bgs (fun hc=>⟨by kernel_rfl,_,_,rfl,rfl,false,rfl,nofun⟩) (fun hc=>igo_map j rfl hjt ?_))
   intro _
   refine⟨by kernel_rfl,bgs (fun hd=>⟨_,_,rfl,rfl,false,rfl,nofun⟩) (fun hd=>?_)⟩
   replace hc:=of_decide_eq_false hc
   replace hd:=of_decide_eq_false hd
   exact ngo_in (by omega) (by omega) ⟨j+1,⟨by omega,take_step hjt hx ⟨by omega,by omega⟩⟩,by omega,.of⟩
  ·replace hb:=of_decide_eq_false hb
   obtain rfl:j=s.fields[i].sorts.length:=by omega
   rw[List.take_length] at hx
   exact ngo_in (by omega) (by omega) ⟨i+1,⟨by omega,take_step hlt hk ⟨⟨by omega,by omega⟩,hx⟩⟩,by omega,.of⟩
 replace hb:=of_decide_eq_false hb
 obtain rfl:i=s.fields.length:=by omega
 rw[List.take_length] at hk
 refine AD.loopI (fun i:Nat=>i≤s.preds.length∧∀ p∈s.preds.take i,ParamsOk s.sorts.length p.params∧p.body.WF) (fun i=>s.preds.length - i) (fun i=>[(1,.loc 1 0),(6,eint .i64 i)]) (fun _=>[(1,.box 27 (s.cx.map .p))]) 0 ⟨Nat.zero_le _,by simp⟩ .of fun i ⟨hi,hkp⟩=>AD.run hT hmix ?_
 intro _
 refine bgs (fun hb=>?_) (fun hb=>?_)
 ·replace hb:=odt hb
  have hlt:i<s.preds.length:=by omega
  obtain⟨b1,f1,h1⟩:=params04 s s.preds[i].params
  obtain⟨b2,f2,h2⟩:=validNode02 s.preds[i].body
  refine igo_map i rfl hlt (.pure _ _ rfl h1 ?_)
  cases b1 with
  | false=>exact⟨by kernel_rfl,_,_,rfl,rfl,false,rfl,nofun⟩
  | true=>
   refine igo_map i rfl hlt (.pure _ _ rfl h2 ⟨by kernel_rfl,?_⟩)
   cases b2 with
   | false=>exact⟨_,_,rfl,rfl,false,rfl,nofun⟩
   | true=>exact ngo_in (by omega) (by omega) ⟨i+1,⟨by omega,take_step hlt hkp ⟨f1 rfl,f2 rfl⟩⟩,by omega,.of⟩
 replace hb:=of_decide_eq_false hb
 obtain rfl:i=s.preds.length:=by omega
 rw[List.take_length] at hkp
 refine AD.loopI (fun i:Nat=>i≤s.facts.length∧∀ f∈s.facts.take i,f.body.WF) (fun i=>s.facts.length - i) (fun i=>[(1,.loc 1 0),(7,eint .i64 i)]) (fun _=>[(1,.box 27 (s.cx.map .p))]) 0 ⟨Nat.zero_le _,by simp⟩ .of fun i ⟨hi,hkf⟩=>AD.run hT hmix ?_
 intro _
 refine bgs (fun hb=>?_) (fun hb=>?_)
 ·replace hb:=odt hb
  have hlt:i<s.facts.length:=by omega
  obtain⟨b2,f2,h2⟩:=validNode02 s.facts[i].body
  refine igo_map i rfl hlt (.pure _ _ rfl h2 ?_)
  cases b2 with
  | false=>exact⟨_,_,rfl,rfl,false,rfl,nofun⟩
  | true=>exact ngo_in (by omega) (by omega) ⟨i+1,⟨by omega,take_step hlt hkf (f2 rfl)⟩,by omega,.of⟩
 replace hb:=of_decide_eq_false hb
 obtain rfl:i=s.facts.length:=by omega
 rw[List.take_length] at hkf
 exact⟨_,_,rfl,rfl,true,rfl,fun _=>⟨by omega,by omega,by omega,by omega,hk,hkp,hkf⟩⟩
structure Spc.Fit9(s:Spc)(sc:Scope):Prop where
 s1:1≤s.sorts.length
 sz:SizedP sc
 len:s.sorts.length=sc.atoms.length
set_option maxHeartbeats 1000000 in
theorem fits09(s:Spc)(sc:Scope):Gate 49 [s.ex,sc.av] (s.Fit9 sc):=by
 refine Gate.of Tryz.func49 rfl rfl (by simp) (AD.run hT hmix ?_)
 have l1:(s.sorts.map Srt.av).length=s.sorts.length:=List.length_map _
 have l2:(s.fields.map Fld.av).length=s.fields.length:=List.length_map _
 have l3:(sc.atoms.map eI).length=sc.atoms.length:=List.length_map _
 intro _
 refine bgs (fun hb=>⟨_,_,rfl,rfl,false,rfl,nofun⟩) (fun hb1=>?_)
 intro _
 refine bgs (fun hb=>⟨_,_,rfl,rfl,false,rfl,nofun⟩) (fun hb2=>?_)
 intro _
 refine bgs (fun hb=>⟨_,_,rfl,rfl,false,rfl,nofun⟩) (fun hb3=>?_)
 intro _
 refine bgs (fun hb=>⟨_,_,rfl,rfl,false,rfl,nofun⟩) (fun hb4=>?_)
 replace hb1:((s.sorts.map Srt.av).length:Int)≠0:=by simpa using hb1
 replace hb2:=of_decide_eq_false hb2
 replace hb3:=of_decide_eq_false hb3
 replace hb4:=of_decide_eq_false hb4
 refine AD.loopI (fun i:Nat=>i≤s.fields.length) (fun i=>s.fields.length - i) (fun i=>[(2,.loc 2 0),(3,.loc 3 0),(5,eint .i64 i)]) (fun _=>[(2,.box 27 (s.cx.map .p)),(3,.box 30 (sc.cs.map .p))]) 0 (Nat.zero_le _) .of fun i hi=>AD.run hT hmix ?_
 intro _
 refine bgs (fun hb=>?_) (fun hb=>?_)
 ·replace hb:=odt hb
  have hlt:i<s.fields.length:=by omega
  refine igo_map i rfl hlt ?_
  intro _
  have l5:(s.fields[i].sorts.map eI).length=s.fields[i].sorts.length:=List.length_map _
  refine bgs (fun hb=>⟨_,_,rfl,rfl,false,rfl,nofun⟩) (fun hc1=>?_)
  intro _
  refine bgs (fun hb=>⟨_,_,rfl,rfl,false,rfl,nofun⟩) (fun hc2=>?_)
  replace hc1:=of_decide_eq_false hc1
  replace hc2:=of_decide_eq_false hc2
  refine AD.loopI (fun j:Nat=>j≤s.fields[i].sorts.length) (fun j=>s.fields[i].sorts.length - j) (fun j=>[(2,.loc 2 0),(3,.loc 3 0),(5,eint .i64 i),(6,.p (ints s.fields[i].sorts)),(7,eint .i64 j)]) (fun _=>[(2,.box 27 (s.cx.map .p)),(3,.box 30 (sc.cs.map .p))]) 0 (Nat.zero_le _) .of fun j hj=>AD.run hT hmix ?_
  intro _
  refine bgs (fun hb=>?_) (fun hb=>?_)
  ·replace hb:=odt hb
   have hjt:j<s.fields[i].sorts.length:=by omega
   refine igo_map j rfl hjt (bgs (fun hc=>⟨by kernel_rfl,_,_,rfl,rfl,false,rfl,nofun⟩) (fun hc=>igo_map j rfl hjt ?_))
   intro _
   exact⟨by kernel_rfl,bgs (fun hd=>⟨_,_,rfl,rfl,false,rfl,nofun⟩) (fun hd=>ngo_in (by omega) (by omega) ⟨j+1,by omega,by omega,.of⟩)⟩
  ·exact ngo_in (by omega) (by omega) ⟨i+1,by omega,by omega,.of⟩
 obtain⟨b,f,hf⟩:=valid05 s sc
 rw[Spc.av_ex] at hf
 exact .pure _ _ rfl hf ⟨_,_,rfl,rfl,b,rfl,fun e=>⟨by omega,(f e).1,(f e).2⟩⟩
end Go.Ab
namespace Go.Ab
open Go Go.Proofs
set_option maxRecDepth 10000
set_option maxHeartbeats 1000000 in
theorem work08(n:Nd)(at_ st:Int)(ha:0≤at_∧at_≤12)(hs:0≤st∧st≤4):∃ r:Int,(1≤r∧r≤1000000)∧AFun Tryz.prog 106 [n.ex,eI at_,eI st] (.p (eI r)):=by
  induction n using Nd.ind with
  | h n ih=>
    suffices hh:∃ y,(∃ r:Int,y=.p (eI r)∧1≤r∧r≤1000000)∧AFun Tryz.prog 106 [n.ex,eI at_,eI st] y by
      obtain⟨y,⟨r,rfl,hr⟩,hf⟩:=hh
      exact⟨r,hr,hf⟩
    refine AFunE.intro hT Tryz.func106 rfl rfl (by simp) ⟨_,1,rfl,by omega,by omega⟩ (AD.run hT hmix ?_)
    have hl:(n.kids.map Nd.av).length=n.kids.length:=List.length_map _
    refine AD.loopI (fun x:Nat×Int=>x.1≤n.kids.length∧1≤x.2∧x.2≤1000000) (fun x=>n.kids.length - x.1) (fun x=>[(1,.p (eI at_)),(2,.p (eI st)),(3,.loc 3 0),(7,eint .i64 x.2),(8,eint .i64 x.1)]) (fun _=>[(3,.box 35 ([eI n.op,eS n.name,eI n.n,.slice 5 (n.kids.map Nd.av),eI n.at_].map .p))]) (0,1) ⟨Nat.zero_le _,by dsimp only;omega,by dsimp only;omega⟩ .of fun ⟨i,s⟩ ⟨hi,g1,g2⟩=>AD.run hT hmix ?_
    dsimp only at hi g1 g2 ⊢
    intro hlen
    refine bgs (fun hb=>?_) (fun hb=>⟨_,_,rfl,rfl,s,rfl,g1,g2⟩)
    replace hb:=odt hb
    have hlt:i<n.kids.length:=by omega
    obtain⟨r,hr,hf⟩:=ih _ (List.getElem_mem hlt)
    rw[← Nd.av_ex] at hf
    refine igo_map i rfl hlt (.pure _ _ rfl hf ?_)
    have m1:0≤r*at_∧r*at_≤12000000:=⟨Int.mul_nonneg (by omega) ha.1,by
      have:=Int.mul_le_mul hr.2 ha.2 ha.1 (by omega:(0:Int)≤1000000);omega⟩
    have m2:∀ q:Int,0≤q→q≤12000000→0≤q*st∧q*st≤48000000:=fun q h1 h2=>⟨Int.mul_nonneg h1 hs.1,by
      have:=Int.mul_le_mul h2 hs.2 hs.1 (by omega:(0:Int)≤12000000);omega⟩
    have m3:=m2 (r*at_) m1.1 m1.2
    have m4:=m2 r (by omega) (by omega)
    repeat' first
      | refine bgo_true (by assumption) ?_
      | refine bgo_false (by assumption) ?_
      | refine bgs (fun _=>?_) (fun _=>?_)
      | refine ngo_in (by omega) (by omega) ?_
    all_goals refine⟨(i+1,_),⟨?_,?_,?_⟩,?_,.of⟩
    all_goals dsimp only
    all_goals first
      | omega
      | (generalize Int.decLt _ _=dd
         cases dd <;> dsimp only <;> omega)
theorem has09(l:List Int)(x:Int):Test 174 [ints l,eI x]:=by
 refine Test.of Tryz.func174 rfl rfl (by simp) (AD.run hT hmix ?_)
 have hl:(l.map eI).length=l.length:=List.length_map _
 refine AD.loopI (fun i:Nat=>i≤l.length) (fun i=>l.length - i) (fun i=>[(0,.p (ints l)),(1,.p (eI x)),(5,eint .i64 i)]) (fun _=>[]) 0 (Nat.zero_le _) .of fun i hi=>AD.run hT hmix ?_
 intro _
 refine bgs (fun hb=>?_) (fun hb=>⟨_,_,rfl,rfl,_,rfl⟩)
 replace hb:=odt hb
 have hlt:i<l.length:=by omega
 refine igo_map i rfl hlt (bgs (fun hc=>⟨_,_,rfl,rfl,_,rfl⟩) (fun hc=>ngo_in (by omega) (by omega) ⟨i+1,by omega,by omega,.of⟩))
def Pairs(m:Nat)(es:List AV):Prop:=∃ l:List (Nat×Int),es=l.map (fun x=>.agg [eI x.1,eI x.2])∧∀ x∈l,x.1<m
theorem Pairs.snoc{m:Nat}{es:List AV}(h:Pairs m es){i:Nat}(hi:i<m)(r:Int):Pairs m (es++[.agg [eI i,eI r]]):=by
 obtain⟨l,rfl,hl⟩:=h
 refine⟨l++[(i,r)],by simp,fun x hx=>?_⟩
 rcases List.mem_append.1 hx with hx | hx
 ·exact hl x hx
 ·rw[List.mem_singleton] at hx;subst hx;exact hi
theorem free09(bs:List Bnd)(hn:bs.length≤100)(hu:∀ b∈bs,b.upper.tuples.length≤1728):∃ es,(Pairs bs.length es∧es.length≤200000)∧AFun Tryz.prog 107 [.slice 4 (bs.map Bnd.av)] (.p (.slice 2 es)):=by
 suffices hh:∃ y,(∃ es,y=.p (.slice 2 es)∧Pairs bs.length es∧es.length≤200000)∧AFun Tryz.prog 107 [.slice 4 (bs.map Bnd.av)] y by
  obtain⟨y,⟨r,rfl,hr⟩,hf⟩:=hh
  exact⟨r,hr,hf⟩
 have hl:(bs.map Bnd.av).length=bs.length:=List.length_map _
 refine AFunE.intro hT Tryz.func107 rfl rfl (by simp) ⟨_,[],rfl,⟨[],rfl,nofun⟩,by simp⟩ (AD.run hT hmix ?_)
 refine AD.loopI (fun x:Nat×List AV=>x.1≤bs.length∧Pairs bs.length x.2∧x.2.length≤1728*x.1) (fun x=>bs.length - x.1) (fun x=>[(0,.p (.slice 4 (bs.map Bnd.av))),(3,.own 2 x.2 53),(4,eint .i64 x.1)]) (fun x=>[(53,.tail x.2.length)]) (0,[]) ⟨Nat.zero_le _,⟨[],rfl,nofun⟩,Nat.le_refl _⟩ .of fun ⟨i,es⟩ ⟨hi,g1,g2⟩=>AD.run hT hmix ?_
 dsimp only at hi g1 g2 ⊢
 intro _
 refine bgs (fun hb=>?_) (fun hb=>⟨_,_,rfl,rfl,es,rfl,g1,by omega⟩)
 replace hb:=odt hb
 have hlt:i<bs.length:=by omega
 have hui:=hu _ (List.getElem_mem hlt)
 have hl2:(bs[i].upper.tuples.map eI).length=bs[i].upper.tuples.length:=List.length_map _
 refine AD.loopI (fun x:Nat×List AV=>x.1≤bs[i].upper.tuples.length∧Pairs bs.length x.2∧x.2.length≤1728*i+x.1) (fun x=>bs[i].upper.tuples.length - x.1) (fun x=>[(0,.p (.slice 4 (bs.map Bnd.av))),(3,.own 2 x.2 53),(4,eint .i64 i),(5,eint .i64 x.1)]) (fun x=>[(53,.tail x.2.length)]) (0,es) ⟨Nat.zero_le _,g1,by dsimp only;omega⟩ .of fun ⟨j,es⟩ ⟨hj,g1,g2⟩=>AD.run hT hmix ?_
 dsimp only at hj g1 g2 ⊢
 refine igo_map i rfl hlt ?_
 intro _
 refine bgs (fun hb2=>?_) (fun hb2=>?_)
 ·replace hb2:=odt hb2
  have hjt:j<bs[i].upper.tuples.length:=by omega
  obtain⟨b,_,hf⟩:=has09 bs[i].lower.tuples bs[i].upper.tuples[j]
  refine igo_map i rfl hlt (igo_map i rfl hlt (igo_map j rfl hjt (.pure _ _ rfl hf ?_)))
  cases b with
  | true=>exact⟨by kernel_rfl,ngo_in (by omega) (by omega) ⟨(j+1,es),⟨by dsimp only;omega,g1,by dsimp only;omega⟩,by dsimp only;omega,.of⟩⟩
  | false=>
   refine⟨by kernel_rfl,igo_map i rfl hlt (igo_map j rfl hjt ⟨rfl,⟨by simp;omega,by simp;omega⟩,ngo_in (by omega) (by omega) ?_⟩)⟩
   exact⟨(j+1,es++[.agg [eI i,eI bs[i].upper.tuples[j]]]),⟨by dsimp only;omega,g1.snoc hlt _,by simp;omega⟩,by dsimp only;omega,.of⟩
 ·exact ngo_in (by omega) (by omega) ⟨(i+1,es),⟨by dsimp only;omega,g1,by dsimp only;omega⟩,by dsimp only;omega,.of⟩
theorem choices25(s:Spc)(sc:Scope)(bs:List Bnd)(hn:bs.length≤100)(hb:bs.length≤s.fields.length)(hu:∀ b∈bs,b.upper.tuples.length≤1728):∃ es,AFun Tryz.prog 56 [s.ex,sc.av,.slice 4 (bs.map Bnd.av)] (.p (.slice 3 es)):=by
 suffices hh:∃ y,(∃ es,y=.p (.slice 3 es))∧AFun Tryz.prog 56 [s.ex,sc.av,.slice 4 (bs.map Bnd.av)] y by
  obtain⟨y,⟨r,rfl⟩,hf⟩:=hh
  exact⟨r,hf⟩
 obtain⟨fs,⟨⟨l,rfl,hl⟩,hfl⟩,hf⟩:=free09 bs hn hu
 have hl0:(l.map fun x:Nat×Int=>AV.agg [eI x.1,eI x.2]).length=l.length:=List.length_map _
 have hl1:(s.fields.map Fld.av).length=s.fields.length:=List.length_map _
 refine AFunE.intro hT Tryz.func56 rfl rfl (by simp) ⟨_,[],rfl⟩ (AD.run hT hmix ?_)
 refine .pure _ _ rfl hf ?_
 refine AD.loopI (fun x:Nat×List AV=>x.1≤4∧x.2.length≤200000*x.1) (fun x=>4 - x.1) (fun x=>[(3,.loc 3 0),(4,.loc 4 0),(7,.own 3 x.2 57),(8,.p (.slice 2 (l.map fun x:Nat×Int=>AV.agg [eI x.1,eI x.2]))),(9,eint .i64 x.1)]) (fun x=>[(3,.box 27 (s.cx.map .p)),(4,.box 30 (sc.cs.map .p)),(57,.tail x.2.length)]) (0,[]) ⟨Nat.zero_le _,Nat.le_refl _⟩ .of fun ⟨i,es⟩ ⟨hi,g1⟩=>AD.run hT hmix ?_
 dsimp only at hi g1 ⊢
 refine bgs (fun hb1=>bgs (fun hb2=>?_) (fun hb2=>⟨_,_,rfl,rfl,es,rfl⟩)) (fun hb1=>⟨_,_,rfl,rfl,es,rfl⟩)
 replace hb2:=odt hb2
 refine AD.loopI (fun x:Nat×List AV=>x.1≤l.length∧x.2.length≤200000*i+x.1) (fun x=>l.length - x.1) (fun x=>[(3,.loc 3 0),(4,.loc 4 0),(7,.own 3 x.2 57),(8,.p (.slice 2 (l.map fun x:Nat×Int=>AV.agg [eI x.1,eI x.2]))),(9,eint .i64 i),(10,eint .i64 x.1)]) (fun x=>[(3,.box 27 (s.cx.map .p)),(4,.box 30 (sc.cs.map .p)),(57,.tail x.2.length)]) (0,es) ⟨Nat.zero_le _,by dsimp only;omega⟩ .of fun ⟨j,es⟩ ⟨hj,g1⟩=>AD.run hT hmix ?_
 dsimp only at hj g1 ⊢
 intro _
 refine bgs (fun hb3=>?_) (fun hb3=>?_)
 ·replace hb3:=odt hb3
  have hjt:j<l.length:=by omega
  have hlj:=hl _ (List.getElem_mem hjt)
  refine bgs (fun hz=>?_) (fun hz=>?_)
  ·refine⟨by kernel_rfl,igo_map j rfl hjt ⟨0,rfl,by decide,igo_map j rfl hjt ⟨1,rfl,by decide,⟨rfl,⟨by simp;omega,by simp;omega⟩,⟨by kernel_rfl,ngo_in (by omega) (by omega) ?_⟩⟩⟩⟩⟩
   exact⟨(j+1,es++[.agg [eI i,eI l[j].1,eI l[j].2]]),⟨by dsimp only;omega,by simp;omega⟩,by dsimp only;omega,.of⟩
  ·refine igo_map j rfl hjt ⟨0,rfl,by decide,igo_map l[j].1 rfl (by omega) ⟨by kernel_rfl,bgs (fun hv=>?_) (fun hv=>?_)⟩⟩
   ·refine igo_map j rfl hjt ⟨0,rfl,by decide,igo_map j rfl hjt ⟨1,rfl,by decide,⟨rfl,⟨by simp;omega,by simp;omega⟩,⟨by kernel_rfl,ngo_in (by omega) (by omega) ?_⟩⟩⟩⟩
    exact⟨(j+1,es++[.agg [eI i,eI l[j].1,eI l[j].2]]),⟨by dsimp only;omega,by simp;omega⟩,by dsimp only;omega,.of⟩
   ·exact ngo_in (by omega) (by omega) ⟨(j+1,es),⟨by dsimp only;omega,by dsimp only;omega⟩,by dsimp only;omega,.of⟩
 ·exact ngo_in (by omega) (by omega) ⟨(i+1,es),⟨by dsimp only;omega,by dsimp only;omega⟩,by dsimp only;omega,.of⟩
def StateIn(b:List Bnd)(st:List Rl):Prop:=st.length=b.length∧∀ (i:Nat) (hi:i<b.length) (hs:i<st.length),st[i].arity=b[i].upper.arity∧st[i].tuples.Sublist b[i].upper.tuples
theorem inside09(b:List Bnd)(hb6:b.length≤6)(hlow:∀ x∈b,x.lower.tuples=[])(hup:∀ x∈b,x.upper.tuples.length≤1728)(picks:List Bool):
 ∃ n cs,(∃ st,StateIn b st∧n=st.length∧cs=flat (st.map Rl.av))∧AFunV Tryz.prog 57 [.slice 4 (b.map Bnd.av),.slice 1 (picks.map eB)] 2 50 n cs:=by
 have hl:(b.map Bnd.av).length=b.length:=List.length_map _
 refine AFunVE.intro hT Tryz.func57 rfl rfl (by simp) ⟨_,_,b.map (fun x=>⟨x.upper.arity,[]⟩),⟨by simp,fun i hi hs=>by simp⟩,rfl,rfl⟩ (AD.run hT hmix ?_)
 refine AD.loopI (fun x:Nat×Nat×Nat×List EV=>x.1≤b.length∧x.2.1≤1728*x.1∧∃ st,x.2.2.1=st.length∧x.2.2.2=(flat (st.map Rl.av)).map .p∧StateIn (b.take x.1) st) (fun x=>b.length - x.1)
  (fun x=>[(0,.p (.slice 4 (b.map Bnd.av))),(1,.p (.slice 1 (picks.map eB))),(5,.arr 2 5 0 x.2.2.1),(6,eint .i64 (x.2.1:Nat)),(7,eint .i64 (x.1:Nat))])
  (fun x=>[(5,.box 50 x.2.2.2)]) (0,0,0,[]) ⟨Nat.zero_le _,Nat.zero_le _,[],rfl,rfl,rfl,fun i h=>by simp at h⟩ (.vec 5) fun ⟨i,cnt,n,cE⟩ ⟨g1,g2,st,g5,g6,g3⟩=>AD.run hT hmix ?_
 dsimp only at g1 g2 g3 g5 g6 ⊢
 have hok:∀ h,okE.okL h cE=true:=fun h=>by rw[g6];exact okL_p _ _
 intro _
 refine bgs (fun hc=>?_) (fun hc=>?_)
 ·replace hc:=odt hc
  have hlt:i<b.length:=by omega
  obtain⟨la,up,he⟩:∃ la up,b[i]=⟨⟨la,[]⟩,up⟩:=by
   have:=hlow _ (List.getElem_mem hlt)
   generalize b[i]=x at this
   obtain⟨⟨la,lt⟩,up⟩:=x
   dsimp only at this
   subst this
   exact⟨la,up,rfl⟩
  have hget:(b.map Bnd.av)[i]?=some (Bnd.av ⟨⟨la,[]⟩,up⟩):=by simp[hlt,he]
  have hu:up.tuples.length≤1728:=by have:=hup _ (List.getElem_mem hlt);rw[he] at this;exact this
  have hut:(up.tuples.map eI).length=up.tuples.length:=List.length_map _
  refine⟨i,_,rfl,hget,?_⟩
  refine AD.loopI (fun x:Nat×Nat×List AV=>x.1≤up.tuples.length∧x.2.1≤1728*i+x.1∧∃ tl:List Int,x.2.2=tl.map eI∧tl.Sublist (up.tuples.take x.1)) (fun x=>up.tuples.length - x.1)
   (fun x=>[(0,.p (.slice 4 (b.map Bnd.av))),(1,.p (.slice 1 (picks.map eB))),(5,.arr 2 5 0 n),(6,eint .i64 (x.2.1:Nat)),(7,eint .i64 i),(8,.loc 8 0),(9,eint .i64 (x.1:Nat))])
   (fun x=>[(5,.box 50 cE),(8,.box 50 [.p (eI up.arity),.own 1 x.2.2 77]),(77,.tail x.2.2.length)])
   (0,cnt,[]) ⟨Nat.zero_le _,g2,[],rfl,List.Sublist.refl _⟩ .of fun ⟨k,c2,es⟩ ⟨e1,e2,e3⟩=>AD.run hT hmix ?_
  dsimp only at e1 e2 e3 ⊢
  refine⟨i,_,rfl,hget,?_⟩
  intro _
  refine bgs (fun hd=>?_) (fun hd=>?_)
  ·replace hd:=odt hd
   have hk:k<up.tuples.length:=by have:(k:Int)<(up.tuples.map eI).length:=hd;omega
   refine⟨i,_,rfl,hget,igo_map k rfl hk ⟨i,_,rfl,hget,.pure _ _ rfl (in06_nil up.arity la up.tuples[k]) ⟨by kernel_rfl,?_⟩⟩⟩
   obtain⟨tl,t1,t2⟩:=e3
   have hes:es.length≤1728:=by rw[t1,List.length_map];have:=t2.length_le;rw[List.length_take] at this;omega
   have htk:=List.take_succ_eq_append_getElem hk
   have yes:∀ c3:Nat,∃ tl2:List Int,es++[eI up.tuples[k]]=tl2.map eI∧tl2.Sublist (up.tuples.take (k+1)):=fun _=>⟨tl++[up.tuples[k]],by simp[t1],by rw[htk];exact t2.append (List.Sublist.refl _)⟩
   have no:∃ tl2:List Int,es=tl2.map eI∧tl2.Sublist (up.tuples.take (k+1)):=⟨tl,t1,by rw[htk];exact t2.trans (List.sublist_append_left _ _)⟩
   intro _
   refine bgs (fun hf=>?_) (fun hf=>?_)
   ·replace hf:=odt hf
    have hcp:c2<picks.length:=by have:(c2:Int)<(picks.map eB).length:=hf;simp at this;omega
    refine igo_map c2 rfl hcp (bgs (fun hg=>?_) (fun hg=>?_))
    ·refine⟨rfl,⟨by simp;omega,by simp;omega⟩,ngo_in (by omega) (by omega) (ngo_in (by omega) (by omega) ?_)⟩
     exact⟨(k+1,c2+1,_),⟨by dsimp only;omega,by dsimp only;omega,yes 0⟩,by dsimp only;omega,.of⟩
    ·refine ngo_in (by omega) (by omega) (ngo_in (by omega) (by omega) ?_)
     exact⟨(k+1,c2+1,es),⟨by dsimp only;omega,by dsimp only;omega,no⟩,by dsimp only;omega,.of⟩
   ·refine ngo_in (by omega) (by omega) (ngo_in (by omega) (by omega) ?_)
    exact⟨(k+1,c2+1,es),⟨by dsimp only;omega,by dsimp only;omega,no⟩,by dsimp only;omega,.of⟩
  ·replace hd:=of_decide_eq_false hd
   have hk:k=up.tuples.length:=by have:¬ (k:Int)<(up.tuples.map eI).length:=hd;omega
   subst hk
   obtain⟨tl,t1,t2⟩:=e3
   have hcl:n*2=cE.length:=by rw[g5,g6,List.length_map,flat_length (sz:=2) (fun e he=>by obtain⟨r,_,rfl⟩:=List.mem_map.1 he;rfl),List.length_map]
   have hn:n≤6:=by have:=g3.1;rw[g5,this,List.length_take];omega
   refine⟨hcl,⟨by simp;omega,by simp;omega⟩,ngo_in (by omega) (by omega) ?_⟩
   refine⟨(i+1,c2,n+1,renE.renL 84 5 (cE++(flat [Rl.av ⟨up.arity,tl⟩]).map .p)),⟨by dsimp only;omega,by dsimp only;omega,st++[⟨up.arity,tl⟩],by simp[g5],?_,?_⟩,by dsimp only;omega,?_⟩
   ·dsimp only
    rw[g6,← List.map_append,← flat_append,renL_p]
    simp
   ·refine⟨by have:=g3.1;rw[List.length_take] at this ⊢;simp;omega,fun j hj hs=>?_⟩
    have hj':j<i+1:=by rw[List.length_take] at hj;omega
    by_cases hji:j=i
    ·subst hji
     have hsl:st.length=j:=by have:=g3.1;rw[List.length_take] at this;omega
     have e1:(st++[(⟨up.arity,tl⟩:Rl)])[j]=⟨up.arity,tl⟩:=by simp[List.getElem_append_right,hsl]
     have e2:(b.take (j+1))[j]=b[j]:=by simp
     rw[e1,e2,he]
     rw[List.take_length] at t2
     exact⟨rfl,t2⟩
    ·have hji':j<i:=by omega
     have hsl:st.length=i:=by have:=g3.1;rw[List.length_take] at this;omega
     have e1:(st++[(⟨up.arity,tl⟩:Rl)])[j]=st[j]:=by rw[List.getElem_append_left]
     have e2:(b.take (i+1))[j]=(b.take i)[j]'(by rw[List.length_take];omega):=by simp
     rw[e1,e2]
     exact g3.2 j (by rw[List.length_take];omega) (by omega)
   ·rw[t1]
    exact(SubAll.of (env':=[(0,.p (.slice 4 (b.map Bnd.av))),(1,.p (.slice 1 (picks.map eB))),(5,.arr 2 84 0 (n+1)),(6,eint .i64 (c2:Nat)),(7,eint .i64 ((i:Int)+1))]) (h':=[(84,.box 50 (cE++(flat [Rl.av ⟨up.arity,tl⟩]).map .p))])).trans (SubAll.ren 84 5)
 ·replace hc:=of_decide_eq_false hc
  obtain rfl:i=b.length:=by omega
  rw[List.take_length] at g3
  exact⟨n,flat (st.map Rl.av),5,cE,rfl,rfl,by rw[g6];exact toPs_p _,by rw[g5,g6,List.length_map,flat_length (sz:=2) (fun e he=>by obtain⟨r,_,rfl⟩:=List.mem_map.1 he;rfl),List.length_map],st,g3,g5,rfl⟩
theorem setSeg_rl:∀ (l:List Rl) (j:Nat) (r:Rl),j<l.length→setSeg ((flat (l.map Rl.av)).map EV.p) (0+j*2) [.p (eI r.arity),.p (ints r.tuples)]=(flat ((l.set j r).map Rl.av)).map .p
 | [],j,r,h=>by simp at h
 | x::l,0,r,h=>rfl
 | x::l,j+1,r,h=>by
  have ih:=setSeg_rl l j r (by simpa using h)
  simp only[Nat.zero_add,setSeg] at ih ⊢
  show(((eI x.arity::ints x.tuples::flat (l.map Rl.av)).map EV.p).set ((j+1)*2) _).set ((j+1)*2+1) _=(eI x.arity::ints x.tuples::flat ((l.set j r).map Rl.av)).map EV.p
  rw[show(j+1)*2=j*2+1+1 by omega]
  simp only[List.map_cons,List.set_cons_succ]
  rw[ih]
theorem StateIn.set{b:List Bnd}{st st0:List Rl}(h:StateIn b st)(h0:StateIn b st0){j:Nat}(hj:j<st0.length):StateIn b (st.set j st0[j]):=by
 refine⟨by simpa using h.1,fun i hi hs=>?_⟩
 by_cases hij:i=j
 ·subst hij;simp only[List.getElem_set_self];exact h0.2 i hi hj
 ·simp only[List.getElem_set_ne (Ne.symm hij)];exact h.2 i hi (by simpa using hs)
def stav(st:List Rl):AV:=.slice 2 (st.map Rl.av)
def pick2(p:List (List Bool)):AV:=.slice 1 (p.map fun l=>.slice 1 (l.map eB))
theorem any25(s:Spc)(sc:Scope)(b:List Bnd)(hb6:b.length≤6)(hbf:b.length≤s.fields.length)(hlow:∀ x∈b,x.lower.tuples=[])(hup:∀ x∈b,x.upper.tuples.length≤1728)(picks:List (List Bool))(loop:Int)(hlp:0≤loop∧loop<256)(hst:1≤sc.steps∧sc.steps≤4):
 ∃ m:Mdl,(m.scope=sc∧(m.states.length:Int)=sc.steps∧(0≤m.loop∧m.loop<sc.steps)∧∀ st∈m.states,StateIn b st)∧AFun Tryz.prog 22 [s.ex,sc.av,.slice 4 (b.map Bnd.av),pick2 picks,.imm (.int .u8 loop)] (.p m.av):=by
 suffices hh:∃ y,(∃ m:Mdl,y=.p m.av∧m.scope=sc∧(m.states.length:Int)=sc.steps∧(0≤m.loop∧m.loop<sc.steps)∧∀ st∈m.states,StateIn b st)∧AFun Tryz.prog 22 [s.ex,sc.av,.slice 4 (b.map Bnd.av),pick2 picks,.imm (.int .u8 loop)] y by
  obtain⟨y,⟨m,rfl,hm⟩,hf⟩:=hh
  exact⟨m,hm,hf⟩
 refine AFunE.intro hT Tryz.func22 rfl rfl (by simp) ?_ (AD.run hT hmix ?_)
 ·refine⟨_,⟨sc,List.replicate sc.steps.toNat (b.map fun x=>⟨x.upper.arity,[]⟩),0⟩,rfl,rfl,by simp;omega,⟨Int.le_refl _,by dsimp only;omega⟩,fun st h=>?_⟩
  rw[List.mem_replicate] at h
  rw[h.2]
  exact⟨by simp,fun i hi hs=>by simp⟩
 have hq0:=Int.tmod_nonneg sc.steps hlp.1
 have hq1:=Int.tmod_lt_of_pos loop (show 0<sc.steps by omega)
 obtain⟨q,hq⟩:∃ q,loop.tmod sc.steps=q:=⟨_,rfl⟩
 rw[hq] at hq0 hq1
 refine ngo_in (by omega) (by omega) ?_
 refine⟨?_,q,?_,?_⟩
 ·split <;> omega
 ·rw[if_neg (by omega)];exact hq
 refine⟨by kernel_rfl,?_⟩
 have hl:(b.map Bnd.av).length=b.length:=List.length_map _
 refine AD.loopI (fun x:Nat×List (List Rl)=>x.1≤sc.steps.toNat∧x.2.length=x.1∧∀ st∈x.2,StateIn b st) (fun x=>sc.steps.toNat - x.1)
  (fun x=>[(2,.p (.slice 4 (b.map Bnd.av))),(3,.p (pick2 picks)),(5,.loc 5 0),(6,.loc 6 0),(10,.loc 10 0),(11,.loc 11 0),(12,eint .i64 x.1)])
  (fun x=>[(5,.box 27 (s.cx.map .p)),(6,.box 30 (sc.cs.map .p)),(10,.box 43 [.full 1 [],.p (eI 0),.full 1 [],.p (eI 0)]),(11,.box 43 [.p (ints sc.atoms),.p (eI sc.steps),.own 1 (x.2.map stav) 76,.p (eI q)]),(76,.tail (x.2.map stav).length)])
  (0,[]) ⟨Nat.zero_le _,rfl,nofun⟩ .of fun ⟨k,sts⟩ ⟨g1,g2,g3⟩=>AD.cut hT hmix 8 (fun _:List Bool=>k<sc.steps.toNat)
   (fun row=>[(2,.p (.slice 4 (b.map Bnd.av))),(3,.p (pick2 picks)),(5,.loc 5 0),(6,.loc 6 0),(10,.loc 10 0),(11,.loc 11 0),(12,eint .i64 k),(13,.p (.slice 1 (row.map eB)))])
   (fun _=>[(5,.box 27 (s.cx.map .p)),(6,.box 30 (sc.cs.map .p)),(10,.box 43 [.full 1 [],.p (eI 0),.full 1 [],.p (eI 0)]),(11,.box 43 [.p (ints sc.atoms),.p (eI sc.steps),.own 1 (sts.map stav) 76,.p (eI q)]),(76,.tail (sts.map stav).length)]) ?_ fun row hk=>?_
 ·dsimp only at g1 g2 g3 ⊢
  have hp:(picks.map fun l=>AV.slice 1 (l.map eB)).length=picks.length:=List.length_map _
  refine bgs (fun hb1=>bgs (fun hb2=>?_) (fun hb2=>?_)) (fun hb1=>?_)
  ·intro _
   replace hb1:=odt hb1
   have hks:k<sc.steps.toNat:=by omega
   refine bgs (fun hb3=>?_) (fun hb3=>⟨[],hks,.of⟩)
   replace hb3:=odt hb3
   have hk:k<picks.length:=by omega
   exact igo_map k rfl hk ⟨picks[k],hks,.of⟩
  ·replace hb1:=odt hb1
   replace hb2:=of_decide_eq_false hb2
   omega
  ·replace hb1:=of_decide_eq_false hb1
   exact⟨_,_,rfl,rfl,⟨sc,sts,q⟩,rfl,rfl,by dsimp only;omega,⟨hq0,hq1⟩,g3⟩
 ·dsimp only at g1 g2 g3
  obtain⟨n,cs,⟨st0,hs0,rfl,rfl⟩,hI⟩:=inside09 b hb6 hlow hup row
  refine AD.cut hT hmix 14 (fun st:List Rl=>StateIn b st∧st.length=st0.length)
   (fun st=>[(2,.p (.slice 4 (b.map Bnd.av))),(3,.p (pick2 picks)),(5,.loc 5 0),(6,.loc 6 0),(10,.loc 10 0),(11,.loc 11 0),(12,eint .i64 k),(14,.p (stav st))])
   (fun _=>[(5,.box 27 (s.cx.map .p)),(6,.box 30 (sc.cs.map .p)),(10,.box 43 [.full 1 [],.p (eI 0),.full 1 [],.p (eI 0)]),(11,.box 43 [.p (ints sc.atoms),.p (eI sc.steps),.own 1 (sts.map stav) 76,.p (eI q)]),(76,.tail (sts.map stav).length)]) ?_ fun st ⟨h1,h2⟩=>?_
  ·refine .vec _ _ _ _ _ 44 rfl hI rfl rfl ?_
   have hn:st0.length=b.length:=hs0.1
   have lf:(s.fields.map Fld.av).length=s.fields.length:=List.length_map _
   have lst:(sts.map stav).length=sts.length:=List.length_map _
   refine AD.loopI (fun x:Nat×List Rl=>x.1≤st0.length∧x.2.length=st0.length∧StateIn b x.2) (fun x=>st0.length - x.1)
    (fun x=>[(2,.p (.slice 4 (b.map Bnd.av))),(3,.p (pick2 picks)),(5,.loc 5 0),(6,.loc 6 0),(10,.loc 10 0),(11,.loc 11 0),(12,eint .i64 k),(14,.arr 2 44 0 st0.length),(15,eint .i64 x.1)])
    (fun x=>[(5,.box 27 (s.cx.map .p)),(6,.box 30 (sc.cs.map .p)),(10,.box 43 [.full 1 [],.p (eI 0),.full 1 [],.p (eI 0)]),(11,.box 43 [.p (ints sc.atoms),.p (eI sc.steps),.own 1 (sts.map stav) 76,.p (eI q)]),(76,.tail (sts.map stav).length),(44,.box 50 ((flat (x.2.map Rl.av)).map .p))])
    (0,st0) ⟨Nat.zero_le _,rfl,hs0⟩ .of fun ⟨j,st⟩ ⟨e1,e2,e3⟩=>AD.run hT hmix ?_
   dsimp only at e1 e2 e3 ⊢
   have flen:((flat (st.map Rl.av)).map EV.p).length=st.length*2:=by rw[List.length_map,flat_length (sz:=2) (fun e he=>by obtain⟨r,_,rfl⟩:=List.mem_map.1 he;rfl),List.length_map]
   have hseal:sealE 44 (flat (st.map Rl.av)) (.arr 2 44 0 st0.length) (.p (stav st)):=.inr ⟨2,0,st0.length,st.map Rl.av,rfl,rfl,by
    rw[List.drop_zero,List.take_of_length_le];rw[List.length_map] at flen;omega,fun e he=>by obtain⟨r,_,rfl⟩:=List.mem_map.1 he;rfl,by rw[List.length_map];exact e2⟩
   intro _
   refine bgs (fun hb1=>bgs (fun hb2=>?_) (fun hb2=>?_)) (fun hb1=>?_)
   ·replace hb1:=odt hb1
    replace hb2:=odt hb2
    have hj:j<st0.length:=by omega
    have hs1:=g3 _ (List.getElem_mem (show 0<sts.length by omega))
    have hjs:j<(sts[0]'(by omega)).length:=by have:=hs1.1;omega
    have lr:((sts[0]'(by omega)).map Rl.av).length=(sts[0]'(by omega)).length:=List.length_map _
    refine igo_map j rfl (by omega) (bgs (fun hv=>?_) (fun hv=>?_))
    ·refine igo_map 0 rfl (by omega) (igo_map j rfl hjs ⟨j,rfl,hj,bgo_true (by rw[Bool.and_eq_true,Bool.and_eq_true];exact⟨rfl,Nat.ble_eq_true_of_le (by rw[flen];show 0+j*2+2≤st.length*2;omega),rfl⟩) (ngo_in (by omega) (by omega) ?_)⟩)
     refine⟨(j+1,st.set j ((sts[0]'(by omega))[j])),⟨by dsimp only;omega,by simpa using e2,e3.set hs1 hjs⟩,by dsimp only;omega,.of (h2:=⟨⟨rfl,.inr ⟨rfl,okL_p _ _⟩⟩,⟨⟨rfl,.inr ⟨rfl,okL_p _ _⟩⟩,⟨⟨rfl,.inr ⟨rfl,rfl⟩⟩,⟨⟨rfl,.inr ⟨rfl,rfl⟩⟩,⟨rfl,⟨⟨rfl,.inr ⟨setSeg_rl _ _ _ (by omega),okL_p _ _⟩⟩,trivial⟩⟩⟩⟩⟩⟩)⟩
    ·exact ngo_in (by omega) (by omega) ⟨(j+1,st),⟨by dsimp only;omega,e2,e3⟩,by dsimp only;omega,.of⟩
   ·exact⟨st,⟨e3,e2⟩,.sealB 44 (hx:=toPs_p _) (h1:=⟨⟨.inl rfl,rfl⟩,⟨⟨.inl rfl,rfl⟩,⟨⟨.inl rfl,rfl⟩,⟨⟨.inl rfl,rfl⟩,⟨⟨.inl rfl,rfl⟩,⟨⟨.inl rfl,rfl⟩,⟨⟨.inl rfl,rfl⟩,⟨⟨.inr (.inr (.inr (.inl ⟨_,_,rfl,hseal⟩))),rfl⟩,trivial⟩⟩⟩⟩⟩⟩⟩⟩)⟩
   ·exact⟨st,⟨e3,e2⟩,.sealB 44 (hx:=toPs_p _) (h1:=⟨⟨.inl rfl,rfl⟩,⟨⟨.inl rfl,rfl⟩,⟨⟨.inl rfl,rfl⟩,⟨⟨.inl rfl,rfl⟩,⟨⟨.inl rfl,rfl⟩,⟨⟨.inl rfl,rfl⟩,⟨⟨.inl rfl,rfl⟩,⟨⟨.inr (.inr (.inr (.inl ⟨_,_,rfl,hseal⟩))),rfl⟩,trivial⟩⟩⟩⟩⟩⟩⟩⟩)⟩
  ·have lst:(sts.map stav).length=sts.length:=List.length_map _
   refine AD.run hT hmix ?_
   refine⟨rfl,⟨by simp;omega,by simp;omega⟩,AD.run hT hmix ?_⟩
   refine ngo_in (by omega) (by omega) ⟨(k+1,sts++[st]),⟨by dsimp only;omega,by simp;omega,fun x hx=>?_⟩,by dsimp only;omega,?_⟩
   ·rcases List.mem_append.1 hx with hx | hx
    ·exact g3 x hx
    ·rw[List.mem_singleton] at hx;rw[hx];exact h1
   ·dsimp only
    rw[List.map_append]
    exact .of
theorem flatB(bs:List Bnd):(flat (bs.map Bnd.av)).length=bs.length*4:=by rw[flat_length (sz:=4) (fun e he=>by obtain⟨r,_,rfl⟩:=List.mem_map.1 he;rfl),List.length_map]
theorem setSeg_bnd:∀ (l:List Bnd) (j:Nat) (r:Bnd),j<l.length→setSeg ((flat (l.map Bnd.av)).map EV.p) (0+j*4) [.p (eI r.lower.arity),.p (ints r.lower.tuples),.p (eI r.upper.arity),.p (ints r.upper.tuples)]=(flat ((l.set j r).map Bnd.av)).map .p
 | [],j,r,h=>by simp at h
 | x::l,0,r,h=>rfl
 | x::l,j+1,r,h=>by
  have ih:=setSeg_bnd l j r (by simpa using h)
  simp only[Nat.zero_add,setSeg] at ih ⊢
  show(((((eI x.lower.arity::ints x.lower.tuples::eI x.upper.arity::ints x.upper.tuples::flat (l.map Bnd.av)).map EV.p).set ((j+1)*4) _).set ((j+1)*4+1) _).set ((j+1)*4+1+1) _).set ((j+1)*4+1+1+1) _=(eI x.lower.arity::ints x.lower.tuples::eI x.upper.arity::ints x.upper.tuples::flat ((l.set j r).map Bnd.av)).map EV.p
  rw[show(j+1)*4=j*4+1+1+1+1 by omega]
  simp only[List.map_cons,List.set_cons_succ]
  rw[ih]
theorem drop_bnd:∀ (l:List Bnd) (j:Nat) (h:j<l.length),(((flat (l.map Bnd.av)).map EV.p).drop (0+j*4+2)).take 2=[.p (eI l[j].upper.arity),.p (ints l[j].upper.tuples)]
 | x::l,0,h=>rfl
 | x::l,j+1,h=>by
  have ih:=drop_bnd l j (by simpa using h)
  show(((eI x.lower.arity::ints x.lower.tuples::eI x.upper.arity::ints x.upper.tuples::flat (l.map Bnd.av)).map EV.p).drop (0+(j+1)*4+2)).take 2=_
  rw[show 0+(j+1)*4+2=(0+j*4+2)+1+1+1+1 by omega]
  simpa using ih
theorem default09V(sp:Spc)(s:Scope)(N:Nat)(h:ScopeOk s N)(hf:FieldsOk sp s):AFunV Tryz.prog 23 [sp.ex,s.av] 4 133 sp.fields.length (flat ((dflt s N sp.fields).map Bnd.av)):=by
 suffices hh:∃ n cs,(n=sp.fields.length∧cs=flat ((dflt s N sp.fields).map Bnd.av))∧AFunV Tryz.prog 23 [sp.ex,s.av] 4 133 n cs by
  obtain⟨n,cs,⟨rfl,rfl⟩,hv⟩:=hh
  exact hv
 have hl:(sp.fields.map Fld.av).length=sp.fields.length:=List.length_map _
 have hfew:=hf.few
 refine AFunVE.intro hT Tryz.func23 rfl rfl (by simp) ⟨_,_,rfl,rfl⟩ (AD.run hT hmix ?_)
 refine AD.loopI (fun x:Nat×List EV=>x.1≤sp.fields.length∧x.2=(flat ((dflt s N (sp.fields.take x.1)).map Bnd.av)).map .p) (fun x=>sp.fields.length - x.1)
  (fun x=>[(2,.loc 2 0),(3,.loc 3 0),(5,.arr 4 5 0 x.1),(6,eint .i64 (x.1:Nat))])
  (fun x=>[(2,.box 27 (sp.cx.map .p)),(3,.box 30 (s.cs.map .p)),(5,.box 133 x.2)]) (0,[]) ⟨Nat.zero_le _,rfl⟩ (.vec 5) fun ⟨i,cE⟩ ⟨g1,g2⟩=>AD.run hT hmix ?_
 dsimp only at g1 g2 ⊢
 have hdl:(dflt s N (sp.fields.take i)).length=i:=by simp[dflt];omega
 have hok:∀ h,okE.okL h cE=true:=fun h=>by rw[g2];exact okL_p _ _
 intro _
 refine bgs (fun hb=>?_) (fun hb=>?_)
 ·replace hb:=odt hb
  have hlt:i<sp.fields.length:=by omega
  have hc:=hf.cols _ (List.getElem_mem hlt)
  refine igo_map i rfl hlt ?_
  intro _
  have hcl:i*4=cE.length:=by rw[g2,List.length_map,flatB,hdl]
  refine igo_map i rfl hlt (.pure _ _ rfl (full05 s h.small N h.sum h.pos h.most _ hc.1 hc.2) ⟨hcl,⟨by simp;omega,by simp;omega⟩,⟨by kernel_rfl,ngo_in (by omega) (by omega) ?_⟩⟩)
  refine⟨(i+1,renE.renL 35 5 (cE++(flat [Bnd.av ⟨⟨(sp.fields[i].sorts.map eI).length,[]⟩,⟨sp.fields[i].sorts.length,fullT s.atoms N sp.fields[i].sorts (N ^ sp.fields[i].sorts.length)⟩⟩]).map .p)),⟨by dsimp only;omega,?_⟩,by dsimp only;omega,?_⟩
  ·dsimp only
   rw[g2,← List.map_append,← flat_append,renL_p,List.take_succ_eq_append_getElem hlt,dflt,dflt,List.map_append,List.map_append]
   simp[fullR]
  ·exact(SubAll.of (env':=[(2,.loc 2 0),(3,.loc 3 0),(5,.arr 4 35 0 (i+1)),(6,eint .i64 ((i:Int)+1))]) (h':=[(2,.box 27 (sp.cx.map .p)),(3,.box 30 (s.cs.map .p)),(35,.box 133 (cE++(flat [Bnd.av ⟨⟨(sp.fields[i].sorts.map eI).length,[]⟩,⟨sp.fields[i].sorts.length,fullT s.atoms N sp.fields[i].sorts (N ^ sp.fields[i].sorts.length)⟩⟩]).map .p))])).trans (SubAll.ren 35 5)
 ·replace hb:=of_decide_eq_false hb
  obtain rfl:i=sp.fields.length:=by omega
  rw[List.take_length] at g2 hdl
  exact⟨sp.fields.length,_,5,cE,rfl,rfl,by rw[g2];exact toPs_p _,by rw[g2,List.length_map,flatB,hdl],rfl,rfl⟩
def IntL(es:List AV):Prop:=∃ l:List Int,es=l.map eI
theorem IntL.snoc{es:List AV}(h:IntL es)(x:Int):IntL (es++[eI x]):=by obtain⟨l,rfl⟩:=h;exact⟨l++[x],by simp⟩
theorem IntL.app{a b:List AV}(h:IntL a)(k:IntL b):IntL (a++b):=by obtain⟨l,rfl⟩:=h;obtain⟨m,rfl⟩:=k;exact⟨l++m,by simp⟩
theorem IntL.take{a:List AV}(h:IntL a)(n:Nat):IntL (a.take n):=by obtain⟨l,rfl⟩:=h;exact⟨l.take n,by simp⟩
theorem IntL.drop{a:List AV}(h:IntL a)(n:Nat):IntL (a.drop n):=by obtain⟨l,rfl⟩:=h;exact⟨l.drop n,by simp⟩
theorem IntL.at{es:List AV}(h:IntL es){q:Nat}(hq:q<es.length):∃ x:Int,es[q]?=some (eI x):=by
 obtain⟨l,rfl⟩:=h
 have hq:q<l.length:=by simpa using hq
 exact⟨l[q],by simp[hq]⟩
theorem rem_nat{a:Int}{n:Nat}(ha:0≤a)(hn:0<n):∃ q:Nat,a.tmod n=q∧q<n:=by
 have h1:=Int.emod_nonneg a (show(n:Int)≠0 by omega)
 have h2:=Int.emod_lt_of_pos a (show(0:Int)<n by omega)
 refine⟨(a % n).toNat,?_,by omega⟩
 rw[Int.tmod_eq_emod_of_nonneg ha];omega
theorem leL_p(S:Sl)(h:AHp):∀ l:List AV,leL S h (l.map .p) (l.map .p)
 | []=>trivial
 | x::r=>⟨⟨.inl rfl,rfl⟩,leL_p S h r⟩
theorem leL_set{S:Sl}{h:AHp}:∀ {cs cs':List EV} {o:Nat} {v v':EV},leL S h cs cs'→(leE S h v v'∧okE h v'=true)→leL S h (cs.set o v) (cs'.set o v')
 | [],[],_,_,_,_,_=>trivial
 | [],_::_,_,_,_,hl,_=>hl.elim
 | _::_,[],_,_,_,hl,_=>hl.elim
 | a::r,b::s,0,v,v',hl,hv=>⟨hv,hl.2⟩
 | a::r,b::s,o+1,v,v',hl,hv=>⟨hl.1,leL_set hl.2 hv⟩
theorem leL_setSeg{S:Sl}{h:AHp}:∀ {vs vs':List EV} {cs cs':List EV} {o:Nat},leL S h cs cs'→leL S h vs vs'→leL S h (setSeg cs o vs) (setSeg cs' o vs')
 | [],[],_,_,_,hl,_=>hl
 | [],_::_,_,_,_,_,hv=>hv.elim
 | _::_,[],_,_,_,_,hv=>hv.elim
 | a::r,b::s,cs,cs',o,hl,hv=>by
  show leL S h (setSeg (cs.set o a) (o+1) r) (setSeg (cs'.set o b) (o+1) s)
  exact leL_setSeg (leL_set hl hv.1) hv.2
def rawav(raw:List (List Int)):AV:=.slice 1 (raw.map fun l=>.slice 1 (l.map eU8))
theorem fullR_le(s:Scope)(N:Nat)(h:ScopeOk s N)(f:Fld)(hf:f.sorts.length≤3):(fullR s N f).tuples.length≤1728:=Nat.le_trans (fullT_le _ _ _ _) (pow_most h.most hf)
set_option maxHeartbeats 1000000 in
theorem made09(sp:Spc)(s:Scope)(N:Nat)(h:ScopeOk s N)(hf:FieldsOk sp s)(raw:List (List Int)):
 ∃ bs:List Bnd,(bs.length=sp.fields.length∧∀ b∈bs,b.upper.tuples.length≤1728)∧AFun Tryz.prog 55 [sp.ex,s.av,rawav raw] (.p (.slice 4 (bs.map Bnd.av))):=by
 suffices hh:∃ y,(∃ bs:List Bnd,y=.p (.slice 4 (bs.map Bnd.av))∧bs.length=sp.fields.length∧∀ b∈bs,b.upper.tuples.length≤1728)∧AFun Tryz.prog 55 [sp.ex,s.av,rawav raw] y by
  obtain⟨y,⟨bs,rfl,hb⟩,hf⟩:=hh
  exact⟨bs,hb,hf⟩
 have hD:=default09V sp s N h hf
 have hfew:=hf.few
 have hd0:(dflt s N sp.fields).length=sp.fields.length:=by simp[dflt]
 have hdu:∀ b∈dflt s N sp.fields,b.upper.tuples.length≤1728:=fun b hb=>by
  obtain⟨f,hm,rfl⟩:=List.mem_map.1 hb
  exact fullR_le s N h f (hf.cols f hm).1.2
 have hr:(raw.map fun l=>AV.slice 1 (l.map eU8)).length=raw.length:=List.length_map _
 refine AFunE.intro hT Tryz.func55 rfl rfl (by simp) ⟨_,_,rfl,hd0,hdu⟩ (AD.cut hT hmix 19 (fun bs:List Bnd=>bs.length=sp.fields.length∧∀ b∈bs,b.upper.tuples.length≤1728) (fun bs=>[(7,.p (.slice 4 (bs.map Bnd.av)))]) (fun _=>[]) ?_ fun bs ⟨h1,h2⟩=>AD.run hT hmix ⟨_,_,rfl,rfl,bs,rfl,h1,h2⟩)
 refine .vec _ _ _ _ _ 16 rfl hD rfl rfl ?_
 refine AD.loopI (fun x:Nat×List Bnd=>x.1≤sp.fields.length∧x.2.length=sp.fields.length∧∀ b∈x.2,b.upper.tuples.length≤1728) (fun x=>sp.fields.length - x.1)
  (fun x=>[(2,.p (rawav raw)),(7,.arr 4 16 0 sp.fields.length),(8,eint .i64 x.1)]) (fun x=>[(16,.box 133 ((flat (x.2.map Bnd.av)).map .p))]) (0,dflt s N sp.fields) ⟨Nat.zero_le _,hd0,hdu⟩ .of fun ⟨i,bs⟩ ⟨g1,g2,g3⟩=>AD.run hT hmix ?_
 dsimp only at g1 g2 g3 ⊢
 have flen:((flat (bs.map Bnd.av)).map EV.p).length=bs.length*4:=by rw[List.length_map,flatB]
 intro _
 refine bgs (fun hb=>?_) (fun hb=>?_)
 ·replace hb:=odt hb
  have hlt:i<bs.length:=by omega
  have hu:=g3 _ (List.getElem_mem hlt)
  have hul:(bs[i].upper.tuples.map eI).length=bs[i].upper.tuples.length:=List.length_map _
  refine⟨i,rfl,by omega,bgo_true (Nat.ble_eq_true_of_le (by rw[flen];show 0+i*4+2+2≤_;omega)) ?_⟩
  generalize hz:List.take _ (List.drop _ ((flat (bs.map Bnd.av)).map EV.p))=z
  obtain rfl:z=[.p (eI bs[i].upper.arity),.p (ints bs[i].upper.tuples)]:=hz.symm.trans (drop_bnd bs i hlt)
  clear hz
  refine AD.loopI (fun x:Nat×List AV×List AV=>x.1≤bs[i].upper.tuples.length∧(IntL x.2.1∧x.2.1.length≤x.1)∧(IntL x.2.2∧x.2.2.length≤x.1)) (fun x=>bs[i].upper.tuples.length - x.1)
   (fun x=>[(2,.p (rawav raw)),(7,.arr 4 16 0 sp.fields.length),(8,eint .i64 i),(9,.loc 9 0),(10,.loc 10 0),(11,.loc 11 0),(12,eint .i64 x.1)])
   (fun x=>[(16,.box 133 ((flat (bs.map Bnd.av)).map .p)),(9,.box 50 [.p (eI bs[i].upper.arity),.p (ints bs[i].upper.tuples)]),(10,.box 50 [.p (eI bs[i].upper.arity),.own 1 x.2.1 84]),(11,.box 50 [.p (eI bs[i].upper.arity),.own 1 x.2.2 72]),(84,.tail x.2.1.length),(72,.tail x.2.2.length)])
   (0,[],[]) ⟨Nat.zero_le _,⟨⟨[],rfl⟩,Nat.le_refl _⟩,⟨⟨[],rfl⟩,Nat.le_refl _⟩⟩ .of fun ⟨j,lo,up⟩ ⟨e1,⟨e2,e3⟩,⟨e4,e5⟩⟩=>AD.run hT hmix ?_
  dsimp only at e1 e2 e3 e4 e5 ⊢
  intro _
  refine bgs (fun hc=>?_) (fun hc=>?_)
  ·replace hc:=odt hc
   have hj:j<bs[i].upper.tuples.length:=by omega
   intro _
   refine bgs (fun d1=>?_) (fun d1=>?_)
   ·replace d1:=odt d1
    have hi2:i<raw.length:=by omega
    have hl2:(raw[i].map eU8).length=raw[i].length:=List.length_map _
    refine igo_map i rfl hi2 ?_
    intro _
    refine bgs (fun d2=>?_) (fun d2=>?_)
    ·replace d2:=odt d2
     have hj2:j<raw[i].length:=by omega
     refine igo_map i rfl hi2 (igo_map j rfl hj2 ⟨by decide,raw[i][j].tmod 4,rfl,?_⟩)
     refine bgs (fun c1=>?_) (fun c1=>?_)
     ·refine igo_map j rfl hj ⟨rfl,⟨by simp;omega,by simp;omega⟩,⟨by kernel_rfl,bgs (fun c2=>?_) (fun c2=>?_)⟩⟩
      ·refine igo_map j rfl hj ⟨rfl,⟨by simp;omega,by simp;omega⟩,⟨by kernel_rfl,ngo_in (by omega) (by omega) ?_⟩⟩
       exact⟨(j+1,lo++[eI bs[i].upper.tuples[j]],up++[eI bs[i].upper.tuples[j]]),⟨by dsimp only;omega,⟨e2.snoc _,by simp;omega⟩,⟨e4.snoc _,by simp;omega⟩⟩,by dsimp only;omega,.of⟩
      ·refine ngo_in (by omega) (by omega) ?_
       exact⟨(j+1,lo,up++[eI bs[i].upper.tuples[j]]),⟨by dsimp only;omega,⟨e2,by dsimp only;omega⟩,⟨e4.snoc _,by simp;omega⟩⟩,by dsimp only;omega,.of⟩
     ·refine bgs (fun c2=>?_) (fun c2=>?_)
      ·refine igo_map j rfl hj ⟨rfl,⟨by simp;omega,by simp;omega⟩,⟨by kernel_rfl,ngo_in (by omega) (by omega) ?_⟩⟩
       exact⟨(j+1,lo++[eI bs[i].upper.tuples[j]],up),⟨by dsimp only;omega,⟨e2.snoc _,by simp;omega⟩,⟨e4,by dsimp only;omega⟩⟩,by dsimp only;omega,.of⟩
      ·refine ngo_in (by omega) (by omega) ?_
       exact⟨(j+1,lo,up),⟨by dsimp only;omega,⟨e2,by dsimp only;omega⟩,⟨e4,by dsimp only;omega⟩⟩,by dsimp only;omega,.of⟩
    ·refine igo_map j rfl hj ⟨rfl,⟨by simp;omega,by simp;omega⟩,⟨by kernel_rfl,ngo_in (by omega) (by omega) ?_⟩⟩
     exact⟨(j+1,lo,up++[eI bs[i].upper.tuples[j]]),⟨by dsimp only;omega,⟨e2,by dsimp only;omega⟩,⟨e4.snoc _,by simp;omega⟩⟩,by dsimp only;omega,.of⟩
   ·refine igo_map j rfl hj ⟨rfl,⟨by simp;omega,by simp;omega⟩,⟨by kernel_rfl,ngo_in (by omega) (by omega) ?_⟩⟩
    exact⟨(j+1,lo,up++[eI bs[i].upper.tuples[j]]),⟨by dsimp only;omega,⟨e2,by dsimp only;omega⟩,⟨e4.snoc _,by simp;omega⟩⟩,by dsimp only;omega,.of⟩
  ·obtain⟨la,rfl⟩:=e2
   obtain⟨ua,rfl⟩:=e4
   refine⟨i,rfl,by omega,bgo_true (by rw[Bool.and_eq_true,Bool.and_eq_true];exact⟨rfl,Nat.ble_eq_true_of_le (by rw[flen];show 0+i*4+4≤_;omega),rfl⟩) (ngo_in (by omega) (by omega) ⟨(i+1,bs.set i ⟨⟨bs[i].upper.arity,la⟩,⟨bs[i].upper.arity,ua⟩⟩),⟨by dsimp only;omega,by simpa using g2,fun b hb=>?_⟩,by dsimp only;omega,?_⟩)⟩
   ·rcases List.mem_or_eq_of_mem_set hb with hb | rfl
    ·exact g3 b hb
    ·simp at e5 ⊢;omega
   ·have e6:=setSeg_bnd bs i ⟨⟨bs[i].upper.arity,la⟩,⟨bs[i].upper.arity,ua⟩⟩ hlt
    refine .of (h2:=⟨⟨rfl,.inl ?_⟩,trivial⟩)
    dsimp only
    rw[← e6]
    exact leL_setSeg (leL_p _ _ _) ⟨⟨.inl rfl,rfl⟩,⟨⟨.inr (.inl ⟨_,rfl,rfl⟩),rfl⟩,⟨⟨.inl rfl,rfl⟩,⟨⟨.inr (.inl ⟨_,rfl,rfl⟩),rfl⟩,trivial⟩⟩⟩⟩
 ·replace hb:=of_decide_eq_false hb
  refine⟨bs,⟨g2,g3⟩,.sealB 16 (hx:=toPs_p _) (h1:=⟨⟨.inr (.inr (.inr (.inl ⟨_,_,rfl,.inr ⟨4,0,sp.fields.length,bs.map Bnd.av,rfl,rfl,?_,?_,?_⟩⟩))),rfl⟩,trivial⟩)⟩
  ·rw[List.drop_zero,List.take_of_length_le];rw[flatB];omega
  ·intro e he;obtain⟨r,_,rfl⟩:=List.mem_map.1 he;rfl
  ·rw[List.length_map];exact g2
def setcs(a:Int)(bs:List Bool):List AV:=eI a::bs.map eB
def setav(a:Int)(bs:List Bool):AV:=.agg (setcs a bs)
theorem ogo_of{α:Type}{o:Option α}{x:α}{k:α→Prop}(h:o=some x)(hk:k x):ogo o k:=by rw[h];exact hk
theorem nth_setcs(a:Int)(f:List Bool)(i:Nat)(h:i<f.length):nth ((setcs a f).map EV.p) (0+1+i*1)=some (.p (eB f[i])):=by
 rw[nth_eq,show 0+1+i*1=i+1 by omega]
 simp[setcs,h]
theorem setSeg_setcs(a:Int)(f:List Bool)(i:Nat)(v:Bool):setSeg ((setcs a f).map EV.p) (0+1+i*1) [.p (eB v)]=(setcs a (f.set i v)).map .p:=by
 rw[show 0+1+i*1=i+1 by omega]
 simp[setSeg,setcs,List.map_set]
theorem setcs_len(a:Int)(f:List Bool):((setcs a f).map EV.p).length=f.length+1:=by simp[setcs]
def zeroOf(t:Nat):List EV:=match T.get t with | some ti=>ti.zero | none=>[]
theorem take_setcs(a:Int)(f:List Bool)(hf:f.length=64):List.take 65 (List.drop 0 ((setcs a f).map EV.p))=(setcs a f).map .p:=by
 rw[List.drop_zero,List.take_of_length_le (by rw[setcs_len];omega)]
theorem setSeg_mid{α:Type}:∀ (vs pre post:List α) (old:List α),old.length=vs.length→setSeg (pre++old++post) pre.length vs=pre++vs++post
 | [],pre,post,old,h=>by
  obtain rfl:=List.eq_nil_of_length_eq_zero h
  simp[setSeg]
 | v::vs,pre,post,[],h=>by simp at h
 | v::vs,pre,post,o::old,h=>by
  have ih:=setSeg_mid vs (pre++[v]) post old (by simpa using h)
  simp only[setSeg]
  have e:(pre++o::old++post).set pre.length v=pre++[v]++old++post:=by simp[List.set_append]
  rw[e]
  simpa using ih
theorem setSeg_all{α:Type}(old vs:List α)(h:old.length=vs.length):setSeg old 0 vs=vs:=by
 have:=setSeg_mid vs [] [] old h
 simpa using this
theorem res_cell{env:Env}{h:AHp}{a k:Nat}{ty:Nat}{ti:TI}{t:TypeId}{cs:List EV}(h1:T.get ty=some ti)(h2:lk env a=.loc k 0)(h3:hp h k=.box t cs)(h4:ti.agg=true)(h5:cs.length=ti.size):resAll T env h [.cell a ty]=some [.agg cs]:=by
 simp only[resAll,resOne,h1,h2,h3,h4,cond_true]
 rw[show Nat.ble (0+ti.size) cs.length=true from Nat.ble_eq_true_of_le (by omega)]
 simp only[cond_true,List.drop_zero]
 rw[List.take_of_length_le (by omega)]
theorem toPs_agg_p(l:List AV):toPs [.agg (l.map .p)]=some [.agg l]:=by
 have:=toPs_p l
 simp only[toPs,toP.toPl,toP] at this ⊢
 rw[this];rfl
theorem union04(a b:Int)(f g:List Bool)(hf:f.length=64)(hg:g.length=64):∃ f':List Bool,f'.length=64∧AFun Tryz.prog 240 [setav a f,setav b g] (.p (setav a f')):=by
 suffices hh:∃ y,(∃ f':List Bool,y=.p (setav a f')∧f'.length=64)∧AFun Tryz.prog 240 [setav a f,setav b g] y by
  obtain⟨y,⟨r,rfl,hr⟩,hf⟩:=hh
  exact⟨r,hr,hf⟩
 refine AFunE.intro hT Tryz.func240 rfl rfl (by simp) ⟨_,f,rfl,hf⟩ (AD.run hT hmix ?_)
 refine AD.loopI (fun x:Nat×List Bool=>x.1≤64∧x.2.length=64) (fun x=>64 - x.1) (fun x=>[(2,.loc 2 0),(3,.loc 3 0),(4,.loc 4 0),(5,eint .i64 x.1)]) (fun x=>[(2,.box 240 ((setcs a x.2).map .p)),(3,.box 240 ((setcs b g).map .p)),(4,.box 240 (zeroOf 240))]) (0,f) ⟨Nat.zero_le _,hf⟩ .of fun ⟨i,f⟩ ⟨hi,hf⟩=>AD.run hT hmix ?_
 dsimp only at hi hf ⊢
 refine bgs (fun hb=>?_) (fun hb=>?_)
 ·replace hb:=odt hb
  have hlt:i<64:=by omega
  refine⟨i,rfl,hlt,ogo_of (nth_setcs a f i (by omega)) ?_⟩
  refine bgs (fun hv=>?_) (fun hv=>?_)
  ·refine⟨i,rfl,hlt,bgo_true (by rw[Bool.and_eq_true,Bool.and_eq_true];exact⟨rfl,Nat.ble_eq_true_of_le (by rw[setcs_len];show 0+1+i*1+1≤_;omega),rfl⟩) (ngo_in (by omega) (by omega) ?_)⟩
   exact⟨(i+1,f.set i true),⟨by dsimp only;omega,by simpa using hf⟩,by dsimp only;omega,.of (h2:=⟨⟨rfl,.inr ⟨setSeg_setcs ..,okL_p _ _⟩⟩,⟨⟨rfl,.inr ⟨rfl,okL_p _ _⟩⟩,⟨⟨rfl,.inr ⟨rfl,rfl⟩⟩,trivial⟩⟩⟩)⟩
  ·refine⟨i,rfl,hlt,ogo_of (nth_setcs b g i (by omega)) ⟨i,rfl,hlt,bgo_true (by rw[Bool.and_eq_true,Bool.and_eq_true];exact⟨rfl,Nat.ble_eq_true_of_le (by rw[setcs_len];show 0+1+i*1+1≤_;omega),rfl⟩) (ngo_in (by omega) (by omega) ?_)⟩⟩
   exact⟨(i+1,f.set i g[i]),⟨by dsimp only;omega,by simpa using hf⟩,by dsimp only;omega,.of (h2:=⟨⟨rfl,.inr ⟨setSeg_setcs ..,okL_p _ _⟩⟩,⟨⟨rfl,.inr ⟨rfl,okL_p _ _⟩⟩,⟨⟨rfl,.inr ⟨rfl,rfl⟩⟩,trivial⟩⟩⟩)⟩
 ·refine bgo_true (Nat.ble_eq_true_of_le (by rw[setcs_len];show 0+65≤_;omega)) ?_
  generalize hz:List.take _ (List.drop _ ((setcs a f).map EV.p))=z
  obtain rfl:z=(setcs a f).map .p:=hz.symm.trans (take_setcs a f hf)
  clear hz
  refine bgo_true (by rw[Bool.and_eq_true,Bool.and_eq_true];exact⟨by rw[setcs_len,hf];rfl,rfl,rfl⟩) ?_
  have e:setSeg (zeroOf 240) 0 ((setcs a f).map EV.p)=(setcs a f).map .p:=setSeg_all _ _ (by rw[setcs_len,hf];rfl)
  exact⟨_,_,res_cell rfl rfl rfl rfl (by rw[e,setcs_len,hf]),by rw[e];exact toPs_agg_p _,f,rfl,hf⟩
theorem inter04(a b:Int)(f g:List Bool)(hf:f.length=64)(hg:g.length=64):∃ f':List Bool,f'.length=64∧AFun Tryz.prog 241 [setav a f,setav b g] (.p (setav a f')):=by
 suffices hh:∃ y,(∃ f':List Bool,y=.p (setav a f')∧f'.length=64)∧AFun Tryz.prog 241 [setav a f,setav b g] y by
  obtain⟨y,⟨r,rfl,hr⟩,hf⟩:=hh
  exact⟨r,hr,hf⟩
 refine AFunE.intro hT Tryz.func241 rfl rfl (by simp) ⟨_,List.replicate 64 false,rfl,List.length_replicate⟩ (AD.run hT hmix ?_)
 refine AD.loopI (fun x:Nat×List Bool=>x.1≤64∧x.2.length=64) (fun x=>64 - x.1) (fun x=>[(2,.loc 2 0),(3,.loc 3 0),(4,.loc 4 0),(5,eint .i64 x.1)]) (fun x=>[(2,.box 240 ((setcs a x.2).map .p)),(3,.box 240 ((setcs b g).map .p)),(4,.box 240 (zeroOf 240))]) (0,f) ⟨Nat.zero_le _,hf⟩ .of fun ⟨i,f⟩ ⟨hi,hf⟩=>AD.run hT hmix ?_
 dsimp only at hi hf ⊢
 refine bgs (fun hb=>?_) (fun hb=>?_)
 ·replace hb:=odt hb
  have hlt:i<64:=by omega
  refine⟨i,rfl,hlt,ogo_of (nth_setcs a f i (by omega)) ?_⟩
  refine bgs (fun hv=>?_) (fun hv=>?_)
  ·refine⟨i,rfl,hlt,ogo_of (nth_setcs b g i (by omega)) ⟨i,rfl,hlt,bgo_true (by rw[Bool.and_eq_true,Bool.and_eq_true];exact⟨rfl,Nat.ble_eq_true_of_le (by rw[setcs_len];show 0+1+i*1+1≤_;omega),rfl⟩) (ngo_in (by omega) (by omega) ?_)⟩⟩
   exact⟨(i+1,f.set i g[i]),⟨by dsimp only;omega,by simpa using hf⟩,by dsimp only;omega,.of (h2:=⟨⟨rfl,.inr ⟨setSeg_setcs ..,okL_p _ _⟩⟩,⟨⟨rfl,.inr ⟨rfl,okL_p _ _⟩⟩,⟨⟨rfl,.inr ⟨rfl,rfl⟩⟩,trivial⟩⟩⟩)⟩
  ·refine⟨i,rfl,hlt,bgo_true (by rw[Bool.and_eq_true,Bool.and_eq_true];exact⟨rfl,Nat.ble_eq_true_of_le (by rw[setcs_len];show 0+1+i*1+1≤_;omega),rfl⟩) (ngo_in (by omega) (by omega) ?_)⟩
   exact⟨(i+1,f.set i false),⟨by dsimp only;omega,by simpa using hf⟩,by dsimp only;omega,.of (h2:=⟨⟨rfl,.inr ⟨setSeg_setcs ..,okL_p _ _⟩⟩,⟨⟨rfl,.inr ⟨rfl,okL_p _ _⟩⟩,⟨⟨rfl,.inr ⟨rfl,rfl⟩⟩,trivial⟩⟩⟩)⟩
 ·refine bgo_true (Nat.ble_eq_true_of_le (by rw[setcs_len];show 0+65≤_;omega)) ?_
  generalize hz:List.take _ (List.drop _ ((setcs a f).map EV.p))=z
  obtain rfl:z=(setcs a f).map .p:=hz.symm.trans (take_setcs a f hf)
  clear hz
  refine bgo_true (by rw[Bool.and_eq_true,Bool.and_eq_true];exact⟨by rw[setcs_len,hf];rfl,rfl,rfl⟩) ?_
  have e:setSeg (zeroOf 240) 0 ((setcs a f).map EV.p)=(setcs a f).map .p:=setSeg_all _ _ (by rw[setcs_len,hf];rfl)
  exact⟨_,_,res_cell rfl rfl rfl rfl (by rw[e,setcs_len,hf]),by rw[e];exact toPs_agg_p _,f,rfl,hf⟩
theorem tm4(i:Nat):((i:Int)).tmod 4=((i % 4:Nat):Int):=rfl
theorem td4(i:Nat)(h:i≤100000):IntKind.i64.wrap (((i:Int)).tdiv 4)=((i / 4:Nat):Int):=wrap64_in (n:=((i / 4:Nat):Int)) (by omega) (by omega)
theorem zero_set(a:Int):setSeg (zeroOf 240) 0 (setSeg (zeroOf 240) 0 [.p (eI a)])=(setcs a (List.replicate 64 false)).map .p:=by
 have e:zeroOf 240=.p (eI 0)::List.replicate 64 (.p (eB false)):=rfl
 rw[e,setSeg_all _ _ (by simp[setSeg])]
 simp[setSeg,setcs,List.map_replicate]
theorem transpose04(a:Int)(f:List Bool)(hf:f.length=64):∃ f':List Bool,f'.length=64∧AFun Tryz.prog 244 [setav a f] (.p (setav 2 f')):=by
 suffices hh:∃ y,(∃ f':List Bool,y=.p (setav 2 f')∧f'.length=64)∧AFun Tryz.prog 244 [setav a f] y by
  obtain⟨y,⟨r,rfl,hr⟩,hf⟩:=hh
  exact⟨r,hr,hf⟩
 refine AFunE.intro hT Tryz.func244 rfl rfl (by simp) ⟨_,List.replicate 64 false,rfl,List.length_replicate⟩ (AD.run hT hmix ?_)
 refine AD.loopI (fun x:Nat×List Bool=>x.1≤16∧x.2.length=64) (fun x=>16 - x.1) (fun x=>[(1,.loc 1 0),(2,.loc 2 0),(3,.loc 3 0),(4,eint .i64 x.1)]) (fun x=>[(1,.box 240 ((setcs a f).map .p)),(2,.box 240 (zeroOf 240)),(3,.box 240 ((setcs 2 x.2).map .p))]) (0,List.replicate 64 false) ⟨Nat.zero_le _,List.length_replicate⟩ (.of (h2:=⟨⟨rfl,.inr ⟨rfl,okL_p _ _⟩⟩,⟨⟨rfl,.inr ⟨rfl,rfl⟩⟩,⟨⟨rfl,.inr ⟨zero_set 2,okL_p _ _⟩⟩,trivial⟩⟩⟩)) fun ⟨i,g⟩ ⟨hi,hg⟩=>AD.run hT hmix ?_
 dsimp only at hi hg ⊢
 refine bgs (fun hb=>?_) (fun hb=>?_)
 ·replace hb:=odt hb
  have hlt:i<16:=by omega
  refine⟨by decide,_,tm4 i,ngo_in (by omega) (by omega) ⟨by decide,_,td4 i (by omega),ngo_in (by omega) (by omega) ⟨i,rfl,(show i<64 by omega),ogo_of (nth_setcs a f i (by omega)) ?_⟩⟩⟩
  refine⟨i % 4*4+i / 4,by omega,(show i % 4*4+i / 4<64 by omega),bgo_true (by rw[Bool.and_eq_true,Bool.and_eq_true];exact⟨rfl,Nat.ble_eq_true_of_le (by rw[setcs_len];show 0+1+(i % 4*4+i / 4)*1+1≤_;omega),rfl⟩) (ngo_in (by omega) (by omega) ?_)⟩
  exact⟨(i+1,g.set (i % 4*4+i / 4) f[i]),⟨by dsimp only;omega,by simpa using hg⟩,by dsimp only;omega,.of (h2:=⟨⟨rfl,.inr ⟨rfl,okL_p _ _⟩⟩,⟨⟨rfl,.inr ⟨rfl,rfl⟩⟩,⟨⟨rfl,.inr ⟨setSeg_setcs ..,okL_p _ _⟩⟩,trivial⟩⟩⟩)⟩
 ·refine bgo_true (Nat.ble_eq_true_of_le (by rw[setcs_len];show 0+65≤_;omega)) ?_
  generalize hz:List.take _ (List.drop _ ((setcs 2 g).map EV.p))=z
  obtain rfl:z=(setcs 2 g).map .p:=hz.symm.trans (take_setcs 2 g hg)
  clear hz
  refine bgo_true (by rw[Bool.and_eq_true,Bool.and_eq_true];exact⟨by rw[setcs_len,hg];rfl,rfl,rfl⟩) ?_
  have e:setSeg (zeroOf 240) 0 ((setcs 2 g).map EV.p)=(setcs 2 g).map .p:=setSeg_all _ _ (by rw[setcs_len,hg];rfl)
  exact⟨_,_,res_cell rfl rfl rfl rfl (by rw[e,setcs_len,hg]),by rw[e];exact toPs_agg_p _,g,rfl,hg⟩
def sizeOf4(k:Int):Int:=if k<1 then 1 else if k=1 then 4 else if k=2 then 16 else 64
theorem size04(k:Int):AFun Tryz.prog 250 [eI k] (.p (eI (sizeOf4 k))):=by
 refine AFun.of hT Tryz.func250 rfl rfl (by simp) (AD.run hT hmix ?_)
 have e3:∀ x,sizeOf4 k=x→EV.p (eI (sizeOf4 k))=retEV [AV.imm (.int .i64 x)]:=fun x h=>by rw[h];rfl
 repeat' first
  | exact⟨_,_,rfl,rfl,e3 _ (by simp only[decide_eq_true_eq,decide_eq_false_iff_not,beq_iff_eq,beq_eq_false_iff_ne] at *;unfold sizeOf4;repeat' split <;> omega)⟩
  | refine bgs (fun _=>?_) (fun _=>?_)
theorem one04(l:List Int)(hl3:l.length≤3)(hr:∀ x∈l,0≤x∧x<4):∃ f':List Bool,f'.length=64∧AFun Tryz.prog 221 [ints l] (.p (setav (l.length:Int) f')):=by
 suffices hh:∃ y,(∃ f':List Bool,y=.p (setav (l.length:Int) f')∧f'.length=64)∧AFun Tryz.prog 221 [ints l] y by
  obtain⟨y,⟨r,rfl,hr⟩,hf⟩:=hh
  exact⟨r,hr,hf⟩
 refine AFunE.intro hT Tryz.func221 rfl rfl (by simp) ⟨_,List.replicate 64 false,rfl,List.length_replicate⟩ (AD.run hT hmix ?_)
 have hl:(l.map eI).length=l.length:=List.length_map _
 intro _
 rw[hl]
 refine AD.loopI (fun x:Nat×Nat=>x.1≤l.length∧x.2<4 ^ x.1) (fun x=>l.length - x.1) (fun x=>[(0,.p (ints l)),(2,.loc 2 0),(3,.loc 3 0),(4,eint .i64 x.2),(5,eint .i64 x.1)]) (fun x=>[(2,.box 240 (zeroOf 240)),(3,.box 240 ((setcs l.length (List.replicate 64 false)).map .p))]) (0,0) ⟨Nat.zero_le _,by decide⟩ (.of (h2:=⟨⟨rfl,.inr ⟨rfl,rfl⟩⟩,⟨⟨rfl,.inr ⟨zero_set _,okL_p _ _⟩⟩,trivial⟩⟩)) fun ⟨i,v⟩ ⟨hi,hv⟩=>AD.run hT hmix ?_
 dsimp only at hi hv ⊢
 have h43:4 ^ i≤64:=Nat.le_trans (Nat.pow_le_pow_right (by omega) (show i≤3 by omega)) (by decide)
 intro _
 refine bgs (fun hb=>?_) (fun hb=>?_)
 ·replace hb:=odt hb
  have hlt:i<l.length:=by omega
  have hx:=hr _ (List.getElem_mem hlt)
  refine ngo_in (by omega) (by omega) (igo_map i rfl hlt (ngo_in (by omega) (by omega) (ngo_in (by omega) (by omega) ?_)))
  refine⟨(i+1,4*v+l[i].toNat),⟨by dsimp only;omega,by dsimp only;rw[Nat.pow_succ];omega⟩,by dsimp only;omega,?_⟩
  have e:(((4*v+l[i].toNat:Nat)):Int)=4*(v:Int)+l[i]:=by omega
  dsimp only
  rw[e]
  exact .of (h2:=⟨⟨rfl,.inr ⟨rfl,rfl⟩⟩,⟨⟨rfl,.inr ⟨rfl,okL_p _ _⟩⟩,trivial⟩⟩)
 ·replace hb:=of_decide_eq_false hb
  refine bgs (fun h2=>?_) (fun h2=>?_)
  ·replace h2:=odt h2
   refine⟨v,rfl,(show v<64 by omega),bgo_true (by rw[Bool.and_eq_true,Bool.and_eq_true];exact⟨rfl,Nat.ble_eq_true_of_le (by rw[setcs_len,List.length_replicate];show 0+1+v*1+1≤_;omega),rfl⟩) ?_⟩
   generalize hy:setSeg ((setcs _ _).map EV.p) _ _=y
   obtain rfl:y=(setcs (l.length:Int) ((List.replicate 64 false).set v true)).map .p:=hy.symm.trans (setSeg_setcs ..)
   clear hy
   have hq:((List.replicate 64 false).set v true).length=64:=by simp
   refine bgo_true (Nat.ble_eq_true_of_le (by rw[setcs_len];show 0+65≤_;omega)) ?_
   generalize hz:List.take _ (List.drop _ ((setcs (l.length:Int) ((List.replicate 64 false).set v true)).map EV.p))=z
   obtain rfl:z=(setcs (l.length:Int) ((List.replicate 64 false).set v true)).map .p:=hz.symm.trans (take_setcs (l.length:Int) ((List.replicate 64 false).set v true) hq)
   clear hz
   refine bgo_true (by rw[Bool.and_eq_true,Bool.and_eq_true];exact⟨by rw[setcs_len,hq];rfl,rfl,rfl⟩) ?_
   have e:setSeg (zeroOf 240) 0 ((setcs (l.length:Int) ((List.replicate 64 false).set v true)).map EV.p)=(setcs (l.length:Int) ((List.replicate 64 false).set v true)).map .p:=setSeg_all _ _ (by rw[setcs_len,hq];rfl)
   exact⟨_,_,res_cell rfl rfl rfl rfl (by rw[e,setcs_len,hq]),by rw[e];exact toPs_agg_p _,((List.replicate 64 false).set v true),rfl,hq⟩
  ·replace h2:=of_decide_eq_false h2
   omega
end Go.Ab
