/- Texts AbC, AbD, AbE, AbF, AbR. Conditions: none. -/
import Derived.Test.YtmllhjbnbhapoaaGreatGC
import Derived.RangeFuncLeaves
set_option linter.unusedSimpArgs false
set_option linter.unusedVariables false
namespace Go.Ab
open Go Go.RowKit
def markOf(d:Nat):Deferred:={ target:=.collected d,args:=#[] }
def DfOk(Γ:Ctx)(g:Gh)(H:Hp)(a:Act)(w:World):Prop:=
 ∃ ds:List Nat,a.defers=ds.map markOf++Γ.dfs∧ds.Nodup∧∀ d∈ds,w.heap[d]?=some (.deferred (some []))∧Γ.w0.heap.size≤d∧∀ k,¬ Bset g k (H k) d
theorem DfOk.start{Γ g H a w}(h:a.defers=Γ.dfs):DfOk Γ g H a w:=⟨[],h,by simp,by simp⟩
theorem DfOk.sub{Γ g H a w g' H'}(h:DfOk Γ g H a w)(hb:∀ k b,Bset g' k (H' k) b→∃ j,Bset g j (H j) b):DfOk Γ g' H' a w:=
 let ⟨ds,h1,h2,h3⟩:=h;⟨ds,h1,h2,fun d hd=>let ⟨a1,a2,a3⟩:=h3 d hd;⟨a1,a2,fun k hk=>let ⟨j,hj⟩:=hb k d hk;a3 j hj⟩⟩
theorem DfOk.step{Γ g H a w g' H' w' n ds ro}(h:DfOk Γ g H a w)(hf:Fr ⟨w,g,H,n,ds,ro⟩ g' H' w'){a':Act}(ha:a'.defers=a.defers):DfOk Γ g' H' a' w':=by
 obtain⟨ds,h1,h2,h3⟩:=h
 refine⟨ds,ha.trans h1,h2,fun d hd=>?_⟩
 obtain⟨a1,a2,a3⟩:=h3 d hd
 have hlt:d<w.heap.size:=lt_of_heap a1
 have hx:¬ Ctx.X ⟨w,g,H,n,‹_›,ro⟩ d:=fun ⟨k,hk⟩=>a3 k hk
 refine⟨(hf.kept.block d hlt hx).trans a1,a2,fun k hk=>?_⟩
 rcases hf.own k d hk with h | h
 ·exact hx h
 ·have h:w.heap.size≤d:=h
  omega
structure SR(Γ:Ctx)(g:Gh)(env:Nat→EV)(H:Hp)(a:Act)(w:World):Prop where
 size:a.tmps.size=Γ.ntmps
 dfr:DfOk Γ g H a w
 tmps:∀ t,ERep g H (a.tmps.getD t undef) (env t)
 inv:WInv g H w
 fr:Fr Γ g H w
theorem SR.drew{Γ g env H a w}(h:SR Γ g env H a w):SR Γ g env H a w.drew:=by
 refine⟨h.size,h.dfr,h.tmps,⟨h.inv.fz,fun k=>(h.inv.obj k).mono (GLe.refl _ _) rfl rfl rfl (fun _ _=>rfl) fun _ _ _=>rfl,h.inv.inj⟩,⟨?_,h.fr.fz,h.fr.low,h.fr.own,h.fr.box,h.fr.map,h.fr.tail⟩⟩
 exact h.fr.kept.trans (Kept.drew (fun _=>False) w) fun _ _=>False.elim
def putF(d:Option Tmp)(x:EV)(env:Nat→EV):Nat→EV:=match d with | some t=>upd env t x | none=>env
def put(d:Option Tmp)(x:EV)(env:Env):Env:=match d with | some t=>(t,x)::env | none=>env
theorem lk_put(d:Option Tmp)(x:EV)(env:Env):lk (put d x env)=putF d x (lk env):=by
 cases d with
 | none=>rfl
 | some t=>funext s;simp only[put,putF,upd,lk_cons]
def dstIn(N:Nat)(d:Option Tmp):Prop:=∀ t,d=some t→t<N
theorem SR.put{Γ g env H a w}(h:SR Γ g env H a w){d:Option Tmp}(hd:dstIn Γ.ntmps d){g':Gh}{H':Hp}{w':World}(hle:GLe g H g' H')(hi:WInv g' H' w'){n ds ro}(hf:Fr ⟨w,g,H,n,ds,ro⟩ g' H' w'){v:Value}{x:EV}(hx:ERep g' H' v x):
 SR Γ g' (putF d x env) H' (a.put d v) w':=by
 have hf':=h.fr.trans hf hle.lost
 cases d with
 | none=>exact⟨h.size,h.dfr.step hf rfl,fun t=>(h.tmps t).mono hle,hi,hf'⟩
 | some t=>
  have ht:t<a.tmps.size:=by rw[h.size];exact hd t rfl
  refine⟨by simp[Act.put,h.size],h.dfr.step hf rfl,fun s=>?_,hi,hf'⟩
  simp only[Act.put,putF,upd]
  by_cases hs:s=t
  ·subst hs;simp[ht];exact hx
  ·rw[if_neg hs]
   have:(a.tmps.setIfInBounds t v).getD s undef=a.tmps.getD s undef:=by
    simp[Array.getD_eq_getD_getElem?,Array.getElem?_setIfInBounds,Ne.symm hs]
   rw[this];exact(h.tmps s).mono hle
def gdst(all:List Oper)(j:Nat):Option Tmp:=match nth all j with | some o=>o.dst | none=>none
def GTake0(all:List Oper)(o:Oper)(env:Nat→EV):Prop:=
 match o.guard with
 | none=>True
 | some (j,want)=>∃ d,gdst all j=some d∧env d=ebool want
def GTake(all:List Oper)(o:Oper)(env:Nat→EV):Prop:=GTake0 all o env∧∀ c,o.op≠.defer c
def GPass(all:List Oper)(o:Oper)(env:Nat→EV):Prop:=
 ∃ j want d,o.guard=some (j,want)∧gdst all j=some d∧(env d=ebool (!want)∨env d=.tup [])
theorem yielded_bool{ops:Array Oper}{a:Act}{j:Nat}{d:Tmp}{b:Bool}(hd:gdst ops.toList j=some d)(hv:a.tmps.getD d undef=.bool b):yielded ops a.tmps j=some b:=by
 have ho:(ops[j]?).bind (·.dst)=some d:=by
  unfold gdst at hd
  rw[nth_eq] at hd
  have:ops.toList[j]?=ops[j]?:=by simp
  rw[this] at hd
  cases hq:ops[j]? with
  | none=>rw[hq] at hd;cases hd
  | some o=>rw[hq] at hd;exact hd
 unfold yielded
 rw[ho]
 simp only[Option.bind_some]
 rw[Array.getD_eq_getD_getElem?] at hv
 cases hq:a.tmps[d]? with
 | none=>rw[hq] at hv;simp[undef] at hv
 | some v=>rw[hq] at hv;simp at hv;subst hv;rfl
theorem yielded_undef{ops:Array Oper}{a:Act}{j:Nat}{d:Tmp}(hd:gdst ops.toList j=some d)(hv:a.tmps.getD d undef=undef):yielded ops a.tmps j=none:=by
 have ho:(ops[j]?).bind (·.dst)=some d:=by
  unfold gdst at hd
  rw[nth_eq] at hd
  have:ops.toList[j]?=ops[j]?:=by simp
  rw[this] at hd
  cases hq:ops[j]? with
  | none=>rw[hq] at hd;cases hd
  | some o=>rw[hq] at hd;exact hd
 unfold yielded
 rw[ho]
 simp only[Option.bind_some]
 rw[Array.getD_eq_getD_getElem?] at hv
 cases hq:a.tmps[d]? with
 | none=>rfl
 | some v=>rw[hq] at hv;simp at hv;subst hv;rfl
theorem GTake.wanted{ops:Array Oper}{o:Oper}{env:Nat→EV}(h:GTake ops.toList o env){g:Gh}{H:Hp}{a:Act}(hr:∀ t,ERep g H (a.tmps.getD t undef) (env t)):Region.wanted o (yielded ops a.tmps)=true:=by
 replace h:=h.1
 unfold GTake0 at h
 unfold Region.wanted
 split at h
 ·rename_i hg;rw[hg]
 ·rename_i j want hg
  obtain⟨d,h1,h2⟩:=h
  rw[hg]
  have:=hr d
  rw[h2] at this
  simp[yielded_bool h1 this.val]
theorem ERep.tup_nil{g H v}(h:ERep g H v (.tup [])):v=undef:=by
 cases h with
 | tup vs _ hl _=>cases vs with | nil=>rfl | cons a r=>simp at hl
theorem GPass.wanted{ops:Array Oper}{o:Oper}{env:Nat→EV}(h:GPass ops.toList o env){g:Gh}{H:Hp}{a:Act}(hr:∀ t,ERep g H (a.tmps.getD t undef) (env t)):Region.wanted o (yielded ops a.tmps)=false:=by
 obtain⟨j,want,d,hg,h1,h2⟩:=h
 unfold Region.wanted
 rw[hg]
 have:=hr d
 rcases h2 with h2 | h2
 ·rw[h2] at this
  simp[yielded_bool h1 this.val]
 ·rw[h2] at this
  simp[yielded_undef h1 this.tup_nil]
abbrev Kr:=Env→AHp→List Fp→Prop
def dstOk(N:Nat)(d:Option Tmp)(A:Prop):Prop:=match d with | some t=>bgo (Nat.blt t N) A False | none=>A
def putK(d:Option Tmp)(x:EV)(env:Env)(k:Env→Prop):Prop:=match d with | some t=>k ((t,x)::env) | none=>k env
theorem putK_out{d:Option Tmp}{x:EV}{env:Env}{k:Env→Prop}(h:putK d x env k):k (put d x env):=by cases d <;> exact h
def aops(P:Program)(T:Tab)(N:Nat)(all:List Oper)(l:List Oper):Env→AHp→List Fp→Kr→Prop:=
 List.rec (motive:=fun _=>Env→AHp→List Fp→Kr→Prop) (fun env h fps K=>K env h fps)
  (fun o r ih env h fps K=>
   match o.guard with
   | none=>dstOk N o.dst (aop P T o (env) h fun x h' fp=>putK o.dst x (env) fun env'=>ih env' h' (fp::fps) K)
   | some (j,true)=>
    match gdst all j with
    | none=>False
    | some d=>
     match lk env d with
     | .p (.imm (.bool b))=>bgo b (dstOk N o.dst (aop P T o ((d,ebool true)::env) h fun x h' fp=>putK o.dst x ((d,ebool true)::env) fun env'=>ih env' h' (fp::fps) K))
      (dstOk N o.dst (putK o.dst (.tup []) ((d,ebool false)::env) fun env'=>ih env' h (nofp::fps) K))
     | .tup []=>dstOk N o.dst (putK o.dst (.tup []) (env) fun env'=>ih env' h (nofp::fps) K)
     | _=>False
   | some (j,false)=>
    match gdst all j with
    | none=>False
    | some d=>
     match lk env d with
     | .p (.imm (.bool b))=>bgo b (dstOk N o.dst (putK o.dst (.tup []) ((d,ebool true)::env) fun env'=>ih env' h (nofp::fps) K))
      (dstOk N o.dst (aop P T o ((d,ebool false)::env) h fun x h' fp=>putK o.dst x ((d,ebool false)::env) fun env'=>ih env' h' (fp::fps) K))
     | .tup []=>dstOk N o.dst (putK o.dst (.tup []) (env) fun env'=>ih env' h (nofp::fps) K)
     | _=>False) l
theorem aops_nil{P T N all env h fps K}:aops P T N all [] env h fps K=K env h fps:=rfl
theorem aops_cons{P T N all o r env h fps K}:aops P T N all (o::r) env h fps K =
 (
  match o.guard with
  | none=>dstOk N o.dst (aop P T o (env) h fun x h' fp=>putK o.dst x (env) fun env'=>aops P T N all r env' h' (fp::fps) K)
  | some (j,true)=>
   match gdst all j with
   | none=>False
   | some d=>
    match lk env d with
    | .p (.imm (.bool b))=>bgo b (dstOk N o.dst (aop P T o ((d,ebool true)::env) h fun x h' fp=>putK o.dst x ((d,ebool true)::env) fun env'=>aops P T N all r env' h' (fp::fps) K))
     (dstOk N o.dst (putK o.dst (.tup []) ((d,ebool false)::env) fun env'=>aops P T N all r env' h (nofp::fps) K))
    | .tup []=>dstOk N o.dst (putK o.dst (.tup []) (env) fun env'=>aops P T N all r env' h (nofp::fps) K)
    | _=>False
  | some (j,false)=>
   match gdst all j with
   | none=>False
   | some d=>
    match lk env d with
    | .p (.imm (.bool b))=>bgo b (dstOk N o.dst (putK o.dst (.tup []) ((d,ebool true)::env) fun env'=>aops P T N all r env' h (nofp::fps) K))
     (dstOk N o.dst (aop P T o ((d,ebool false)::env) h fun x h' fp=>putK o.dst x ((d,ebool false)::env) fun env'=>aops P T N all r env' h' (fp::fps) K))
    | .tup []=>dstOk N o.dst (putK o.dst (.tup []) (env) fun env'=>aops P T N all r env' h (nofp::fps) K)
    | _=>False):=rfl
theorem dstOk_out{N:Nat}{d:Option Tmp}{A:Prop}(h:dstOk N d A):dstIn N d∧A:=by
 unfold dstOk at h
 split at h
 ·rename_i t
  obtain⟨h1,h2⟩:=bgo_outT h
  refine⟨fun s hs=>?_,h2⟩
  have e:t=s:=Option.some.inj hs
  subst e
  exact Nat.le_of_ble_eq_true h1
 ·exact⟨fun s hs=>(by cases hs),h⟩
inductive Tr(P:Program)(N:Nat)(all:List Oper):List Oper→(Nat→EV)→Hp→List (EV×Hp×Fp)→(Nat→EV)→Hp→Prop
 | nil (E H):Tr P N all [] E H [] E H
 | run {o r E H x H1 rd wr steps E' H'} (hd:dstIn N o.dst) (hg:GTake all o E) (ho:OpOkI P o E H x H1 rd wr) (ht:Tr P N all r (putF o.dst x E) H1 steps E' H'):Tr P N all (o::r) E H ((x,H1,(rd,wr))::steps) E' H'
 | pass {o r E H steps E' H'} (hd:dstIn N o.dst) (hg:GPass all o E) (ht:Tr P N all r (putF o.dst (.tup []) E) H steps E' H'):Tr P N all (o::r) E H ((.tup [],H,([],[]))::steps) E' H'
theorem wp_exists{P:Program}{o:Oper}{a:Act}{w:World}{ro:Option Nat}{next:Act→World→Prop}(h:o.wpIn (fenceOf ro) 0 P a w next fun _ _ _=>False):∃ a' w',next a' w':=by
 have hroom:∀ m,(fenceOf ro).room m:=fun m=>by intro k hk;simp[fenceOf,Fence.wide] at hk
 replace h:=h.2
 generalize (o.semAt (fenceOf ro).round a.eval).run P w=r at h
 cases r with
 | ok n w'=>
  cases n <;> simp only[Oper.uponIn] at h
  case value v=>exact⟨_,_,h⟩
  case skip=>exact⟨_,_,h⟩
  case defer d=>exact⟨_,_,h⟩
  case enter f args=>
   obtain⟨e,w'',fr,hR,_⟩:=h.2.2 [] (hroom _)
   cases e with
   | returned v=>exact⟨_,_,hR⟩
   | panicked c=>exact hR.elim
   | outgrown=>obtain⟨_,_,hq⟩:=hR;exact hq.elim
  case row row args=>
   obtain⟨v,w'',hR,_⟩:=h.2 (default:Frame) [] (hroom _)
   exact⟨_,_,hR⟩
  case round l f tmps asg body=>
   obtain⟨e,w'',hR,_⟩:=h.2.2 (default:Frame) [] (hroom _)
   cases e with
   | returned v=>exact⟨_,_,hR⟩
   | panicked c=>exact hR.elim
   | outgrown=>obtain⟨_,_,hq⟩:=hR;exact hq.elim
 | halt x w'=>cases x <;> simp only[Oper.uponIn] at h
theorem lk_same{env:Env}{d:Tmp}{x:EV}(h:lk env d=x):lk ((d,x)::env)=lk env:=by
 funext t
 rw[lk_cons]
 by_cases ht:t=d
 ·subst ht;rw[if_pos rfl,h]
 ·rw[if_neg ht]
theorem ovr_self{wr:List Nat}{H H1:Hp}(h:∀ k,k∉wr→H1 k=H k):ovr wr H1 H=H1:=by
 funext k
 simp only[ovr]
 split
 ·rfl
 ·rename_i hk;exact(h k hk).symm
theorem step_run{P:Program}{T:Tab}(hT:TabOk P T){N:Nat}{Γ:Ctx}(hN:Γ.ntmps=N){all:List Oper}{o:Oper}{env:Env}{h:AHp}(hd:dstIn N o.dst){K:Kt}(hh:aop P T o env h K){g a w}(hs:SR Γ g (lk env) (hp h) a w):
 ∃ x h' rd wr,OpOkI P o (lk env) (hp h) x (hp h') rd wr∧K x h' (rd,wr) ∧
  ∀ (n:Nat) (next:Act→World→Prop) (Q:Exit→Act→World→Prop),(∀ g' a' w',SR Γ g' (putF o.dst x (lk env)) (hp h') a' w'→next a' w')→o.wpIn Γ.F n P a w next Q:=by
 obtain⟨x,h',rd,wr,hok,hk⟩:=aop_good hT hh g a hs.tmps
 refine⟨x,h',rd,wr,hok,hk,fun n next Q hn=>?_⟩
 refine hok.2.2 Γ.rd g a w (lk env) (hp h) (fun _ _=>rfl) (fun _ _=>rfl) hs.tmps hs.inv n next Q fun v g' w' hle hi hf hx=>?_
 rw[ovr_self hok.1] at hle hi hf hx
 exact hn g' _ w' (hs.put (hN▸hd) hle hi hf hx)
theorem SR.pass{Γ g env H a w}(h:SR Γ g env H a w){d:Option Tmp}(hd:dstIn Γ.ntmps d):SR Γ g (putF d (.tup []) env) H (a.put d undef) w:=
 h.put hd (GLe.refl _ _) h.inv (Fr.start g H w 0 [] none) (.tup [] [] rfl (by intro i v x hv;simp at hv))
theorem aops_tr{P:Program}{T:Tab}(hT:TabOk P T){N:Nat}{Γ:Ctx}(hN:Γ.ntmps=N){all:List Oper}:∀ (l:List Oper) (env:Env) (h:AHp) (fps:List Fp) (K:Kr),
 aops P T N all l env h fps K→∀ (g:Gh) (a:Act) (w:World),SR Γ g (lk env) (hp h) a w →
 ∃ steps env' h',Tr P N all l (lk env) (hp h) steps (lk env') (hp h')∧K env' h' ((steps.map (·.2.2)).reverse++fps)∧∃ g' a' w',SR Γ g' (lk env') (hp h') a' w':=by
 intro l
 induction l with
 | nil=>
  intro env h fps K hh g a w hs
  exact⟨[],env,h,.nil _ _,by simpa[aops_nil] using hh,g,a,w,hs⟩
 | cons o r ih=>
  intro env h fps K hh g a w hs
  have take:∀ (env1:Env),lk env1=lk env→GTake0 all o (lk env1)→dstOk N o.dst (aop P T o env1 h fun x h' fp=>putK o.dst x env1 fun env'=>aops P T N all r env' h' (fp::fps) K) →
   ∃ steps env' h',Tr P N all (o::r) (lk env) (hp h) steps (lk env') (hp h')∧K env' h' ((steps.map (·.2.2)).reverse++fps)∧∃ g' a' w',SR Γ g' (lk env') (hp h') a' w':=by
   intro env1 he hg hh
   obtain⟨hd,hh⟩:=dstOk_out hh
   rw[← he] at hs ⊢
   replace hg:GTake all o (lk env1):=⟨hg,aop_nodefer hh⟩
   obtain⟨x,h',rd,wr,hok,hk,hwp⟩:=step_run hT hN (all:=all) hd hh hs
   replace hk:=putK_out hk
   obtain⟨a',w',g',hs'⟩:∃ a' w' g',SR Γ g' (putF o.dst x (lk env1)) (hp h') a' w':=by
    obtain⟨a',w',h⟩:=wp_exists (ro:=Γ.rd) (hwp 0 (fun a' w'=>∃ g',SR Γ g' (putF o.dst x (lk env1)) (hp h') a' w') (fun _ _ _=>False) fun g' a' w' h=>⟨g',h⟩)
    obtain⟨g',h⟩:=h
    exact⟨a',w',g',h⟩
   rw[← lk_put] at hs'
   obtain⟨steps,env',h'',ht,hK,he⟩:=ih _ h' _ K hk g' a' w' hs'
   rw[lk_put] at ht
   exact⟨(x,hp h',(rd,wr))::steps,env',h'',.run hd hg hok ht,by simpa[List.append_assoc] using hK,he⟩
  have pass:∀ (env1:Env),lk env1=lk env→GPass all o (lk env1)→dstOk N o.dst (putK o.dst (.tup []) env1 fun env'=>aops P T N all r env' h (nofp::fps) K) →
   ∃ steps env' h',Tr P N all (o::r) (lk env) (hp h) steps (lk env') (hp h')∧K env' h' ((steps.map (·.2.2)).reverse++fps)∧∃ g' a' w',SR Γ g' (lk env') (hp h') a' w':=by
   intro env1 he hg hh
   obtain⟨hd,hh⟩:=dstOk_out hh
   rw[← he] at hs ⊢
   replace hh:=putK_out hh
   have hs':=hs.pass (d:=o.dst) (hN▸hd)
   rw[← lk_put] at hs'
   obtain⟨steps,env',h'',ht,hK,he⟩:=ih _ h _ K hh g _ w hs'
   rw[lk_put] at ht
   exact⟨(.tup [],hp h,([],[]))::steps,env',h'',.pass hd hg ht,by simpa[List.append_assoc,nofp] using hK,he⟩
  rw[aops_cons] at hh
  split at hh
  ·rename_i hg
   exact take env rfl (by unfold GTake0;rw[hg];trivial) hh
  ·rename_i j hg
   split at hh
   ·exact hh.elim
   ·rename_i d hd
    split at hh
    ·rename_i b hb
     rcases bgo_out hh with ⟨rfl,hh⟩ | ⟨rfl,hh⟩
     ·exact take _ (lk_same hb) (by unfold GTake0;rw[hg];exact⟨d,hd,by rw[lk_same hb];exact hb⟩) hh
     ·exact pass _ (lk_same hb) ⟨j,true,d,hg,hd,.inl (by rw[lk_same hb];exact hb)⟩ hh
    ·rename_i hb
     exact pass env rfl ⟨j,true,d,hg,hd,.inr hb⟩ hh
    ·exact hh.elim
  ·rename_i j hg
   split at hh
   ·exact hh.elim
   ·rename_i d hd
    split at hh
    ·rename_i b hb
     rcases bgo_out hh with ⟨rfl,hh⟩ | ⟨rfl,hh⟩
     ·exact pass _ (lk_same hb) ⟨j,false,d,hg,hd,.inl (by rw[lk_same hb];exact hb)⟩ hh
     ·exact take _ (lk_same hb) (by unfold GTake0;rw[hg];exact⟨d,hd,by rw[lk_same hb];exact hb⟩) hh
    ·rename_i hb
     exact pass env rfl ⟨j,false,d,hg,hd,.inr hb⟩ hh
    ·exact hh.elim
theorem tr_text{P:Program}{N:Nat}{Γ:Ctx}(hN:Γ.ntmps=N){ops:Array Oper}{l:List Oper}{E:Nat→EV}{H:Hp}{steps E' H'}(ht:Tr P N ops.toList l E H steps E' H'):∀ (i:Nat) (g:Gh) (a:Act) (w:World),ops.toList.drop i=l→SR Γ g E H a w →
 ∀ (Q:Exit→Act→World→Prop),(∀ g' a' w',SR Γ g' E' H' a' w'→Q .normal a' w')→∀ n,wpOpsIn Γ.F n P ops Q (List.range' i l.length) a w:=by
 have at0:∀ {i:Nat} {o:Oper} {r:List Oper},ops.toList.drop i=o::r→ops[i]?=some o∧ops.toList.drop (i+1)=r:=fun {i o r} hl=>by
  refine⟨?_,by rw[← List.drop_drop,hl];rfl⟩
  have:(ops.toList.drop i)[0]?=some o:=by rw[hl];rfl
  rw[List.getElem?_drop] at this
  simpa using this
 induction ht with
 | nil E H=>exact fun i g a w _ hs Q hQ n=>hQ g a w hs
 | run hd hg ho _ ih=>
  intro i g a w hl hs Q hQ n
  obtain⟨hoi,hr⟩:=at0 hl
  rw[List.length_cons,List.range'_succ,wpOpsIn_cons]
  unfold wpOpIn
  rw[hoi]
  dsimp only
  rw[if_pos (GTake.wanted hg hs.tmps)]
  refine ho.2.2 Γ.rd g a w _ _ (fun _ _=>rfl) (fun _ _=>rfl) hs.tmps hs.inv n _ _ fun v g' w' hle hi hf hx=>?_
  have e:=ovr_self ho.1
  rw[e] at hle hi hf hx
  exact ih (i+1) g' _ w' hr (hs.put (hN▸hd) hle hi hf hx) Q hQ n
 | pass hd hg _ ih=>
  intro i g a w hl hs Q hQ n
  obtain⟨hoi,hr⟩:=at0 hl
  rw[List.length_cons,List.range'_succ,wpOpsIn_cons]
  unfold wpOpIn
  rw[hoi]
  dsimp only
  rw[GPass.wanted hg hs.tmps]
  simp only[Bool.false_eq_true,if_false]
  exact⟨fun _ _=>trivial,ih (i+1) g _ w hr (hs.pass (hN▸hd)) Q hQ n⟩
def looks(all:List Oper)(o:Oper):List Tmp:=opTmps o.op++(match o.guard with | some (g,_)=>(gdst all g).toList | none=>[])
def edgesOf(o:Oper):List Nat:=(o.after.toList.filter fun e=>Region.binds .any e).map (·.on)
def ancMask(acc:List Nat)(es:List Nat):Nat:=es.foldl (fun m e=>m ||| 1 <<< e ||| acc.getD e 0) 0
def ancAcc:List Oper→List Nat→List Nat
 | [],acc=>acc
 | o::r,acc=>ancAcc r (acc++[ancMask acc (edgesOf o)])
def hasN(l:List Nat)(k:Nat):Bool:=l.any fun x=>Nat.beq x k
def sameD:Option Tmp→Option Tmp→Bool
 | some a,some b=>Nat.beq a b
 | _,_=>false
def confl(all:List Oper)(a:Oper)(fa:Fp)(b:Oper)(fb:Fp):Bool:=
 sameD a.dst b.dst||(match a.dst with | some d=>hasN (looks all b) d | none=>false)||(match b.dst with | some d=>hasN (looks all a) d | none=>false) ||
 fa.2.any (fun k=>hasN fb.1 k||hasN fb.2 k)||fb.2.any (fun k=>hasN fa.1 k)
def okPairs(all:List Oper)(o:Oper)(f:Fp)(m:Nat):Nat→List (Oper×Fp)→Bool
 | _,[]=>true
 | i,(a,fa)::r=>(!confl all a fa o f||m.testBit i)&&okPairs all o f m (i+1) r
def okGo(all:List Oper):List (Oper×Fp)→Nat→List (Oper×Fp)→List Nat→Bool
 | _,_,[],_=>true
 | seen,j,(o,f)::r,m::ms=>(edgesOf o).all (fun e=>Nat.blt e j)&&okPairs all o f m 0 seen&&okGo all (seen++[(o,f)]) (j+1) r ms
 | _,_,_,[]=>false
def okOrder(all:List Oper)(fps:List Fp):Bool:=Nat.beq fps.length all.length&&okGo all [] 0 (all.zip fps) (ancAcc all [])
theorem hasN_mem{l:List Nat}{k:Nat}(h:k∈l):hasN l k=true:=List.any_eq_true.2 ⟨k,h,Nat.beq_refl k⟩
theorem ancMask_bits{acc:List Nat}{G:Nat→Prop}(ha:∀ i m,acc[i]?=some m→G i→∀ b,m.testBit b=true→G b):∀ (es:List Nat) (m0:Nat),(∀ e∈es,G e)→(∀ b,m0.testBit b=true→G b) →
 ∀ b,(es.foldl (fun m e=>m ||| 1 <<< e ||| acc.getD e 0) m0).testBit b=true→G b
 | [],m0,_,h0,b,hb=>h0 b hb
 | e::r,m0,he,h0,b,hb=>by
  refine ancMask_bits ha r _ (fun x hx=>he x (by simp[hx])) (fun b hb=>?_) b hb
  rw[Nat.testBit_or,Nat.testBit_or,Bool.or_eq_true,Bool.or_eq_true] at hb
  rcases hb with (hb | hb) | hb
  ·exact h0 b hb
  ·rw[Nat.one_shiftLeft,Nat.testBit_two_pow] at hb
   have:e=b:=odt hb
   exact this▸he e (by simp)
  ·rw[List.getD_eq_getElem?_getD] at hb
   cases hq:acc[e]? with
   | none=>rw[hq] at hb;simp at hb
   | some m=>rw[hq] at hb;exact ha e m hq (he e (by simp)) b hb
theorem ancAcc_get:∀ (l:List Oper) (acc:List Nat) (i:Nat),i<acc.length→(ancAcc l acc)[i]?=acc[i]?
 | [],acc,i,_=>rfl
 | o::r,acc,i,h=>by rw[ancAcc,ancAcc_get r _ i (by simp;omega),List.getElem?_append_left h]
theorem ancAcc_spec{G:Nat→Prop}:∀ (l:List Oper) (acc:List Nat),(∀ i m,acc[i]?=some m→G i→∀ b,m.testBit b=true→G b)→(∀ i o,l[i]?=some o→G (acc.length+i)→∀ e∈edgesOf o,G e) →
 ∀ (j:Nat) (o:Oper) (m:Nat),l[j]?=some o→(ancAcc l acc)[acc.length+j]?=some m→(∀ e∈edgesOf o,G e)→∀ b,m.testBit b=true→G b
 | [],acc,_,_,j,o,m,h,_,_=>by simp at h
 | o'::r,acc,ha,hc,j,o,m,ho,hm,he=>by
  have hnew:∀ (he':∀ e∈edgesOf o',G e) b,(ancMask acc (edgesOf o')).testBit b=true→G b:=fun he' b hb=>ancMask_bits ha (edgesOf o') 0 he' (by intro b hb;simp at hb) b hb
  cases j with
  | zero=>
   simp at ho;subst ho
   rw[ancAcc,Nat.add_zero,ancAcc_get _ _ _ (by simp),List.getElem?_append_right (Nat.le_refl _)] at hm
   simp at hm;subst hm
   exact hnew he
  | succ j=>
   simp at ho
   rw[ancAcc] at hm
   refine ancAcc_spec r (acc++[ancMask acc (edgesOf o')]) (fun i m hi hG b hb=>?_) (fun i o hi hG=>hc (i+1) o (by simpa using hi) (by simpa[Nat.add_assoc,Nat.add_comm 1] using hG)) j o m ho (by simpa[Nat.add_assoc,Nat.add_comm 1] using hm) he
   rcases Nat.lt_or_ge i acc.length with h' | h'
   ·rw[List.getElem?_append_left h'] at hi
    exact ha i m hi hG b hb
   ·rw[List.getElem?_append_right h'] at hi
    have:i=acc.length:=by
     rcases Nat.lt_or_ge (i - acc.length) 1 with h2 | h2
     ·omega
     ·rw[List.getElem?_eq_none (by simpa using h2)] at hi;cases hi
    subst this
    simp at hi;subst hi
    exact hnew (hc 0 o' rfl (by simpa using hG)) b hb
theorem okPairs_spec{all:List Oper}{o:Oper}{f:Fp}{m:Nat}:∀ (l:List (Oper×Fp)) (k:Nat),okPairs all o f m k l=true→∀ i a fa,l[i]?=some (a,fa)→confl all a fa o f=true→m.testBit (k+i)=true
 | [],k,_,i,a,fa,h,_=>by simp at h
 | (a',fa')::r,k,hk,i,a,fa,h,hc=>by
  simp only[okPairs,Bool.and_eq_true] at hk
  cases i with
  | zero=>
   simp at h
   obtain⟨rfl,rfl⟩:=h
   rw[hc] at hk
   simpa using hk.1
  | succ i=>
   simp at h
   have:=okPairs_spec r (k+1) hk.2 i a fa h hc
   rwa [show k+(i+1)=k+1+i by omega]
theorem okGo_spec{all:List Oper}:∀ (l:List (Oper×Fp)) (seen:List (Oper×Fp)) (j:Nat) (ms:List Nat),okGo all seen j l ms=true→∀ i o f,l[i]?=some (o,f)→∃ m,ms[i]?=some m∧(∀ e∈edgesOf o,e<j+i)∧okPairs all o f m 0 (seen++l.take i)=true
 | [],seen,j,ms,_,i,o,f,h=>by simp at h
 | _::_,seen,j,[],hk,_,_,_,_=>by simp[okGo] at hk
 | (o',f')::r,seen,j,m::ms,hk,i,o,f,h=>by
  simp only[okGo,Bool.and_eq_true] at hk
  cases i with
  | zero=>
   simp at h
   obtain⟨rfl,rfl⟩:=h
   refine⟨m,rfl,fun e he=>?_,by simpa using hk.1.2⟩
   have:=List.all_eq_true.1 hk.1.1 e he
   exact Nat.le_of_ble_eq_true this
  | succ i=>
   simp at h
   obtain⟨m',h1,h2,h3⟩:=okGo_spec r (seen++[(o',f')]) (j+1) ms hk.2 i o f h
   exact⟨m',by simpa using h1,fun e he=>by have:=h2 e he;omega,by simpa using h3⟩
theorem okOrder_spec{all:List Oper}{fps:List Fp}(h:okOrder all fps=true):fps.length=all.length∧∀ (j:Nat) (o:Oper) (f:Fp),all[j]?=some o→fps[j]?=some f→(∀ e∈edgesOf o,e<j) ∧
 ∀ (i:Nat) (a:Oper) (fa:Fp),i<j→all[i]?=some a→fps[i]?=some fa→confl all a fa o f=true→∀ G:Nat→Prop,(∀ i o,all[i]?=some o→G i→∀ e∈edgesOf o,G e)→(∀ e∈edgesOf o,G e)→G i:=by
 unfold okOrder at h
 rw[Bool.and_eq_true] at h
 have hl:=nbt h.1
 refine⟨hl,fun j o f ho hf=>?_⟩
 have hz:(all.zip fps)[j]?=some (o,f):=by simp[List.getElem?_zip_eq_some,ho,hf]
 obtain⟨m,h1,h2,h3⟩:=okGo_spec _ _ _ _ h.2 j o f hz
 refine⟨fun e he=>by simpa using h2 e he,fun i a fa hij ha hfa hc G hcl he=>?_⟩
 have hp:([]++(all.zip fps).take j)[i]?=some (a,fa):=by
  rw[List.nil_append,List.getElem?_take,if_pos hij]
  simp[List.getElem?_zip_eq_some,ha,hfa]
 have hb:=okPairs_spec _ 0 h3 i a fa hp hc
 rw[Nat.zero_add] at hb
 exact ancAcc_spec (G:=G) all [] (by intro i m hi;simp at hi) (fun i o hi hG=>hcl i o hi (by simpa using hG)) j o m ho (by simpa using h1) he i hb
section
variable (E0:Nat→EV) (H0:Hp) (ds:Nat→Option Tmp) (xs:Nat→EV) (wr:Nat→List Nat) (Hs:Nat→Hp) (D:Nat→Bool)
def envD:Nat→(Nat→EV)
 | 0=>E0
 | i+1=>if D i then putF (ds i) (xs i) (envD i) else envD i
def hpD:Nat→Hp
 | 0=>H0
 | i+1=>if D i then ovr (wr i) (Hs (i+1)) (hpD i) else hpD i
end
theorem putF_at{d:Option Tmp}{x:EV}{E:Nat→EV}{t:Tmp}:putF d x E t=if d=some t then x else E t:=by
 cases d with
 | none=>simp[putF]
 | some s=>
  simp only[putF,upd]
  by_cases h:t=s
  ·subst h;simp
  ·rw[if_neg h,if_neg (by simp;exact fun e=>h e.symm)]
section
variable {E0:Nat→EV} {H0:Hp} {ds:Nat→Option Tmp} {xs:Nat→EV} {wr:Nat→List Nat} {Hs:Nat→Hp} {D:Nat→Bool}
theorem envD_same{E:Nat→(Nat→EV)}(h0:E 0=E0){n:Nat}(hs:∀ i,i<n→E (i+1)=putF (ds i) (xs i) (E i)){t:Tmp}:∀ {i:Nat},i≤n→(∀ q,q<i→ds q=some t→D q=true)→envD E0 ds xs D i t=E i t
 | 0,_,_=>by rw[h0];rfl
 | i+1,hn,h=>by
  have ih:=envD_same h0 hs (i:=i) (by omega) (fun q hq=>h q (by omega))
  rw[hs i (by omega),envD,putF_at]
  by_cases hd:ds i=some t
  ·rw[if_pos (h i (by omega) hd),putF_at,if_pos hd,if_pos hd]
  ·rw[if_neg hd]
   split
   ·rw[putF_at,if_neg hd];exact ih
   ·exact ih
theorem envD_later{t:Tmp}{i:Nat}:∀ {m:Nat},i≤m→(∀ q,i≤q→q<m→ds q=some t→D q=false)→envD E0 ds xs D m t=envD E0 ds xs D i t
  | 0, h, _ => by have : i = 0 := by omega
                  subst this;rfl
  | m+1,h,hq=>by
    rcases Nat.lt_or_ge i (m+1) with h1 | h1
    ·have ih:=envD_later (t:=t) (i:=i) (m:=m) (by omega) (fun q h2 h3=>hq q h2 (by omega))
     rw[envD]
     split
     ·rename_i hD
      rw[putF_at]
      split
      ·rename_i hd
       rw[hq m (by omega) (by omega) hd] at hD;cases hD
      ·exact ih
     ·exact ih
    ·have:i=m+1:=by omega
     subst this;rfl
theorem hpD_same{k:Nat}(h0:Hs 0=H0){n:Nat}(hs:∀ i,i<n→∀ k,k∉wr i→Hs (i+1) k=Hs i k):∀ {i:Nat},i≤n→(∀ q,q<i→k∈wr q→D q=true)→hpD H0 wr Hs D i k=Hs i k
 | 0,_,_=>by rw[h0];rfl
 | i+1,hn,h=>by
  have ih:=hpD_same h0 hs (i:=i) (by omega) (fun q hq=>h q (by omega))
  rw[hpD]
  by_cases hd:k∈wr i
  ·rw[if_pos (h i (by omega) hd)];simp[ovr,hd]
  ·rw[hs i (by omega) k hd]
   split
   ·simp only[ovr,if_neg hd];exact ih
   ·exact ih
theorem hpD_later{k:Nat}{i:Nat}:∀ {m:Nat},i≤m→(∀ q,i≤q→q<m→k∈wr q→D q=false)→hpD H0 wr Hs D m k=hpD H0 wr Hs D i k
  | 0, h, _ => by have : i = 0 := by omega
                  subst this;rfl
  | m+1,h,hq=>by
    rcases Nat.lt_or_ge i (m+1) with h1 | h1
    ·have ih:=hpD_later (k:=k) (i:=i) (m:=m) (by omega) (fun q h2 h3=>hq q h2 (by omega))
     rw[hpD]
     split
     ·rename_i hD
      by_cases hd:k∈wr m
      ·rw[hq m (by omega) (by omega) hd] at hD;cases hD
      ·simp only[ovr,if_neg hd];exact ih
     ·exact ih
    ·have:i=m+1:=by omega
     subst this;rfl
theorem envD_add{D':Nat→Bool}{n j:Nat}(hj:j<n)(hD:D j=false)(hD1:D' j=true)(hD2:∀ i,i≠j→D' i=D i)(hl:∀ q t,j<q→q<n→ds j=some t→ds q=some t→D q=false):
 envD E0 ds xs D' n=putF (ds j) (xs j) (envD E0 ds xs D n):=by
 funext t
 rw[putF_at]
 by_cases hd:ds j=some t
 ·rw[if_pos hd,envD_later (i:=j+1) (m:=n) (by omega) (fun q h1 h2 h3=>by rw[hD2 q (by omega)];exact hl q t (by omega) h2 hd h3)]
  simp[envD,putF_at,hd,hD1]
 ·rw[if_neg hd]
  have:∀ i,envD E0 ds xs D' i t=envD E0 ds xs D i t:=by
   intro i
   induction i with
   | zero=>rfl
   | succ i ih=>
    simp only[envD]
    by_cases hi:i=j
    ·subst hi
     simp only[hD1,hD,if_true,Bool.false_eq_true,if_false,putF_at,if_neg hd]
     exact ih
    ·rw[hD2 i hi]
     split
     ·rw[putF_at,putF_at,ih]
     ·exact ih
  exact this n
theorem hpD_add{D':Nat→Bool}{n j:Nat}(hj:j<n)(hD:D j=false)(hD1:D' j=true)(hD2:∀ i,i≠j→D' i=D i)(hl:∀ q k,j<q→q<n→k∈wr j→k∈wr q→D q=false):
 hpD H0 wr Hs D' n=ovr (wr j) (Hs (j+1)) (hpD H0 wr Hs D n):=by
 funext k
 by_cases hd:k∈wr j
 ·rw[hpD_later (i:=j+1) (m:=n) (by omega) (fun q h1 h2 h3=>by rw[hD2 q (by omega)];exact hl q k (by omega) h2 hd h3)]
  simp[hpD,ovr,hd,hD1]
 ·have:∀ i,hpD H0 wr Hs D' i k=hpD H0 wr Hs D i k:=by
   intro i
   induction i with
   | zero=>rfl
   | succ i ih=>
    simp only[hpD]
    by_cases hi:i=j
    ·subst hi
     simp only[hD1,hD,if_true,Bool.false_eq_true,if_false,ovr,if_neg hd]
     exact ih
    ·rw[hD2 i hi]
     split
     ·simp only[ovr]
      split
      ·rfl
      ·exact ih
     ·exact ih
  rw[this n]
  simp[ovr,hd]
end
structure Ix(P:Program)(N:Nat)(all:List Oper)(n:Nat)(E:Nat→(Nat→EV))(Hs:Nat→Hp)(xs:Nat→EV)(fp:Nat→Fp):Prop where
 step:∀ i o,i<n→all[i]?=some o→E (i+1)=putF o.dst (xs i) (E i)∧dstIn N o.dst ∧
  ((GTake all o (E i)∧OpOkI P o (E i) (Hs i) (xs i) (Hs (i+1)) (fp i).1 (fp i).2)∨(GPass all o (E i)∧xs i=.tup []∧Hs (i+1)=Hs i∧fp i=([],[])))
theorem Tr.ix{P:Program}{N:Nat}{all:List Oper}{l:List Oper}{E H steps E' H'}(h:Tr P N all l E H steps E' H'):
 steps.length=l.length∧∃ (Es:Nat→(Nat→EV)) (Hs:Nat→Hp) (xs:Nat→EV) (fp:Nat→Fp),Es 0=E∧Hs 0=H∧Es l.length=E'∧Hs l.length=H'∧(∀ i s,steps[i]?=some s→fp i=s.2.2) ∧
  ∀ i o,l[i]?=some o→Es (i+1)=putF o.dst (xs i) (Es i)∧dstIn N o.dst ∧
   ((GTake all o (Es i)∧OpOkI P o (Es i) (Hs i) (xs i) (Hs (i+1)) (fp i).1 (fp i).2)∨(GPass all o (Es i)∧xs i=.tup []∧Hs (i+1)=Hs i∧fp i=([],[]))):=by
 induction h with
 | nil E H=>exact⟨rfl,fun _=>E,fun _=>H,fun _=>.dead,fun _=>([],[]),rfl,rfl,rfl,rfl,by intro i s h;simp at h,by intro i o h;simp at h⟩
 | @run o r E H x H1 rd wr steps E' H' hd hg ho ht ih=>
  obtain⟨hl,Es,Hs,xs,fp,h1,h2,h3,h4,h5,h6⟩:=ih
  refine⟨by simp[hl],fun i=>match i with | 0=>E | i+1=>Es i,fun i=>match i with | 0=>H | i+1=>Hs i,fun i=>match i with | 0=>x | i+1=>xs i,fun i=>match i with | 0=>(rd,wr) | i+1=>fp i,rfl,rfl,h3,h4,fun i s hs=>?_,fun i o' ho'=>?_⟩
  ·cases i with
   | zero=>simp at hs;subst hs;rfl
   | succ i=>simp at hs;exact h5 i s hs
  ·cases i with
   | zero=>
    simp at ho';subst ho'
    dsimp only
    rw[h1,h2]
    exact⟨rfl,hd,.inl ⟨hg,ho⟩⟩
   | succ i=>simp at ho';exact h6 i o' ho'
 | @pass o r E H steps E' H' hd hg ht ih=>
  obtain⟨hl,Es,Hs,xs,fp,h1,h2,h3,h4,h5,h6⟩:=ih
  refine⟨by simp[hl],fun i=>match i with | 0=>E | i+1=>Es i,fun i=>match i with | 0=>H | i+1=>Hs i,fun i=>match i with | 0=>.tup [] | i+1=>xs i,fun i=>match i with | 0=>([],[]) | i+1=>fp i,rfl,rfl,h3,h4,fun i s hs=>?_,fun i o' ho'=>?_⟩
  ·cases i with
   | zero=>simp at hs;subst hs;rfl
   | succ i=>simp at hs;exact h5 i s hs
  ·cases i with
   | zero=>
    simp at ho';subst ho'
    dsimp only
    rw[h1,h2]
    exact⟨rfl,hd,.inr ⟨hg,rfl,rfl,rfl⟩⟩
   | succ i=>simp at ho';exact h6 i o' ho'
theorem sameD_true{a b:Option Tmp}{t:Tmp}(ha:a=some t)(hb:b=some t):sameD a b=true:=by subst ha;subst hb;exact Nat.beq_refl t
theorem confl_dst{all:List Oper}{a b:Oper}{fa fb:Fp}{t:Tmp}(ha:a.dst=some t)(hb:b.dst=some t):confl all a fa b fb=true:=by simp[confl,sameD_true ha hb]
theorem confl_look{all:List Oper}{a b:Oper}{fa fb:Fp}{t:Tmp}(ha:a.dst=some t)(hb:t∈looks all b):confl all a fa b fb=true:=by simp[confl,ha,hasN_mem hb]
theorem confl_look'{all:List Oper}{a b:Oper}{fa fb:Fp}{t:Tmp}(hb:b.dst=some t)(ha:t∈looks all a):confl all a fa b fb=true:=by simp[confl,hb,hasN_mem ha]
theorem confl_wr{all:List Oper}{a b:Oper}{fa fb:Fp}{k:Nat}(ha:k∈fa.2)(hb:k∈fb.1∨k∈fb.2):confl all a fa b fb=true:=by
 have:fa.2.any (fun k=>hasN fb.1 k||hasN fb.2 k)=true:=List.any_eq_true.2 ⟨k,ha,by rcases hb with hb | hb <;> simp[hasN_mem hb]⟩
 simp[confl,this]
theorem confl_rd{all:List Oper}{a b:Oper}{fa fb:Fp}{k:Nat}(ha:k∈fa.1)(hb:k∈fb.2):confl all a fa b fb=true:=by
 have:fb.2.any (fun k=>hasN fa.1 k)=true:=List.any_eq_true.2 ⟨k,hb,hasN_mem ha⟩
 simp[confl,this]
theorem drawn_any{P:Program}{Γ:Ctx}{N:Nat}(hN:Γ.ntmps=N){ops:Array Oper}{Q:Exit→Act→World→Prop}{Es:Nat→(Nat→EV)}{Hs:Nat→Hp}{xs:Nat→EV}{fp:Nat→Fp}
 (hix:∀ i o,ops.toList[i]?=some o→Es (i+1)=putF o.dst (xs i) (Es i)∧dstIn N o.dst ∧
  ((GTake ops.toList o (Es i)∧OpOkI P o (Es i) (Hs i) (xs i) (Hs (i+1)) (fp i).1 (fp i).2)∨(GPass ops.toList o (Es i)∧xs i=.tup []∧Hs (i+1)=Hs i∧fp i=([],[]))))
 (hord:∀ (j:Nat) (o:Oper),ops.toList[j]?=some o→(∀ e∈edgesOf o,e<j) ∧
  ∀ (i:Nat) (a:Oper),i<j→ops.toList[i]?=some a→confl ops.toList a (fp i) o (fp j)=true→∀ G:Nat→Prop,(∀ i o,ops.toList[i]?=some o→G i→∀ e∈edgesOf o,G e)→(∀ e∈edgesOf o,G e)→G i)
 (hQ:∀ g' a' w',SR Γ g' (Es ops.size) (Hs ops.size) a' w'→Q .normal a' w'):
 ∀ (fuel:Nat) (listed:Array Bool),listed.size=ops.size→(∀ i o,ops.toList[i]?=some o→listed.getD i false=true→∀ e∈edgesOf o,listed.getD e false=true)→listed.toList.count false≤fuel →
  ∀ g a w,SR Γ g (envD (Es 0) (fun i=>match ops.toList[i]? with | some o=>o.dst | none=>none) xs (fun i=>listed.getD i false) ops.size) (hpD (Hs 0) (fun i=>(fp i).2) Hs (fun i=>listed.getD i false) ops.size) a w→∀ n,wpAnyIn Γ.F n P .any ops Q fuel listed a w:=by
 have hsz:ops.toList.length=ops.size:=by simp
 have getops:∀ i,i<ops.size→∃ o,ops.toList[i]?=some o:=fun i hi=>⟨ops.toList[i],List.getElem?_eq_getElem (by simpa using hi)⟩
 have hE:∀ i,i<ops.size→Es (i+1)=putF ((fun i=>match ops.toList[i]? with | some o=>o.dst | none=>none) i) (xs i) (Es i):=fun i hi=>by
  obtain⟨o,ho⟩:=getops i hi
  simp only[ho];exact(hix i o ho).1
 have hH:∀ i,i<ops.size→∀ k,k∉(fp i).2→Hs (i+1) k=Hs i k:=fun i hi k hk=>by
  obtain⟨o,ho⟩:=getops i hi
  rcases (hix i o ho).2.2 with ⟨_,h⟩ | ⟨_,_,h,_⟩
  ·exact h.1 k hk
  ·rw[h]
 have edge:∀ {o:Oper} {e:Edge},e∈o.after→Region.binds .any e=true→e.on∈edgesOf o:=fun {o e} he hb=>List.mem_map.2 ⟨e,List.mem_filter.2 ⟨by simpa using he,hb⟩,rfl⟩
 have done:∀ (listed:Array Bool),listed.size=ops.size→Region.ready .any ops listed=[]→∀ i,i<ops.size→listed.getD i false=true:=by
  intro listed hl hr i
  induction i using Nat.strongRecOn with
  | _ i ih=>
   intro hi
   cases hd:listed.getD i false with
   | true=>rfl
   | false=>
    obtain⟨o,ho⟩:=getops i hi
    have hm:i∈Region.ready .any ops listed:=by
     rw[mem_ready]
     refine⟨?_,o,by simpa using ho,fun e he hb=>?_⟩
     ·have h1:i<listed.size:=by omega
      simp[h1] at hd ⊢;exact hd
     ·have:=(hord i o ho).1 e.on (edge he hb)
      exact ih e.on this (by omega)
    rw[hr] at hm;cases hm
 intro fuel
 induction fuel with
 | zero=>
  intro listed hl hcl hc g a w hs nn
  have hall:∀ i,i<ops.size→listed.getD i false=true:=fun i hi=>by
   cases hd:listed.getD i false with
   | true=>rfl
   | false=>
    have h1:i<listed.size:=by omega
    have:false∈listed.toList:=by
     have e:listed[i]=false:=by simpa[h1] using hd
     rw[← e];simp
    have:=List.count_pos_iff.2 this
    omega
  have e1:envD (Es 0) (fun i=>match ops.toList[i]? with | some o=>o.dst | none=>none) xs (fun i=>listed.getD i false) ops.size=Es ops.size:=by
   funext t;exact envD_same rfl hE (Nat.le_refl _) fun q hq _=>hall q hq
  have e2:hpD (Hs 0) (fun i=>(fp i).2) Hs (fun i=>listed.getD i false) ops.size=Hs ops.size:=by
   funext k;exact hpD_same rfl hH (Nat.le_refl _) fun q hq _=>hall q hq
  rw[e1,e2] at hs
  refine⟨?_,hQ g a w hs⟩
  cases hr:Region.ready .any ops listed with
  | nil=>rfl
  | cons j r=>
   have hj:j∈Region.ready .any ops listed:=by rw[hr];simp
   obtain⟨h1,o,ho,_⟩:=mem_ready.1 hj
   have hlt:j<ops.size:=by
    rcases Nat.lt_or_ge j ops.size with h' | h'
    ·exact h'
    ·rw[Array.getElem?_eq_none h'] at ho;cases ho
   have:=hall j hlt
   have h2:j<listed.size:=by omega
   simp[h2] at h1 this
   rw[h1] at this;cases this
 | succ fuel ih=>
  intro listed hl hcl hc g a w hs nn
  refine⟨fun hr=>?_,fun j hj=>?_⟩
  ·have hall:=done listed hl hr
   have e1:envD (Es 0) (fun i=>match ops.toList[i]? with | some o=>o.dst | none=>none) xs (fun i=>listed.getD i false) ops.size=Es ops.size:=by
    funext t;exact envD_same rfl hE (Nat.le_refl _) fun q hq _=>hall q hq
   have e2:hpD (Hs 0) (fun i=>(fp i).2) Hs (fun i=>listed.getD i false) ops.size=Hs ops.size:=by
    funext k;exact hpD_same rfl hH (Nat.le_refl _) fun q hq _=>hall q hq
   rw[e1,e2] at hs
   exact hQ g a w hs
  ·obtain⟨hun,o,ho,hedges⟩:=mem_ready.1 hj
   have hjn:j<ops.size:=by
    rcases Nat.lt_or_ge j ops.size with h' | h'
    ·exact h'
    ·rw[Array.getElem?_eq_none h'] at ho;cases ho
   have hjl:j<listed.size:=by omega
   have hDj:listed.getD j false=false:=by simp[hjl] at hun ⊢;exact hun
   have ho':ops.toList[j]?=some o:=by simpa using ho
   have he:∀ e∈edgesOf o,listed.getD e false=true:=fun e he=>by
    obtain⟨x,hx,rfl⟩:=List.mem_map.1 he
    rw[List.mem_filter] at hx
    exact hedges x (by simpa using hx.1) hx.2
   have before:∀ q b,q<j→ops.toList[q]?=some b→confl ops.toList b (fp q) o (fp j)=true→listed.getD q false=true:=fun q b hq hb hc=>(hord j o ho').2 q b hq hb hc (fun i=>listed.getD i false=true) hcl he
   have after:∀ q b,j<q→ops.toList[q]?=some b→confl ops.toList o (fp j) b (fp q)=true→listed.getD q false=false:=fun q b hq hb hc=>by
    cases hd:listed.getD q false with
    | false=>rfl
    | true=>
     have:=(hord q b hb).2 j o hq ho' hc (fun i=>listed.getD i false=true) hcl (hcl q b hb hd)
     rw[hDj] at this;cases this
   have dsat:∀ (q:Nat) (t:Tmp),(match ops.toList[q]? with | some o=>o.dst | none=>none)=some t→∃ b:Oper,ops.toList[q]?=some b∧b.dst=some t:=fun q t h=>by
    cases hq:ops.toList[q]? with
    | none=>rw[hq] at h;cases h
    | some b=>rw[hq] at h;exact⟨b,rfl,h⟩
   have look:∀ t∈looks ops.toList o,envD (Es 0) (fun i=>match ops.toList[i]? with | some o=>o.dst | none=>none) xs (fun i=>listed.getD i false) ops.size t=Es j t:=fun t ht=>by
    rw[envD_later (i:=j) (by omega) fun q h1 h2 h3=>?_,envD_same rfl hE (by omega) fun q h1 h2=>?_]
    ·obtain⟨b,hb,hbt⟩:=dsat q t h2
     exact before q b h1 hb (confl_look hbt ht)
    ·rcases Nat.lt_or_ge j q with h4 | h4
     ·obtain⟨b,hb,hbt⟩:=dsat q t h3
      exact after q b h4 hb (confl_look' hbt ht)
     ·have:q=j:=by omega
      subst this;exact hDj
   have hput:envD (Es 0) (fun i=>match ops.toList[i]? with | some o=>o.dst | none=>none) xs (fun i=>(listed.setIfInBounds j true).getD i false) ops.size =
    putF o.dst (xs j) (envD (Es 0) (fun i=>match ops.toList[i]? with | some o=>o.dst | none=>none) xs (fun i=>listed.getD i false) ops.size):=by
    rw[envD_add (D:=fun i=>listed.getD i false) hjn hDj (by simp[hjl]) (fun i hi=>by simp[Array.getElem?_setIfInBounds,Ne.symm hi]) fun q t h1 h2 h3 h4=>?_]
    ·simp only[ho']
    ·obtain⟨b,hb,hbt⟩:=dsat q t h4
     simp only[ho'] at h3
     exact after q b h1 hb (confl_dst h3 hbt)
   have hhp:hpD (Hs 0) (fun i=>(fp i).2) Hs (fun i=>(listed.setIfInBounds j true).getD i false) ops.size=ovr (fp j).2 (Hs (j+1)) (hpD (Hs 0) (fun i=>(fp i).2) Hs (fun i=>listed.getD i false) ops.size):=
    hpD_add (D:=fun i=>listed.getD i false) hjn hDj (by simp[hjl]) (fun i hi=>by simp[Array.getElem?_setIfInBounds,Ne.symm hi]) fun q k h1 h2 h3 h4=>by
     obtain⟨b,hb⟩:=getops q h2
     exact after q b h1 hb (confl_wr h3 (.inr h4))
   have hcl':∀ i b,ops.toList[i]?=some b→(listed.setIfInBounds j true).getD i false=true→∀ e∈edgesOf b,(listed.setIfInBounds j true).getD e false=true:=fun i b hb hi e heb=>by
    have up:∀ e,listed.getD e false=true→(listed.setIfInBounds j true).getD e false=true:=fun e h=>by
     by_cases hej:e=j
     ·subst hej;simp[hjl]
     ·simpa[Array.getElem?_setIfInBounds,Ne.symm hej] using h
    by_cases hij:i=j
    ·subst hij
     rw[ho'] at hb;cases hb
     exact up e (he e heb)
    ·exact up e (hcl i b hb (by simpa[Array.getElem?_setIfInBounds,Ne.symm hij] using hi) e heb)
   have hcount:(listed.setIfInBounds j true).toList.count false≤fuel:=by
    have hlt:j<listed.toList.length:=by simpa using hjl
    have e:=List.count_set (a:=true) (b:=false) hlt
    have e2:(listed.setIfInBounds j true).toList=listed.toList.set j true:=by simp
    rw[e2,e]
    have e3:listed.toList[j]=false:=by simpa[hjl] using hDj
    rw[e3]
    show listed.toList.count false - 1+0≤fuel
    omega
   have next:∀ g' a' w',SR Γ g' (putF o.dst (xs j) (envD (Es 0) (fun i=>match ops.toList[i]? with | some o=>o.dst | none=>none) xs (fun i=>listed.getD i false) ops.size)) (ovr (fp j).2 (Hs (j+1)) (hpD (Hs 0) (fun i=>(fp i).2) Hs (fun i=>listed.getD i false) ops.size)) a' w' →
    wpAnyIn Γ.F nn P .any ops Q fuel (listed.setIfInBounds j true) a' w':=fun g' a' w' hs'=>by
    refine ih (listed.setIfInBounds j true) (by simpa using hl) hcl' hcount g' a' w' ?_ nn
    rw[hput,hhp];exact hs'
   have hg:∀ (jj:Nat) (want:Bool) (d:Tmp),o.guard=some (jj,want)→gdst ops.toList jj=some d→d∈looks ops.toList o:=fun jj want d h1 h2=>by
    simp[looks,h1,h2]
   obtain⟨_,hd,hor⟩:=hix j o ho'
   unfold wpOpIn
   rw[ho]
   dsimp only
   rcases hor with ⟨hgt,hok⟩ | ⟨hgp,hxj,hHj,hfj⟩
   ·have hgt':GTake ops.toList o (envD (Es 0) (fun i=>match ops.toList[i]? with | some o=>o.dst | none=>none) xs (fun i=>listed.getD i false) ops.size):=by
     refine⟨?_,hgt.2⟩
     replace hgt:=hgt.1
     unfold GTake0 at hgt ⊢
     split
     ·trivial
     ·rename_i jj want hgu
      rw[hgu] at hgt
      obtain⟨d,h1,h2⟩:=hgt
      exact⟨d,h1,by rw[look d (hg jj want d hgu h1)];exact h2⟩
    rw[if_pos (GTake.wanted hgt' hs.tmps)]
    refine hok.2.2 Γ.rd g a w _ _ (fun t ht=>look t (by simp[looks,ht])) (fun k hk=>?_) hs.tmps hs.inv nn _ Q fun v g' w' hle hi hf hx=>?_
    ·rw[hpD_later (i:=j) (by omega) fun q h1 h2 h3=>?_,hpD_same rfl hH (by omega) fun q h1 h2=>?_]
     ·obtain⟨b,hb⟩:=getops q (by omega)
      exact before q b h1 hb (confl_wr h2 hk)
     ·rcases Nat.lt_or_ge j q with h4 | h4
      ·obtain⟨b,hb⟩:=getops q h2
       rcases hk with hk | hk
       ·exact after q b h4 hb (confl_rd hk h3)
       ·exact after q b h4 hb (confl_wr hk (.inr h3))
      ·have:q=j:=by omega
       subst this;exact hDj
    ·exact next g' _ w' (hs.put (hN▸hd) hle hi hf hx)
   ·have hgp':GPass ops.toList o (envD (Es 0) (fun i=>match ops.toList[i]? with | some o=>o.dst | none=>none) xs (fun i=>listed.getD i false) ops.size):=by
     obtain⟨jj,want,d,h1,h2,h3⟩:=hgp
     exact⟨jj,want,d,h1,h2,by rw[look d (hg jj want d h1 h2)];exact h3⟩
    rw[GPass.wanted hgp' hs.tmps]
    simp only[Bool.false_eq_true,if_false]
    refine⟨fun _ _=>trivial,next g _ w ?_⟩
    rw[hxj,hfj]
    dsimp only
    rw[ovr_nil]
    exact hs.pass (hN▸hd)
theorem envD_none{E0:Nat→EV}{ds:Nat→Option Tmp}{xs:Nat→EV}{D:Nat→Bool}(h:∀ i,D i=false)(n:Nat):envD E0 ds xs D n=E0:=by
 induction n with
 | zero=>rfl
 | succ n ih=>simp only[envD,h n,Bool.false_eq_true,if_false,ih]
theorem hpD_none{H0:Hp}{wr:Nat→List Nat}{Hs:Nat→Hp}{D:Nat→Bool}(h:∀ i,D i=false)(n:Nat):hpD H0 wr Hs D n=H0:=by
 induction n with
 | zero=>rfl
 | succ n ih=>simp only[hpD,h n,Bool.false_eq_true,if_false,ih]
inductive AExit where
 | normal
 | exit (id:Nat)
 | ret
abbrev Kc:=AExit→Env→AHp→Prop
def AExit.is:AExit→Exit→Prop
 | .normal,.normal=>True
 | .exit i,.exit j=>i=j
 | .ret,.ret=>True
 | _,_=>False
def Real(Γ:Ctx)(K:Kc):Exit→Act→World→Prop:=fun e a w=>∃ ae env h g,ae.is e∧K ae env h∧SR Γ g (lk env) (hp h) a w
structure AW(P:Program)(Γ:Ctx)(c:Code)(K:Kc)(env:Env)(h:AHp):Prop where
 out:∀ g a w,SR Γ g (lk env) (hp h) a w→∀ n,c.wpIn Γ.F n P (Real Γ K) a w
section
variable {P:Program} {Γ:Ctx} {K:Kc} {env:Env} {h:AHp}
theorem AW.region{N:Nat}(hN:Γ.ntmps=N){id:Nat}{ops:Array Oper}{steps:List (EV×Hp×Fp)}{env':Env}{h':AHp}(ht:Tr P N ops.toList ops.toList (lk env) (hp h) steps (lk env') (hp h'))(hk:K .normal env' h'):AW P Γ (.region id ops false) K env h:=by
 refine⟨fun g a w hs nn=>?_⟩
 refine wpIn_region ?_
 have:=tr_text hN (ops:=ops) ht 0 g a w (by simp) hs (Real Γ K) (fun g' a' w' hs'=>⟨.normal,env',h',g',trivial,hk,hs'⟩) nn
 rw[List.range_eq_range']
 simpa using this
theorem AW.drawn(hm:P.follows .mixedOrders=true){N:Nat}(hN:Γ.ntmps=N){id:Nat}{ops:Array Oper}{steps:List (EV×Hp×Fp)}{env':Env}{h':AHp}(htr:Tr P N ops.toList ops.toList (lk env) (hp h) steps (lk env') (hp h'))(hok:okOrder ops.toList (steps.map (·.2.2))=true)(hk:K .normal env' h'):AW P Γ (.region id ops true) K env h:=by
 refine⟨fun g a w hs nn=>?_⟩
 refine wpIn_region_any hm ?_
 obtain⟨hl,Es,Hs,xs,fp,h1,h2,h3,h4,h5,h6⟩:=htr.ix
 have hsz:ops.toList.length=ops.size:=by simp
 rw[hsz] at h3 h4
 obtain⟨hlen,hord⟩:=okOrder_spec hok
 have hfp:∀ i,i<ops.size→(steps.map (·.2.2))[i]?=some (fp i):=fun i hi=>by
  have:i<steps.length:=by rw[hl,hsz];exact hi
  rw[List.getElem?_map,List.getElem?_eq_getElem this]
  simp only[Option.map_some]
  rw[h5 i _ (List.getElem?_eq_getElem this)]
 have hlt:∀ i (o:Oper),ops.toList[i]?=some o→i<ops.size:=fun i o ho=>by
  rcases Nat.lt_or_ge i ops.size with h' | h'
  ·exact h'
  ·rw[List.getElem?_eq_none (by simpa using h')] at ho;cases ho
 have hD:∀ i,(Array.replicate ops.size false).getD i false=false:=fun i=>by
  by_cases hi:i<ops.size <;> simp[hi]
 refine drawn_any hN h6 (fun j o ho=>?_) (fun g' a' w' hs'=>⟨.normal,env',h',g',trivial,hk,by rw[← h3,← h4];exact hs'⟩) ops.size (Array.replicate ops.size false) (by simp) (fun i o _ hi=>?_) ?_ g a w.drew ?_ nn
 ·obtain⟨e1,e2⟩:=hord j o (fp j) ho (hfp j (hlt j o ho))
  exact⟨e1,fun i b hij hb hc=>e2 i b (fp i) hij hb (hfp i (hlt i b hb)) hc⟩
 ·rw[hD] at hi;cases hi
 ·simp
 ·rw[envD_none hD,hpD_none hD,h1,h2]
  exact hs.drew
def AExit.thn(next:Env→AHp→Prop)(K:Kc):Kc
 | .normal,env,h=>next env h
 | e,env,h=>K e env h
def AExit.inBlock(id:Nat)(K:Kc):Kc
 | .exit j,env,h=>if j=id then K .normal env h else K (.exit j) env h
 | e,env,h=>K e env h
theorem AW.seq{x y:Code}(hh:AW P Γ x (AExit.thn (AW P Γ y K) K) env h):AW P Γ (.seq x y) K env h:=by
 refine⟨fun g a w hs nn=>?_⟩
 refine wpIn_seq (wpIn_mono (hh.out g a w hs nn) fun e a' w' hq=>?_)
 obtain⟨ae,env',h',g',he,hk,hs'⟩:=hq
 cases ae with
 | normal=>cases e <;> first | exact he.elim | exact hk.out g' a' w' hs' nn
 | exit i=>cases e <;> first | exact he.elim | exact⟨.exit i,env',h',g',he,hk,hs'⟩
 | ret=>cases e <;> first | exact he.elim | exact⟨.ret,env',h',g',he,hk,hs'⟩
theorem AW.skip(hh:K .normal env h):AW P Γ .skip K env h:=⟨fun g a w hs nn=>wpIn_skip ⟨.normal,env,h,g,trivial,hh,hs⟩⟩
theorem AW.exit{id:Nat}(hh:K (.exit id) env h):AW P Γ (.exit id) K env h:=⟨fun g a w hs nn=>wpIn_exit ⟨.exit id,env,h,g,rfl,hh,hs⟩⟩
theorem AW.ret(hh:K .ret env h):AW P Γ .ret K env h:=⟨fun g a w hs nn=>wpIn_ret ⟨.ret,env,h,g,trivial,hh,hs⟩⟩
theorem AW.cond{T:Tab}{c:Operand}{x y:Code}{b:Bool}(hc:opv T env 0 c=ebool b)(hh:bgo b (AW P Γ x K env h) (AW P Γ y K env h)):AW P Γ (.cond c x y) K env h:=by
 refine⟨fun g a w hs nn=>?_⟩
 have hv:a.eval c=.bool b:=by
  have:ERep g (hp h) (a.eval c) (opv T env 0 c):=by
   cases c with
   | tmp t=>exact hs.tmps t
   | const v=>exact constEV_rep T 0 v
   | func f=>exact .p _ _ (.fn (.func f) [] [] [] [] rfl rfl (by intro i v x h;simp at h) (by intro i v x h;simp at h))
   | global g=>exact .dead _
  rw[hc] at this
  exact this.val
 rcases bgo_out hh with ⟨rfl,hh⟩ | ⟨rfl,hh⟩
 ·exact wpIn_cond_true hv (hh.out g a w hs nn)
 ·exact wpIn_cond_false hv (hh.out g a w hs nn)
theorem AW.block{id:Nat}{c:Code}(hh:AW P Γ c (AExit.inBlock id K) env h):AW P Γ (.block id c) K env h:=by
 refine⟨fun g a w hs nn=>?_⟩
 refine wpIn_block (wpIn_mono (hh.out g a w hs nn) fun e a' w' hq=>?_)
 obtain⟨ae,env',h',g',he,hk,hs'⟩:=hq
 cases ae with
 | normal=>cases e <;> first | exact he.elim | exact⟨.normal,env',h',g',trivial,hk,hs'⟩
 | exit i=>
  cases e <;> first | exact he.elim | skip
  rename_i j
  have:i=j:=he
  subst this
  by_cases hi:i=id
  ·simp only[Exit.inBlock,AExit.inBlock,hi,if_true] at hk ⊢
   exact⟨.normal,env',h',g',trivial,hk,hs'⟩
  ·simp only[Exit.inBlock,AExit.inBlock,hi,if_false] at hk ⊢
   exact⟨.exit i,env',h',g',rfl,hk,hs'⟩
 | ret=>cases e <;> first | exact he.elim | exact⟨.ret,env',h',g',he,hk,hs'⟩
def Sub(Γ:Ctx)(env:Env)(h:AHp)(env':Env)(h':AHp):Prop:=∀ g a w,SR Γ g (lk env) (hp h) a w→∃ g',SR Γ g' (lk env') (hp h') a w
theorem AW.sub{c:Code}{env':Env}{h':AHp}(hs:Sub Γ env h env' h')(hh:AW P Γ c K env' h'):AW P Γ c K env h:=⟨fun g a w hr nn=>let ⟨g',hr'⟩:=hs g a w hr;hh.out g' a w hr' nn⟩
theorem AW.mono{c:Code}{K':Kc}(hk:∀ e env h,K e env h→K' e env h)(hh:AW P Γ c K env h):AW P Γ c K' env h:=⟨fun g a w hs nn=>wpIn_mono (hh.out g a w hs nn) fun e a' w' ⟨ae,env',h',g',he,hq,hs'⟩=>⟨ae,env',h',g',he,hk _ _ _ hq,hs'⟩⟩
theorem AW.loop{c:Code}(I:Nat→Env→AHp→Prop)(h0:∃ n env' h',Sub Γ env h env' h'∧I n env' h')
 (hr:∀ n env h,I n env h→AW P Γ c (AExit.thn (fun env1 h1=>∃ m env' h',m<n∧Sub Γ env1 h1 env' h'∧I m env' h') K) env h):AW P Γ (.loop c) K env h:=by
 refine⟨fun g a w hs nn=>?_⟩
 obtain⟨n,env',h',hsub,hi⟩:=h0
 obtain⟨g',hs'⟩:=hsub g a w hs
 let J:Act→World→Prop:=fun a w=>∃ n env h g,I n env h∧SR Γ g (lk env) (hp h) a w
 let μ:Act→World→Nat:=fun a w=>Classical.epsilon fun n=>(∃ env h g,I n env h∧SR Γ g (lk env) (hp h) a w)∧∀ m,(∃ env h g,I m env h∧SR Γ g (lk env) (hp h) a w)→n≤m
 have hμ:∀ a w,J a w→(∃ env h g,I (μ a w) env h∧SR Γ g (lk env) (hp h) a w)∧∀ m,(∃ env h g,I m env h∧SR Γ g (lk env) (hp h) a w)→μ a w≤m:=fun a w hJ=>by
  refine Classical.epsilon_spec (p:=fun n=>(∃ env h g,I n env h∧SR Γ g (lk env) (hp h) a w)∧∀ m,(∃ env h g,I m env h∧SR Γ g (lk env) (hp h) a w)→n≤m) ?_
  obtain⟨n,env,h,g,hi,hs⟩:=hJ
  have key:∀ n,(∃ env h g,I n env h∧SR Γ g (lk env) (hp h) a w)→∃ k,(∃ env h g,I k env h∧SR Γ g (lk env) (hp h) a w)∧∀ m,(∃ env h g,I m env h∧SR Γ g (lk env) (hp h) a w)→k≤m:=by
   intro n
   induction n using Nat.strongRecOn with
   | _ n ih=>
    intro hn
    by_cases hex:∃ m,m<n∧∃ env h g,I m env h∧SR Γ g (lk env) (hp h) a w
    ·obtain⟨m,hm,hx⟩:=hex
     exact ih m hm hx
    ·exact⟨n,hn,fun m hm=>by
      rcases Nat.lt_or_ge m n with h' | h'
      ·exact absurd ⟨m,h',hm⟩ hex
      ·exact h'⟩
  exact key n ⟨env,h,g,hi,hs⟩
 refine wpIn_loop J μ ⟨n,env',h',g',hi,hs'⟩ fun a w hJ=>?_
 obtain⟨⟨env,h,g,hi,hs⟩,_⟩:=hμ a w hJ
 refine wpIn_mono ((hr _ env h hi).out g a w hs nn) fun e a' w' hq=>?_
 obtain⟨ae,env',h',g',he,hk,hs'⟩:=hq
 cases ae with
 | normal=>
  cases e <;> first | exact he.elim | skip
  obtain⟨m,env2,h2,hm,hsub,hi2⟩:=hk
  obtain⟨g2,hs2⟩:=hsub g' a' w' hs'
  have hJ':J a' w':=⟨m,env2,h2,g2,hi2,hs2⟩
  exact⟨hJ',Nat.lt_of_le_of_lt ((hμ a' w' hJ').2 m ⟨env2,h2,g2,hi2,hs2⟩) hm⟩
 | exit i=>cases e <;> first | exact he.elim | exact⟨.exit i,env',h',g',he,hk,hs'⟩
 | ret=>cases e <;> first | exact he.elim | exact⟨.ret,env',h',g',he,hk,hs'⟩
end
def sealE(k:Nat)(xs:List AV)(e x:EV):Prop:=(∃ off,e=.loc k off∧x=.p (.ref (xs.drop off))) ∨
 (∃ sz off n es,e=.arr sz k off n∧x=.p (.slice sz es)∧flat es=(xs.drop off).take (n*sz)∧(∀ e∈es,e.cells.length=sz)∧es.length=n)
abbrev Sl:=Option (Nat×List AV)×Option Nat×Option (Nat×KP×List (AV×AV))
def leE(S:Sl)(h':AHp)(e x:EV):Prop:=e=x∨(∃ y,toP e=some y∧x=.p y)∨(∃ sz es k m,e=.full sz es∧x=.own sz es k∧hp h' k=.tail m∧es.length≤m)∨(∃ k xs,S.1=some (k,xs)∧sealE k xs e x)∨(∃ sz k t,e=.full sz []∧x=.arr sz k 0 0∧S.2.1=some k∧hp h' k=.box t [])∨(∃ k kp es,e=.mtok k∧x=.p (.mp kp es)∧S.2.2=some (k,kp,es))
def leL(S:Sl)(h':AHp):List EV→List EV→Prop
 | [],[]=>True
 | a::r,b::s=>(leE S h' a b∧okE h' b=true)∧leL S h' r s
 | _,_=>False
def SubE(S:Sl)(env:Env)(h':AHp):Env→Prop
 | []=>True
 | (t,x)::r=>(leE S h' (lk env t) x∧okE h' x=true)∧SubE S env h' r
def leO(S:Sl)(h':AHp)(o o':AObj):Prop:=
 match o',o with
 | .gone,_=>True
 | .box t cs',.box u cs=>t=u∧(leL S h' cs cs'∨(cs=cs'∧okE.okL h' cs'=true))
 | .tail n,.tail m=>m=n
 | .tail _,.gone=>True
 | .box _ cs',.gone=>cs'=[]
 | .map kp' es',.map kp es=>kp=kp'∧es.Perm es'∧(kp=.iter→es=es')
 | .ext e',.ext e=>e=e'
 | .lost,.lost=>True
 | .lost,.box _ _=>True
 | .lost,.map _ _=>True
 | _,_=>False
def SubH(S:Sl)(h h':AHp):AHp→Prop
 | []=>True
 | (k,o)::r=>leO S h' (hp h k) o∧SubH S h h' r
theorem SubH.at{S:Sl}{h h0:AHp}:∀ {l:AHp},SubH S h h0 l→∀ k,hp l k=.gone∨leO S h0 (hp h k) (hp l k)
 | [],_,k=>.inl rfl
 | (j,o)::r,hs,k=>by
  rw[hp_cons]
  by_cases hk:k=j
  ·subst hk;rw[if_pos rfl];exact .inr hs.1
  ·rw[if_neg hk];exact SubH.at hs.2 k
theorem SubE.at{S:Sl}{env:Env}{h0:AHp}:∀ {l:Env},SubE S env h0 l→∀ t,lk l t=.dead∨(leE S h0 (lk env t) (lk l t)∧okE h0 (lk l t)=true)
 | [],_,t=>.inl rfl
 | (j,x)::r,hs,t=>by
  rw[lk_cons]
  by_cases ht:t=j
  ·subst ht;rw[if_pos rfl];exact .inr hs.1
  ·rw[if_neg ht];exact SubE.at hs.2 t
theorem leL_length{S:Sl}{h':AHp}:∀ {a b:List EV},leL S h' a b→a.length=b.length
 | [],[],_=>rfl
 | [],_::_,h=>h.elim
 | _::_,[],h=>h.elim
 | _::r,_::s,h=>by simp[leL_length h.2]
theorem leL_get{S:Sl}{h':AHp}:∀ {a b:List EV},leL S h' a b→∀ (i:Nat) x,b[i]?=some x→∃ e,a[i]?=some e∧leE S h' e x∧okE h' x=true
 | [],[],_,i,x,hx=>by simp at hx
 | [],_::_,h,_,_,_=>h.elim
 | _::_,[],h,_,_,_=>h.elim
 | e::r,y::s,h,i,x,hx=>by
  cases i with
  | zero=>simp at hx;subst hx;exact⟨e,rfl,h.1⟩
  | succ i=>simp at hx;simpa using leL_get h.2 i x hx
structure Part(h h':AHp):Prop where
 box:∀ k t cs',hp h' k=.box t cs'→(∃ cs,hp h k=.box t cs∧cs.length=cs'.length)∨(hp h k=.gone∧cs'=[])
 tail:∀ k n,hp h' k=.tail n→hp h k=.tail n∨hp h k=.gone
 map:∀ k kp es',hp h' k=.map kp es'→∃ es,hp h k=.map kp es∧es.Perm es'∧(kp=.iter→es=es')
 ext:∀ k e,hp h' k=.ext e→hp h k=.ext e
theorem SubH.part{S:Sl}{h h':AHp}(hs:SubH S h h' h'):Part h h':=by
 refine⟨fun k t cs' hk=>?_,fun k n hk=>?_,fun k kp es' hk=>?_,fun k e hk=>?_⟩
 ·rcases hs.at k with h1 | h1
  ·rw[hk] at h1;cases h1
  ·rw[hk] at h1
   cases hq:hp h k with
   | gone=>rw[hq] at h1;exact .inr ⟨rfl,h1⟩
   | lost=>rw[hq] at h1;exact h1.elim
   | tail m=>rw[hq] at h1;exact h1.elim
   | map kp m=>rw[hq] at h1;exact h1.elim
   | ext e=>rw[hq] at h1;exact h1.elim
   | box u cs=>
    rw[hq] at h1
    obtain⟨rfl,h1⟩:=h1
    rcases h1 with h1 | h1
    ·exact .inl ⟨cs,rfl,leL_length h1⟩
    ·exact .inl ⟨cs,rfl,by rw[h1.1]⟩
 ·rcases hs.at k with h1 | h1
  ·rw[hk] at h1;cases h1
  ·rw[hk] at h1
   cases hq:hp h k with
   | gone=>exact .inr rfl
   | lost=>rw[hq] at h1;exact h1.elim
   | tail m=>rw[hq] at h1;have:m=n:=h1;exact .inl (by rw[this])
   | map kp m=>rw[hq] at h1;exact h1.elim
   | ext e=>rw[hq] at h1;exact h1.elim
   | box u cs=>rw[hq] at h1;exact h1.elim
 ·rcases hs.at k with h1 | h1
  ·rw[hk] at h1;cases h1
  ·rw[hk] at h1
   cases hq:hp h k with
   | map kp' m=>rw[hq] at h1;obtain⟨rfl,h1⟩:=h1;exact⟨m,rfl,h1⟩
   | ext e=>rw[hq] at h1;exact h1.elim
   | gone=>rw[hq] at h1;exact h1.elim
   | lost=>rw[hq] at h1;exact h1.elim
   | tail m=>rw[hq] at h1;exact h1.elim
   | box u cs=>rw[hq] at h1;exact h1.elim
 ·rcases hs.at k with h1 | h1
  ·rw[hk] at h1;cases h1
  ·rw[hk] at h1
   cases hq:hp h k with
   | ext e'=>rw[hq] at h1;have h1:e'=e:=h1;rw[h1]
   | gone=>rw[hq] at h1;exact h1.elim
   | lost=>rw[hq] at h1;exact h1.elim
   | tail m=>rw[hq] at h1;exact h1.elim
   | map kp m=>rw[hq] at h1;exact h1.elim
   | box u cs=>rw[hq] at h1;exact h1.elim
open Classical in
noncomputable def Gh.cut(g:Gh)(h:AHp):Gh:={ g with lo:=fun k=>if hp h k=.gone then 0 else g.lo k,hi:=fun k=>if hp h k=.gone then 0 else g.hi k }
theorem Gh.cut_lo{g:Gh}{h:AHp}{k:Nat}(hk:hp h k≠.gone):(g.cut h).lo k=g.lo k:=by simp[Gh.cut,hk]
theorem Gh.cut_hi{g:Gh}{h:AHp}{k:Nat}(hk:hp h k≠.gone):(g.cut h).hi k=g.hi k:=by simp[Gh.cut,hk]
theorem Gh.cut_gone{g:Gh}{h:AHp}{k:Nat}(hk:hp h k=.gone):(g.cut h).lo k=0∧(g.cut h).hi k=0:=by simp[Gh.cut,hk]
theorem ERep.weak{g:Gh}{h h':AHp}(hp':Part h h'){v:Value}{x:EV}(hv:ERep g (hp h) v x)(ho:okE h' x=true):ERep (g.cut h) (hp h') v x:=by
 induction hv with
 | dead v=>exact .dead v
 | p v x h=>exact .p v x h
 | loc k off b hk=>
  simp only[okE] at ho
  cases hq:hp h' k with
  | gone=>rw[hq] at ho;simp at ho
  | lost=>rw[hq] at ho;simp at ho
  | tail m=>rw[hq] at ho;simp at ho
  | map kp m=>rw[hq] at ho;simp at ho
  | ext e=>rw[hq] at ho;simp at ho
  | box u ds=>
   rcases hp'.box k u ds hq with ⟨cs0,e1,e2⟩ | ⟨e1,_⟩
   ·rcases hk with hk | ⟨rfl,_⟩
    ·rw[e1] at hk;cases hk
    ·exact .loc k off _ (.inr ⟨rfl,u,ds,hq⟩)
   ·rcases hk with hk | ⟨_,_,_,hk⟩ <;> rw[e1] at hk <;> cases hk
 | own p n cap sz es k m h1 hk hm hr=>
  simp only[okE] at ho
  cases hq:hp h' k with
  | gone=>rw[hq] at ho;simp at ho
  | lost=>rw[hq] at ho;simp at ho
  | box u ds=>rw[hq] at ho;simp at ho
  | map kp m=>rw[hq] at ho;simp at ho
  | ext e=>rw[hq] at ho;simp at ho
  | tail m'=>
   rcases hp'.tail k m' hq with h2 | h2
   ·rw[hk] at h2;cases h2
    refine .own p n cap sz es k m h1 hq hm fun e=>?_
    rw[Gh.cut_lo (by rw[hk];simp),Gh.cut_hi (by rw[hk];simp)]
    exact hr e
   ·rw[hk] at h2;cases h2
 | full p n sz es h=>exact .full p n sz es h
 | eptr b o sz x hs h=>exact .eptr b o sz x hs h
 | arr p sz k off n cap hc hm hn hk=>
  simp only[okE] at ho
  cases hq:hp h' k with
  | gone=>rw[hq] at ho;simp at ho
  | lost=>rw[hq] at ho;simp at ho
  | tail m=>rw[hq] at ho;simp at ho
  | map kp m=>rw[hq] at ho;simp at ho
  | ext e=>rw[hq] at ho;simp at ho
  | box u ds=>
   rcases hp'.box k u ds hq with ⟨cs0,e1,e2⟩ | ⟨e1,_⟩
   case inr=>rcases hk with hk | ⟨_,_,hk,_⟩ <;> rw[e1] at hk <;> cases hk
   rcases hk with hk | ⟨t,cs,hk,hb,hx⟩
   ·rw[e1] at hk;cases hk
   ·rw[e1] at hk;cases hk
    refine .arr p sz k off n cap hc hm hn (.inr ⟨_,ds,hq,by omega,?_⟩)
    rw[Gh.cut_hi (by rw[e1];simp)]
    exact hx
 | agg vs cs h1 hl _ ih=>exact .agg vs cs h1 hl fun i v x hv hx=>ih i v x hv hx (okL_mem (by simpa[okE] using ho) x (List.mem_of_getElem? hx))
 | fn f vf vc first caps h1 h2 _ _ ih1 ih2=>
  simp only[okE,Bool.and_eq_true] at ho
  exact .fn f vf vc first caps h1 h2 (fun i v x hv hx=>ih1 i v x hv hx (okL_mem ho.1 x (List.mem_of_getElem? hx))) fun i v x hv hx=>ih2 i v x hv hx (okL_mem ho.2 x (List.mem_of_getElem? hx))
 | tup vs xs h1 _ ih=>exact .tup vs xs h1 fun i v x hv hx=>ih i v x hv hx (okL_mem (by simpa[okE] using ho) x (List.mem_of_getElem? hx))
 | mtok k r hk=>
  simp only[okE] at ho
  cases hq:hp h' k with
  | gone=>rw[hq] at ho;simp at ho
  | lost=>rw[hq] at ho;simp at ho
  | tail m=>rw[hq] at ho;simp at ho
  | box u ds=>rw[hq] at ho;simp at ho
  | ext e=>rw[hq] at ho;simp at ho
  | map kp es=>
   obtain⟨es0,e1,_⟩:=hp'.map k kp es hq
   rcases hk with hk | ⟨rfl,kp',es',hn,hk⟩
   ·rw[e1] at hk;cases hk
   ·rw[e1] at hk;cases hk
    exact .mtok k _ (.inr ⟨rfl,kp,es,hn,hq⟩)
 | itok k r hk=>
  simp only[okE] at ho
  cases hq:hp h' k with
  | gone=>rw[hq] at ho;simp at ho
  | lost=>rw[hq] at ho;simp at ho
  | tail m=>rw[hq] at ho;simp at ho
  | box u ds=>rw[hq] at ho;simp at ho
  | ext e=>rw[hq] at ho;simp at ho
  | map kp es=>
   obtain⟨es0,e1,_⟩:=hp'.map k kp es hq
   rcases hk with hk | ⟨rfl,es',hk⟩
   ·rw[e1] at hk;cases hk
   ·rw[e1] at hk;cases hk
    exact .itok k _ (.inr ⟨rfl,es,hq⟩)
def Sealed(g:Gh)(h:AHp)(S:Sl):Prop:=∀ k xs,S.1=some (k,xs)→∃ (t:TypeId) (cs:List EV) (vs:List Value),hp h k=.box t cs∧(∀ o v,vs[o]?=some v→g.fz (g.blk k) o=some v)∧Ones vs∧vs.length=xs.length∧(g.hi k=0→xs=[])∧∀ (i:Nat) v x,vs[i]?=some v→xs[i]?=some x→Rep g.fz v x
def MSealed(g:Gh)(h:AHp)(S:Sl):Prop:=∀ k kp es,S.2.2=some (k,kp,es)→(kp≠.iter∧∃ es',hp h k=.map kp es')∧Rep g.fz (.map (some (g.blk k))) (.mp kp es)
theorem ERep.le{S:Sl}{g:Gh}{h h':AHp}(hS:Sealed g h S)(hM:MSealed g h S)(hv0:∀ k,S.2.1=some k→hp h k=.gone)(hp':Part h h'){v:Value}{e x:EV}(hv:ERep g (hp h) v e)(hle:leE S h' e x)(ho:okE h' x=true):ERep (g.cut h) (hp h') v x:=by
 rcases hle with rfl | ⟨y,h1,rfl⟩ | ⟨sz,es,k,m,rfl,rfl,hk,hm⟩ | ⟨k,xs,hS1,hs⟩ | ⟨sz,k,t,rfl,rfl,hS2,hk⟩ | ⟨k,kp,es,rfl,rfl,hS2⟩
 ·exact hv.weak hp' ho
 ·have h2:Rep g.fz v y:=toP_rep h1 hv
  exact .p _ _ h2
 ·cases hv with
  | full p n _ _ hr=>
   obtain⟨_,_,e,_⟩:=hr.slice_len
   cases e
   exact .own p es.length es.length sz es k m hr hk hm fun _=>.inl rfl
 ·obtain⟨t,cs,vs,s0,s1,s2,s3,s5,s4⟩:=hS k xs hS1
  have row:∀ off m,RowAt g.fz (some ⟨g.blk k,off,none⟩) ((vs.drop off).take m):=fun off m i v hv=>by
   refine⟨g.blk k,off,rfl,s1 _ _ ?_⟩
   rw[List.getElem?_take] at hv
   split at hv
   ·rwa [List.getElem?_drop] at hv
   ·cases hv
  have ones:∀ off m,Ones ((vs.drop off).take m):=fun off m v hv=>s2 v (List.mem_of_mem_drop (List.mem_of_mem_take hv))
  have cell:∀ off m (i:Nat) v x,((vs.drop off).take m)[i]?=some v→((xs.drop off).take m)[i]?=some x→Rep g.fz v x:=fun off m i v x hv hx=>by
   rw[List.getElem?_take] at hv hx
   split at hv
   ·rename_i hi
    rw[if_pos hi] at hx
    rw[List.getElem?_drop] at hv hx
    exact s4 _ v x hv hx
   ·cases hv
  rcases hs with ⟨off,rfl,rfl⟩ | ⟨sz,off,n,es,rfl,rfl,e1,e2,e3⟩
  ·obtain rfl:=hv.loc_at s0
   have h1:=row off (vs.drop off).length
   have h2:=ones off (vs.drop off).length
   have h3:=cell off (vs.drop off).length
   have hl:(vs.drop off).length=(xs.drop off).length:=by simp[s3]
   rw[List.take_length] at h1 h2 h3
   rw[hl,List.take_length] at h3
   exact .p _ _ (.ref _ _ _ _ h2 h1 hl h3)
  ·obtain⟨p,cap,rfl,hc,hm,_,hk | ⟨t',cs',hk,hb,hx⟩⟩:=hv.arr_inv
   ·rw[s0] at hk;cases hk
   ·rcases hx with ⟨_,rfl,_⟩ | ⟨h0,rfl⟩
    ·exact .p _ _ (.slice _ _ _ _ es ((vs.drop off).take (n*sz)) e3.symm hc hm e2 (ones off _) (row off _) (by rw[e1];simp[s3]) (by rw[e1];exact cell off _))
    ·obtain rfl:n=0:=by omega
     obtain rfl:=List.eq_nil_of_length_eq_zero e3
     exact .p _ _ (.slice _ 0 0 _ [] [] rfl (Nat.le_refl _) (by omega) (by simp) (by simp[Ones]) (by intro i v hv;simp at hv) rfl (by intro i v x hv;simp at hv))
 ·cases hv with
  | full p n _ _ hr=>
   obtain⟨_,_,e,_⟩:=hr.slice_len
   cases e
   exact .arr p sz k 0 0 0 (Nat.le_refl _) (by omega) (fun h=>absurd rfl h) (.inr ⟨t,[],hk,by simp,.inr ⟨(Gh.cut_gone (hv0 k hS2)).2,rfl⟩⟩)
 ·obtain⟨⟨hni,es',h1⟩,h2⟩:=hM k kp es hS2
  cases hv with
  | mtok _ r hr=>
   rcases hr with hr | ⟨rfl,_⟩
   ·rw[h1] at hr;cases hr
   ·exact .p _ _ h2
  | itok _ r hr=>
   rcases hr with hr | ⟨rfl,_,hr⟩
   ·rw[h1] at hr;cases hr
   ·rw[h1] at hr;cases hr;exact absurd rfl hni
structure Pre(Γ:Ctx)(g:Gh)(env:Nat→EV)(H:Hp)(a:Act)(w:World)(S:Sl):Prop where
 size:a.tmps.size=Γ.ntmps
 dfr:DfOk Γ g H a w
 tmps:∀ t,ERep g H (a.tmps.getD t undef) (env t)
 fz:∀ b o v,g.fz b o=some v→w.pk b o=some v
 obj:∀ k,(∀ xs,S.1≠some (k,xs))→(∀ kp es,S.2.2≠some (k,kp,es))→ObjOk g H w k (H k)
 inj:∀ k j b,Bset g k (H k) b→Bset g j (H j) b→k=j
 fr:Fr Γ g H w
theorem SR.pre{Γ g env h a w}(hs:SR Γ g (lk env) (hp h) a w):Pre Γ g (lk env) (hp h) a w (none,none,none)∧Sealed g h (none,none,none)∧MSealed g h (none,none,none):=
 ⟨⟨hs.size,hs.dfr,hs.tmps,hs.inv.fz,fun k _ _=>hs.inv.obj k,hs.inv.inj,hs.fr⟩,(fun _ _ e=>by cases e),fun _ _ _ e=>by cases e⟩
theorem SR.own_new{Γ g env h a w}(hs:SR Γ g (lk env) (hp h) a w){k b:Nat}(hO:Γ.os0 k=.gone)(hO2:∀ j,Γ.os0 j≠.gone→hp h j≠.lost∧(∀ m,Γ.os0 j≠.tail m)∧∀ e,Γ.os0 j≠.ext e)(hb:Bset g k (hp h k) b):Γ.w0.heap.size≤b:=by
 rcases hs.fr.own k b hb with ⟨j,hj⟩ | h1
 ·exfalso
  cases hq:Γ.os0 j with
  | gone=>rw[hq] at hj;exact hj
  | lost=>rw[hq] at hj;exact hj
  | tail m=>exact(hO2 j (by rw[hq];simp)).2.1 m hq
  | ext e=>exact(hO2 j (by rw[hq];simp)).2.2 e hq
  | box t cs=>
   rcases hs.fr.box j t cs hq with h0 | ⟨cs',h1,h2,h3,h4⟩
   ·exact(hO2 j (by rw[hq];simp)).1 h0
   ·have:j=k:=hs.inv.inj j k b (by rw[h1];rw[hq] at hj;exact⟨h4▸hj.1,hj.2.trans h3.symm⟩) hb
    rw[this,hO] at hq;cases hq
  | map kp es=>
   rcases hs.fr.map j kp es hq with h0 | ⟨es',h1,h2⟩
   ·exact(hO2 j (by rw[hq];simp)).1 h0
   ·have:j=k:=hs.inv.inj j k b (by rw[h1];rw[hq] at hj;exact Eq.trans hj h2.symm) hb
    rw[this,hO] at hq;cases hq
 ·exact h1
theorem SR.sealB{Γ g env h a w}(hs:SR Γ g (lk env) (hp h) a w){k:Nat}{t:TypeId}{cs:List EV}{xs:List AV}(hk:hp h k=.box t cs)(hO:Γ.os0 k=.gone)(hO2:∀ j,Γ.os0 j≠.gone→hp h j≠.lost∧(∀ m,Γ.os0 j≠.tail m)∧∀ e,Γ.os0 j≠.ext e)(hx:toPs cs=some xs):∃ g1,Pre Γ g1 (lk env) (hp h) a w (some (k,xs),none,none)∧Sealed g1 h (some (k,xs),none,none):=by
 have hob:=hs.inv.obj k
 rw[hk] at hob
 rcases Nat.eq_zero_or_pos (g.hi k) with hz | hlt
 ·obtain rfl:=hob.1 hz
  have hx0:xs=[]:=by simpa[toP.toPl] using hx.symm
  subst hx0
  refine⟨g,⟨hs.size,hs.dfr,hs.tmps,hs.inv.fz,fun j _ _=>hs.inv.obj j,hs.inv.inj,hs.fr⟩,fun k' xs' e=>?_⟩
  cases e
  exact⟨t,[],[],hk,by intro o v hv;simp at hv,by simp[Ones],rfl,fun _=>rfl,by intro i v x hv;simp at hv⟩
 obtain⟨row,v1,⟨v2,v2'⟩,v3,v4,v5⟩:=hob.2 hlt
 have w2:(row.take cs.length).length=cs.length:=by rw[List.length_take];omega
 have w4:∀ (i:Nat) v x,(row.take cs.length)[i]?=some v→cs[i]?=some x→ERep g (hp h) v x:=fun i v x hv hx=>by
  rw[List.getElem?_take] at hv
  split at hv
  ·exact v4 i v x hv hx
  ·cases hv
 have w1:∀ (i:Nat) v,(row.take cs.length)[i]?=some v→row[i]?=some v:=fun i v hv=>by
  rw[List.getElem?_take] at hv
  split at hv
  ·exact hv
  ·cases hv
 obtain⟨p1,p2⟩:=toPl_rep hx w2 w4
 generalize row.take cs.length=vs at w1 w2 w4 p1 p2
 let g1:Gh:={ g with fz:=fun b o=>if b=g.blk k then vs[o]? else g.fz b o }
 have hfz:∀ {b o},b≠g.blk k→g1.fz b o=g.fz b o:=fun hb=>if_neg hb
 have hfk:∀ o,g1.fz (g.blk k) o=vs[o]?:=fun o=>if_pos rfl
 have hle0:FzLe g.fz g1.fz:=fun b o v hv=>by
  by_cases hb:b=g.blk k
  ·subst hb;rw[v5] at hv;cases hv
  ·rw[hfz hb];exact hv
 have hle:GLe g (hp h) g1 (hp h):=⟨hle0,fun j t cs hj=>.inr ⟨rfl,rfl,cs,hj,rfl⟩,fun _ hj=>hj,fun j m hj=>⟨m,hj,Nat.le_refl _,fun _=>⟨rfl,rfl,rfl⟩⟩,fun j kp es hj=>.inr ⟨rfl,es,hj⟩⟩
 have hne:∀ j,j≠k→∀ b,Bset g j (hp h j) b→b≠g.blk k:=fun j hj b hb e=>by
  subst e
  exact hj (hs.inv.inj j k _ hb (by rw[hk];exact⟨hlt,rfl⟩))
 have hown:Γ.w0.heap.size≤g.blk k:=hs.own_new hO hO2 (k:=k) (by rw[hk];exact⟨hlt,rfl⟩)
 refine⟨g1,⟨hs.size,hs.dfr.sub (fun j b hb=>⟨j,by cases hH:hp h j <;> rw[hH] at hb <;> exact hb⟩),fun t=>(hs.tmps t).mono hle,fun b o v hv=>?_,fun j hj _=>?_,fun i j b h1 h2=>hs.inv.inj i j b ?_ ?_,⟨hs.fr.kept,hs.fr.fz.trans hle0,fun b hb hX=>?_,fun j b hb=>hs.fr.own j b ?_,hs.fr.box,hs.fr.map,hs.fr.tail⟩⟩,?_⟩
 ·by_cases hb:b=g.blk k
  ·subst hb
   rw[hfk] at hv
   have h1:=w1 o v hv
   exact cell_pk (by simp only[World.cell?,v1];simpa using h1) (v3 v (List.mem_of_getElem? h1))
  ·rw[hfz hb] at hv
   exact hs.inv.fz b o v hv
 ·have hjk:j≠k:=fun e=>hj xs (by rw[e])
  exact(hs.inv.obj j).mono hle rfl rfl rfl (fun _ _=>rfl) fun b hb x=>hfz (hne j hjk b hb)
 ·cases hH:hp h i <;> rw[hH] at h1 <;> exact h1
 ·cases hH:hp h j <;> rw[hH] at h2 <;> exact h2
 ·funext o
  rw[hfz (by omega),hs.fr.low b hb hX]
 ·cases hH:hp h j <;> rw[hH] at hb <;> exact hb
 ·intro k' xs' e
  cases e
  exact⟨t,cs,vs,hk,fun o v hv=>(hfk o).trans hv,fun v hv=>by
   obtain⟨i,hi,rfl⟩:=List.mem_iff_getElem.1 hv
   exact v3 _ (List.mem_of_getElem? (w1 i _ (List.getElem?_eq_getElem hi))),p1,fun h0=>by have:g.hi k=0:=h0;omega,fun i v x hv hx=>(p2 i v x hv hx).mono hle0⟩
theorem SR.mseal{Γ g env h a w}(hs:SR Γ g (lk env) (hp h) a w){k:Nat}{kp:KP}{es es':List (AV×AV)}(hk:hp h k=.map kp es)(hni:kp≠.iter)(he:es.Perm es')(hO:Γ.os0 k=.gone)(hO2:∀ j,Γ.os0 j≠.gone→hp h j≠.lost∧(∀ m,Γ.os0 j≠.tail m)∧∀ e,Γ.os0 j≠.ext e):∃ g1,Pre Γ g1 (lk env) (hp h) a w (none,none,some (k,kp,es'))∧MSealed g1 h (none,none,some (k,kp,es')):=by
 have hob:=hs.inv.obj k
 rw[hk] at hob
 obtain⟨⟨hmap,_⟩,v5⟩:=hob
 obtain⟨ents,clk,es0,m1,m2,m3,m4,m5,m6,m7⟩:=hmap hni
 let g1:Gh:={ g with fz:=fun b o=>if b=g.blk k then (if o=0 then some (mapCode ents clk) else none) else g.fz b o }
 have hfz:∀ {b o},b≠g.blk k→g1.fz b o=g.fz b o:=fun hb=>if_neg hb
 have hfk:∀ o,g1.fz (g.blk k) o=if o=0 then some (mapCode ents clk) else none:=fun o=>if_pos rfl
 have hle0:FzLe g.fz g1.fz:=fun b o v hv=>by
  by_cases hb:b=g.blk k
  ·subst hb;rw[v5] at hv;cases hv
  ·rw[hfz hb];exact hv
 have hle:GLe g (hp h) g1 (hp h):=⟨hle0,fun j t cs hj=>.inr ⟨rfl,rfl,cs,hj,rfl⟩,fun _ hj=>hj,fun j m hj=>⟨m,hj,Nat.le_refl _,fun _=>⟨rfl,rfl,rfl⟩⟩,fun j kp es hj=>.inr ⟨rfl,es,hj⟩⟩
 have hne:∀ j,j≠k→∀ b,Bset g j (hp h j) b→b≠g.blk k:=fun j hj b hb e=>by
  subst e
  exact hj (hs.inv.inj j k _ hb (by rw[hk];exact rfl))
 have hown:Γ.w0.heap.size≤g.blk k:=hs.own_new hO hO2 (k:=k) (by rw[hk];exact rfl)
 refine⟨g1,⟨hs.size,hs.dfr.sub (fun j b hb=>⟨j,by cases hH:hp h j <;> rw[hH] at hb <;> exact hb⟩),fun t=>(hs.tmps t).mono hle,fun b o v hv=>?_,fun j _ hj=>?_,fun i j b h1 h2=>hs.inv.inj i j b ?_ ?_,⟨hs.fr.kept,hs.fr.fz.trans hle0,fun b hb hX=>?_,fun j b hb=>hs.fr.own j b ?_,hs.fr.box,hs.fr.map,hs.fr.tail⟩⟩,?_⟩
 ·by_cases hb:b=g.blk k
  ·subst hb
   rw[hfk] at hv
   split at hv
   ·rename_i h0;subst h0;cases hv;exact map_pk m1
   ·cases hv
  ·rw[hfz hb] at hv
   exact hs.inv.fz b o v hv
 ·have hjk:j≠k:=fun e=>hj kp es' (by rw[e])
  exact(hs.inv.obj j).mono hle rfl rfl rfl (fun _ _=>rfl) fun b hb x=>hfz (hne j hjk b hb)
 ·cases hH:hp h i <;> rw[hH] at h1 <;> exact h1
 ·cases hH:hp h j <;> rw[hH] at h2 <;> exact h2
 ·funext o
  rw[hfz (by omega),hs.fr.low b hb hX]
 ·cases hH:hp h j <;> rw[hH] at hb <;> exact hb
 ·intro k' kp' xs' e
  cases e
  exact⟨⟨hni,es,hk⟩,.mp kp _ ents clk es0 _ (by rw[hfk,if_pos rfl]) m2 m3 (m4.trans he) m5 (fun i e x a b=>(m6 i e x a b).mono hle0) fun i e x a b=>(m7 i e x a b).mono hle0⟩
def KeepO(O:Hp)(h':AHp):Prop:=∀ k,O k≠.gone→hp h' k≠.gone
theorem KeepO.no{h'}:KeepO noH h':=fun k h=>absurd rfl h
def keepB(h':AHp):AHp→Bool
 | []=>true
 | (k,_)::r=>(match hp h' k with | .gone=>false | _=>true)&&keepB h' r
theorem KeepO.of{l h':AHp}(h:keepB h' l=true):KeepO (hp l) h':=by
 intro k hk e
 induction l with
 | nil=>exact hk rfl
 | cons x r ih=>
  obtain⟨j,o⟩:=x
  simp only[keepB,Bool.and_eq_true] at h
  by_cases hj:k=j
  ·subst hj;rw[e] at h;simp at h
  ·rw[hp_cons,if_neg hj] at hk;exact ih h.2 hk
theorem Pre.subT{S:Sl}{Γ:Ctx}{env env':Env}{h h':AHp}(hΓ:KeepO Γ.os0 h')(h1:SubE S env h' env')(h2:SubH S h h' h')(hg:∀ k xs,S.1=some (k,xs)→hp h' k=.gone)(hgm:∀ k kp xs,S.2.2=some (k,kp,xs)→hp h' k=.gone)(hv0:∀ k,S.2.1=some k→hp h k=.gone){g a w}(hs:Pre Γ g (lk env) (hp h) a w S)(hS:Sealed g h S)(hM:MSealed g h S):∃ g',SR Γ g' (lk env') (hp h') a w∧g'.fz=g.fz∧∀ k b,Bset g' k (hp h' k) b→Bset g k (hp h k) b:=by
 have hpart:=h2.part
 have hBs:∀ k b,Bset (g.cut h) k (hp h' k) b→Bset g k (hp h k) b:=fun k b hb=>by
  cases hq:hp h' k with
  | gone=>rw[hq] at hb;exact hb.elim
  | lost=>rw[hq] at hb;exact hb.elim
  | ext e=>rw[hq] at hb;rw[hpart.ext k e hq];exact hb
  | map kp es'=>rw[hq] at hb;obtain⟨es,e1,_⟩:=hpart.map k kp es' hq;rw[e1];exact hb
  | box t cs'=>rw[hq] at hb;have h0:=hb.1;rcases hpart.box k t cs' hq with ⟨cs,e1,_⟩ | ⟨e1,_⟩;(rw[e1];rw[Gh.cut_hi (by rw[e1];simp)] at h0;exact⟨h0,hb.2⟩);(rw[(Gh.cut_gone e1).2] at h0;omega)
  | tail n=>
   rw[hq] at hb
   rcases hpart.tail k n hq with h3 | h3
   ·rw[h3];obtain⟨k1,k2⟩:=hb
    rw[Gh.cut_lo (by rw[h3];simp),Gh.cut_hi (by rw[h3];simp)] at k1
    exact⟨k1,k2⟩
   ·obtain⟨k1,_⟩:=hb
    obtain⟨e1,e2⟩:=Gh.cut_gone (g:=g) h3
    rw[e1,e2] at k1;omega
 refine⟨g.cut h,⟨hs.size,hs.dfr.sub (fun k b hb=>⟨k,hBs k b hb⟩),fun t=>?_,⟨hs.fz,fun k=>?_,fun k j b hk hj=>hs.inj k j b (hBs k b hk) (hBs j b hj)⟩,⟨hs.fr.kept,hs.fr.fz,hs.fr.low,fun k b hb=>hs.fr.own k b (hBs k b hb),fun k t cs hk=>?_,fun k kp es hk=>?_,fun k m hk=>?_⟩⟩,rfl,hBs⟩
 ·rcases h1.at t with hd | ⟨h3,h4⟩
  ·rw[hd];exact .dead _
  ·exact(hs.tmps t).le hS hM hv0 hpart h3 h4
 ·have hob:hp h' k≠.gone→ObjOk g (hp h) w k (hp h k):=fun hne=>hs.obj k (fun xs e=>hne (hg k xs e)) fun kp xs e=>hne (hgm k kp xs e)
  cases hk:hp h' k with
  | gone=>trivial
  | lost=>trivial
  | tail n=>
   replace hob:=hob (by rw[hk];simp)
   rcases hpart.tail k n hk with h3 | h3
   ·rw[h3] at hob
    intro hlt
    rw[Gh.cut_lo (by rw[h3];simp),Gh.cut_hi (by rw[h3];simp)] at hlt
    obtain⟨vs,t,e1,e2,e3⟩:=hob hlt
    refine⟨vs,t,e1,by rw[Gh.cut_hi (by rw[h3];simp)];exact e2,fun o h4 h5=>?_⟩
    rw[Gh.cut_lo (by rw[h3];simp)] at h4
    rw[Gh.cut_hi (by rw[h3];simp)] at h5
    exact e3 o h4 h5
   ·intro hlt
    obtain⟨e1,e2⟩:=Gh.cut_gone (g:=g) h3
    rw[e1,e2] at hlt;omega
  | box t cs'=>
   replace hob:=hob (by rw[hk];simp)
   rcases h2.at k with h3 | h3
   ·rw[hk] at h3;cases h3
   ·rw[hk] at h3
    cases hq:hp h k with
    | gone=>
     rw[hq] at h3
     refine⟨fun _=>h3,fun hlt=>?_⟩
     rw[(Gh.cut_gone hq).2] at hlt;omega
    | lost=>rw[hq] at h3;exact h3.elim
    | tail m=>rw[hq] at h3;exact h3.elim
    | map kp m=>rw[hq] at h3;exact h3.elim
    | ext e=>rw[hq] at h3;exact h3.elim
    | box u cs=>
     rw[hq] at h3 hob
     obtain⟨rfl,h3⟩:=h3
     have hh:(g.cut h).hi k=g.hi k:=Gh.cut_hi (by rw[hq];simp)
     have hl:cs.length=cs'.length:=by
      rcases h3 with h3 | ⟨rfl,h3⟩
      ·exact leL_length h3
      ·rfl
     refine⟨fun h0=>?_,fun hlt=>?_⟩
     ·have:=hob.1 (hh▸h0)
      exact List.eq_nil_of_length_eq_zero (by rw[← hl,this];rfl)
     rw[hh] at hlt
     obtain⟨vs,e1,⟨e2,e2'⟩,e3,e4,e5⟩:=hob.2 hlt
     rcases h3 with h3 | ⟨rfl,h3⟩
     ·refine⟨vs,e1,⟨by rw[hh];exact e2,by omega⟩,e3,fun i v x hv hx=>?_,e5⟩
      obtain⟨e,f1,f2,f3⟩:=leL_get h3 i x hx
      exact(e4 i v e hv f1).le hS hM hv0 hpart f2 f3
     ·exact⟨vs,e1,⟨by rw[hh];exact e2,by omega⟩,e3,fun i v x hv hx=>(e4 i v x hv hx).weak hpart (okL_mem h3 x (List.mem_of_getElem? hx)),e5⟩
  | ext e=>
   replace hob:=hob (by rw[hk];simp)
   rw[hpart.ext k e hk] at hob
   exact hob
  | map kp es'=>
   replace hob:=hob (by rw[hk];simp)
   obtain⟨es,e1,e2,e3⟩:=hpart.map k kp es' hk
   rw[e1] at hob
   obtain⟨⟨m1,m2,m3⟩,m6⟩:=hob
   refine⟨⟨fun hn=>?_,fun hn=>?_,m3⟩,m6⟩
   ·obtain⟨ents,clk,es0,a1,a2,a3,a4,a5⟩:=m1 hn
    exact⟨ents,clk,es0,a1,a2,a3,a4.trans e2,a5⟩
   ·rw[← e3 hn];exact m2 hn
 ·have hne:=hΓ k (by rw[hk];simp)
  rcases hs.fr.box k t cs hk with h0 | ⟨cs',e1,e2,e3,e4⟩
  ·rcases h2.at k with h3 | h3
   ·exact absurd h3 hne
   ·rw[h0] at h3
    cases hq:hp h' k with
    | lost=>exact .inl rfl
    | gone=>exact absurd hq hne
    | _=>rw[hq] at h3;exact h3.elim
  ·rcases h2.at k with h3 | h3
   ·exact absurd h3 hne
   ·rw[e1] at h3
    cases hq:hp h' k with
    | lost=>exact .inl rfl
    | gone=>exact absurd hq hne
    | box u ds=>
     rw[hq] at h3
     obtain⟨rfl,h3⟩:=h3
     refine .inr ⟨ds,rfl,?_,e3,by rw[Gh.cut_hi (by rw[e1];simp)];exact e4⟩
     rcases h3 with h3 | ⟨h3,_⟩
     ·rw[← leL_length h3];exact e2
     ·rw[← h3];exact e2
    | _=>rw[hq] at h3;exact h3.elim
 ·have hne:=hΓ k (by rw[hk];simp)
  rcases hs.fr.map k kp es hk with h0 | ⟨es',e1,e2⟩
  ·rcases h2.at k with h3 | h3
   ·exact absurd h3 hne
   ·rw[h0] at h3
    cases hq:hp h' k with
    | lost=>exact .inl rfl
    | gone=>exact absurd hq hne
    | _=>rw[hq] at h3;exact h3.elim
  ·rcases h2.at k with h3 | h3
   ·exact absurd h3 hne
   ·rw[e1] at h3
    cases hq:hp h' k with
    | lost=>exact .inl rfl
    | gone=>exact absurd hq hne
    | map kp' ds=>rw[hq] at h3;obtain⟨rfl,h3⟩:=h3;exact .inr ⟨ds,rfl,e2⟩
    | _=>rw[hq] at h3;exact h3.elim
 ·have hne:=hΓ k (by rw[hk];simp)
  obtain⟨m',e1,e2,e3⟩:=hs.fr.tail k m hk
  rcases h2.at k with h3 | h3
  ·exact absurd h3 hne
  ·rw[e1] at h3
   cases hq:hp h' k with
   | gone=>exact absurd hq hne
   | tail n=>
    rw[hq] at h3
    obtain rfl:m'=n:=h3
    exact⟨m',rfl,e2,fun e=>by rw[Gh.cut_lo (by rw[e1];simp),Gh.cut_hi (by rw[e1];simp)];exact e3 e⟩
   | _=>rw[hq] at h3;exact h3.elim
theorem Pre.sub{S:Sl}{Γ:Ctx}{env env':Env}{h h':AHp}(hΓ:KeepO Γ.os0 h')(h1:SubE S env h' env')(h2:SubH S h h' h')(hg:∀ k xs,S.1=some (k,xs)→hp h' k=.gone)(hgm:∀ k kp xs,S.2.2=some (k,kp,xs)→hp h' k=.gone)(hv0:∀ k,S.2.1=some k→hp h k=.gone){g a w}(hs:Pre Γ g (lk env) (hp h) a w S)(hS:Sealed g h S)(hM:MSealed g h S):∃ g',SR Γ g' (lk env') (hp h') a w:=
 let ⟨g',h,_⟩:=hs.subT hΓ h1 h2 hg hgm hv0 hS hM;⟨g',h⟩
def SubT(Γ:Ctx)(env:Env)(h:AHp)(env':Env)(h':AHp):Prop:=∀ g a w,SR Γ g (lk env) (hp h) a w→∃ g',SR Γ g' (lk env') (hp h') a w∧g'.fz=g.fz∧∀ k b,Bset g' k (hp h' k) b→∃ j,Bset g j (hp h j) b
theorem SubT.sub{Γ env hh env' h'}(h:SubT Γ env hh env' h'):Sub Γ env hh env' h':=fun g a w hs=>let ⟨g',h1,_⟩:=h g a w hs;⟨g',h1⟩
theorem SubT.refl{Γ env h}:SubT Γ env h env h:=fun g a w hs=>⟨g,hs,rfl,fun k b hb=>⟨k,hb⟩⟩
theorem SubT.trans{Γ env h env1 h1 env2 h2}(a:SubT Γ env h env1 h1)(b:SubT Γ env1 h1 env2 h2):SubT Γ env h env2 h2:=fun g ac w hs=>
 let ⟨g1,s1,f1,b1⟩:=a g ac w hs;let ⟨g2,s2,f2,b2⟩:=b g1 ac w s1;⟨g2,s2,f2.trans f1,fun k x hx=>let ⟨j,hj⟩:=b2 k x hx;b1 j x hj⟩
theorem SubT.of{Γ:Ctx}{env env':Env}{h h':AHp}(hΓ:KeepO Γ.os0 h')(h1:SubE (none,none,none) env h' env')(h2:SubH (none,none,none) h h' h'):SubT Γ env h env' h':=fun g a w hs=>
 let ⟨p,q,r⟩:=hs.pre;let ⟨g',s1,s2,s3⟩:=p.subT hΓ h1 h2 (fun _ _ e=>by cases e) (fun _ _ _ e=>by cases e) (fun _ e=>by cases e) q r;⟨g',s1,s2,fun k b hb=>⟨k,s3 k b hb⟩⟩
theorem Sub.of{Γ:Ctx}{env env':Env}{h h':AHp}(hΓ:KeepO Γ.os0 h')(h1:SubE (none,none,none) env h' env')(h2:SubH (none,none,none) h h' h'):Sub Γ env h env' h':=(SubT.of hΓ h1 h2).sub
theorem Sub.vec{Γ:Ctx}{env env':Env}{h h':AHp}(hΓ:KeepO Γ.os0 h')(k:Nat)(hk:hp h k=.gone)(h1:SubE (none,some k,none) env h' env')(h2:SubH (none,some k,none) h h' h'):Sub Γ env h env' h':=fun g a w hs=>
 let ⟨p,q,r⟩:=hs.pre
 Pre.sub (S:=(none,some k,none)) hΓ h1 h2 (fun _ _ e=>by cases e) (fun _ _ _ e=>by cases e) (fun _ e=>by cases e;exact hk) ⟨p.size,p.dfr,p.tmps,p.fz,p.obj,p.inj,p.fr⟩ (fun _ _ e=>by cases e) (fun _ _ _ e=>by cases e)
theorem Sub.sealB{Γ:Ctx}{env env':Env}{h h':AHp}(hΓ:KeepO Γ.os0 h')(k:Nat){t:TypeId}{cs:List EV}{xs:List AV}(hk:hp h k=.box t cs)(hO:Γ.os0 k=.gone)(hO2:∀ j,Γ.os0 j≠.gone→hp h j≠.lost∧(∀ m,Γ.os0 j≠.tail m)∧∀ e,Γ.os0 j≠.ext e)(hx:toPs cs=some xs)(hg:hp h' k=.gone)(h1:SubE (some (k,xs),none,none) env h' env')(h2:SubH (some (k,xs),none,none) h h' h'):Sub Γ env h env' h':=fun g a w hs=>
 let ⟨g1,p,q⟩:=hs.sealB hk hO hO2 hx;p.sub hΓ h1 h2 (fun _ _ e=>by cases e;exact hg) (fun _ _ _ e=>by cases e) (fun _ e=>by cases e) q (fun _ _ _ e=>by cases e)
theorem Sub.mseal{Γ:Ctx}{env env':Env}{h h':AHp}(hΓ:KeepO Γ.os0 h')(k:Nat){kp:KP}{es es':List (AV×AV)}(hk:hp h k=.map kp es)(hni:kp≠.iter)(he:es.Perm es')(hO:Γ.os0 k=.gone)(hO2:∀ j,Γ.os0 j≠.gone→hp h j≠.lost∧(∀ m,Γ.os0 j≠.tail m)∧∀ e,Γ.os0 j≠.ext e)(hg:hp h' k=.gone)(h1:SubE (none,none,some (k,kp,es')) env h' env')(h2:SubH (none,none,some (k,kp,es')) h h' h'):Sub Γ env h env' h':=fun g a w hs=>
 let ⟨g1,p,q⟩:=hs.mseal hk hni he hO hO2;p.sub hΓ h1 h2 (fun _ _ e=>by cases e) (fun _ _ _ e=>by cases e;exact hg) (fun _ e=>by cases e) (fun _ _ e=>by cases e) q
def resOne(T:Tab)(env:Env)(h:AHp):ResultVar→Option EV
 | .tmp t=>some (lk env t)
 | .cell a ty=>
  match T.get ty,lk env a with
  | some ti,.loc k off=>
   (match hp h k with
   | .box _ cs=>bif ti.agg then (bif Nat.ble (off+ti.size) cs.length then some (.agg ((cs.drop off).take ti.size)) else none) else nth cs off
   | _=>none)
  | _,_=>none
def resAll(T:Tab)(env:Env)(h:AHp):List ResultVar→Option (List EV)
 | []=>some []
 | r::l=>match resOne T env h r,resAll T env h l with | some e,some es=>some (e::es) | _,_=>none
def retEV:List AV→EV
 | [x]=>.p x
 | xs=>.tup (xs.map .p)
def resSem(tmps:Array Value):ResultVar→Sem Value
 | .tmp t=>pure (tmps.getD t undef)
 | .cell a t=>do loadVar t (← asAddr (tmps.getD a undef))
theorem resOne_run{P:Program}{T:Tab}(hT:TabOk P T){env:Env}{h:AHp}{g:Gh}{w:World}{tmps:Array Value}(hr:∀ t,ERep g (hp h) (tmps.getD t undef) (lk env t))(hi:WInv g (hp h) w){r:ResultVar}{e:EV}(he:resOne T env h r=some e):
 ∃ v,(resSem tmps r).run P w=.ok v w∧ERep g (hp h) v e:=by
 cases r with
 | tmp t=>simp only[resOne,Option.some.injEq] at he;subst he;exact⟨_,rfl,hr t⟩
 | cell a ty=>
  simp only[resOne] at he
  cases hti:T.get ty with
  | none=>rw[hti] at he;simp at he
  | some ti=>
   rw[hti] at he
   have hra:=hr a
   cases hl:lk env a with
   | loc k off=>
    rw[hl] at he hra
    dsimp only at he
    cases hk:hp h k with
    | gone=>rw[hk] at he;simp at he
    | lost=>rw[hk] at he;simp at he
    | tail n=>rw[hk] at he;simp at he
    | map kp n=>rw[hk] at he;simp at he
    | ext e=>rw[hk] at he;simp at he
    | box t cs=>
     rw[hk] at he
     dsimp only at he
     have hob:=hi.obj k
     rw[hk] at hob
     obtain⟨vs,q2,q3,q4,q1⟩:=hob.cells
     have ea:=hra.loc_at hk
     have ex:∀ v,(Instr.loadAt ty (.pointer (some ⟨g.blk k,off,none⟩))).run P w=.ok v w→(resSem tmps (.cell a ty)).run P w=.ok v w:=fun v hv=>by
      simp only[resSem]
      rw[ea]
      simpa[asAddr,Instr.loadAt,Instr.sureAddr] using hv
     cases ha:ti.agg with
     | true=>
      rw[ha] at he
      simp only[cond_true] at he
      cases hb:Nat.ble (off+ti.size) cs.length with
      | false=>rw[hb] at he;simp at he
      | true=>
       rw[hb] at he
       simp only[cond_true,Option.some.injEq] at he
       subst he
       have hle:=Nat.le_of_ble_eq_true hb
       refine⟨.agg ((vs.drop off).take ti.size).toArray,ex _ (load_agg hti hT ha (by rw[List.length_take,List.length_drop];omega) fun i v hv=>?_),.agg _ _ ((q3.drop off).take _) (by simp[q2]) fun i v y hv hy=>?_⟩
       ·rw[List.getElem?_take] at hv
        split at hv
        ·rw[List.getElem?_drop] at hv
         exact q1 _ _ hv
        ·cases hv
       ·rw[List.getElem?_take] at hv hy
        split at hv
        ·rename_i hi'
         rw[if_pos hi'] at hy
         rw[List.getElem?_drop] at hv hy
         exact q4 _ _ _ hv hy
        ·cases hv
     | false=>
      rw[ha] at he
      simp only[cond_false] at he
      rw[nth_eq] at he
      have hlt:off<vs.length:=by
       rcases Nat.lt_or_ge off cs.length with h' | h'
       ·omega
       ·rw[List.getElem?_eq_none h'] at he;cases he
      exact⟨vs[off],ex _ (load_one hti hT ha (q1 _ _ (List.getElem?_eq_getElem hlt))),q4 _ _ _ (List.getElem?_eq_getElem hlt) he⟩
   | _=>rw[hl] at he;simp at he
theorem resAll_run{P:Program}{T:Tab}(hT:TabOk P T){env:Env}{h:AHp}{g:Gh}{w:World}{tmps:Array Value}(hr:∀ t,ERep g (hp h) (tmps.getD t undef) (lk env t))(hi:WInv g (hp h) w):∀ {rs:List ResultVar} {es:List EV},resAll T env h rs=some es →
 ∃ vs:List Value,(rs.mapM (resSem tmps)).run P w=Result.ok vs w∧vs.length=es.length∧∀ (i:Nat) v x,vs[i]?=some v→es[i]?=some x→ERep g (hp h) v x
 | [],es,he=>by simp only[resAll,Option.some.injEq] at he;subst he;exact⟨[],rfl,rfl,by intro i v x hv;simp at hv⟩
 | r::l,es,he=>by
  simp only[resAll] at he
  cases h1:resOne T env h r with
  | none=>rw[h1] at he;simp at he
  | some e=>
   cases h2:resAll T env h l with
   | none=>rw[h1,h2] at he;simp at he
   | some es'=>
    rw[h1,h2] at he;cases he
    obtain⟨v,v1,v2⟩:=resOne_run hT hr hi h1
    obtain⟨vs,w1,w2,w3⟩:=resAll_run hT hr hi h2
    refine⟨v::vs,?_,by simp[w2],fun i u x hu hx=>?_⟩
    ·rw[List.mapM_cons,Sem.run_bind,v1]
     simp only[Result.andThen_ok,Sem.run_bind,w1]
     rfl
    ·cases i with
     | zero=>simp at hu hx;subst hu;subst hx;exact v2
     | succ i=>simp at hu hx;exact w3 i u x hu hx
theorem results_run{P:Program}{T:Tab}(hT:TabOk P T){env:Env}{h:AHp}{g:Gh}{w:World}{fn:Func}{tmps:Array Value}(hr:∀ t,ERep g (hp h) (tmps.getD t undef) (lk env t))(hi:WInv g (hp h) w){es:List EV}(he:resAll T env h fn.results.toList=some es):
 ∃ vs:List Value,(results fn tmps).run P w=.ok (if _:vs.length=1 then vs.headD undef else .tuple vs.toArray) w∧vs.length=es.length∧∀ (i:Nat) v x,vs[i]?=some v→es[i]?=some x→ERep g (hp h) v x:=by
 obtain⟨vs,h1,h2,h3⟩:=resAll_run hT hr hi he
 refine⟨vs,?_,h2,h3⟩
 have e:results fn tmps=(do let vs ← fn.results.mapM (resSem tmps);pure (if h:vs.size=1 then vs[0] else .tuple vs)):=by
  unfold results
  congr 1
 rw[e,Sem.run_bind,Array.mapM_eq_mapM_toList,Sem.run_map]
 rw[h1]
 simp only[Result.andThen_ok]
 by_cases hl:vs.length=1
 ·obtain⟨v,rfl⟩:∃ v,vs=[v]:=by
   cases vs with
   | nil=>simp at hl
   | cons v r=>cases r with
    | nil=>exact⟨v,rfl⟩
    | cons a b=>simp at hl
  simp
 ·simp[hl]
def mkEnv:Nat→List AV→Env
 | _,[]=>[]
 | i,y::r=>(i,.p y)::mkEnv (i+1) r
theorem lk_mkEnv:∀ (ys:List AV) (i t:Nat),lk (mkEnv i ys) t=if t<i then .dead else match ys[t - i]? with | some y=>.p y | none=>.dead
 | [],i,t=>by simp[mkEnv,lk]
 | y::r,i,t=>by
  rw[mkEnv,lk_cons,lk_mkEnv r (i+1) t]
  by_cases h1:t=i
  ·subst h1;simp
  ·rw[if_neg h1]
   by_cases h2:t<i
   ·rw[if_pos h2,if_pos (by omega)]
   ·rw[if_neg h2,if_neg (by omega),show t - i=(t - (i+1))+1 by omega]
    simp
theorem start_SR{g:Gh}{w:World}(hz:FzOk g.fz w){vs:List Value}{ys:List AV}(hr:RepsL g.fz vs ys){n:Nat}(hn:ys.length≤n):
 SR ⟨w,g,noH,n,[],none⟩ g (lk (mkEnv 0 ys)) (hp []) { tmps:=vs.toArray++Array.replicate (n - vs.toArray.size) undef,defers:=[] } w:=by
 refine⟨by simp[hr.1];omega,DfOk.start rfl,fun t=>?_,⟨hz,fun k=>trivial,fun k j b hb=>hb.elim⟩,⟨Kept.refl _ _,FzLe.refl _,fun _ _ _=>rfl,fun k b hb=>hb.elim,(fun k t cs hk=>by cases hk),(fun k kp es hk=>by cases hk),fun k m hk=>by cases hk⟩⟩
 rw[lk_mkEnv]
 simp only[Nat.not_lt_zero,if_false,Nat.sub_zero]
 cases hy:ys[t]? with
 | none=>exact .dead _
 | some y=>
  have hlt:t<vs.length:=by
   rw[hr.1]
   rcases Nat.lt_or_ge t ys.length with h' | h'
   ·exact h'
   ·rw[List.getElem?_eq_none h'] at hy;cases hy
  refine .p _ _ (hr.2 t _ y ?_ hy)
  simp[hlt,Array.getElem?_append]
def Fin(T:Tab)(rs:List ResultVar)(y:EV):Kc
 | .exit _,_,_=>False
 | _,env,h=>∃ es xs,resAll T env h rs=some es∧toPs es=some xs∧y=retEV xs
def FinO(T:Tab)(rs:List ResultVar)(sz:Nat)(es:List AV):Kc
 | .exit _,_,_=>False
 | _,env,h=>0<sz∧∃ e,resAll T env h rs=some [e]∧(e=.full sz es∨∃ k,e=.own sz es k∧hp h k=.tail es.length)
theorem noXs{w:World}{g:Gh}{n:Nat}{ds:List Deferred}(b:Nat):¬ Ctx.X ⟨w,g,noH,n,ds,none⟩ b:=fun ⟨k,hk⟩=>hk
theorem SR.other{Γ g env H a w}(hs:SR Γ g env H a w){w':World}{X:Nat→Prop}(hk:Kept X w w')(hX:∀ b,X b→Γ.w0.heap.size≤b∧(∀ k,¬ Bset g k (H k) b)∧∃ o,w.heap[b]?=some (.deferred o)):SR { Γ with dfs:=a.defers } g env H a w':=by
 have hfz:∀ b o v,g.fz b o=some v→¬ X b:=fun b o v hz hx=>by
  obtain⟨_,_,x,h3⟩:=hX b hx
  have:=hs.inv.fz b o v hz
  unfold World.pk at this
  rw[h3] at this
  cases this
 refine⟨hs.size,DfOk.start rfl,hs.tmps,⟨fun b o v hz=>hk.pk (hs.inv.fz b o v hz) (hfz b o v hz),fun k=>(hs.inv.obj k).mono (GLe.refl _ _) rfl rfl rfl (fun b hb=>hk.block b (hs.inv.blk_lt hb) fun hx=>(hX b hx).2.1 k hb) fun _ _ _=>rfl,hs.inv.inj⟩,
  ⟨hs.fr.kept.trans hk fun b hb hx=>?_,hs.fr.fz,hs.fr.low,hs.fr.own,hs.fr.box,hs.fr.map,hs.fr.tail⟩⟩
 have:=(hX b hx).1
 omega
theorem leaves_marks{P:Program}{fn:Func}{tmps:Array Value}{R:Ending→World→Prop}:∀ (ds:List Nat) (w:World),ds.Nodup→(∀ d∈ds,w.heap[d]?=some (.deferred (some []))) →
 (∀ w',Kept (fun b=>b∈ds) w w'→∃ v,(results fn tmps).run P w'=.ok v w'∧R (.returned v) w')→LeavesInM Fence.wide 0 P fn tmps R (ds.map markOf) .returning w
 | [],w,_,_,h=>h w (Kept.refl _ _)
 | d::ds,w,hn,hd,h=>by
  have h0:=hd d (by simp)
  have hlt:=lt_of_heap h0
  have hne:∀ x∈ds,x≠d:=fun x hx e=>(List.nodup_cons.1 hn).1 (e▸hx)
  refine⟨nofun,.inl ⟨d,_,rfl,run_takeDeferred h0,leaves_marks ds _ (List.nodup_cons.1 hn).2 (fun x hx=>?_) fun w' hk=>h w' ?_⟩⟩
  ·rw[World.putObj_heap_other (hne x hx)];exact hd x (by simp[hx])
  ·have k1:Kept (fun b=>b∈d::ds) w (w.putObj d (.deferred none)):=⟨rfl,rfl,rfl,by simp[World.putObj],fun k hk hx=>World.putObj_heap_other (fun e=>hx (by simp[e]))⟩
   exact k1.trans hk fun b _ hb=>by simp[hb]
theorem calls_marks{P:Program}{f:FuncId}{fn:Func}{c:Code}{args:Array Value}{w:World}{R:Ending→World→Prop}(hf:P.funcs[f]?=some fn)(hb:fn.body=some c){Γ:Ctx}(hrd:Γ.rd=none)(hd:Γ.dfs=[])
 (h:c.wpIn Γ.F 0 P (fun e a' w'=>(e=.normal∨e=.ret)∧∃ g env h,SR Γ g (lk env) (hp h) a' w'∧∀ w'',SR { Γ with dfs:=a'.defers } g (lk env) (hp h) a' w''→∃ v,(results fn a'.tmps).run P w''=.ok v w''∧R (.returned v) w'')
  { tmps:=args++Array.replicate (fn.ntmps - args.size) undef,defers:=[] } w):Calls P f args w R:=by
 have eF:Γ.F=Fence.wide:=by unfold Ctx.F;rw[hrd];rfl
 rw[eF] at h
 refine(callsIn_wide (n:=0)).1 (callsIn_of_wp_marks hf hb trivial (wpIn_mono h ?_))
 rintro e a' w' ⟨he,g,env,h',hs,hq⟩
 obtain⟨ds,h1,h2,h3⟩:=hs.dfr
 have key:LeavesInM Fence.wide 0 P fn a'.tmps R a'.defers .returning w':=by
  rw[h1,hd,List.append_nil]
  refine leaves_marks ds w' h2 (fun d hd=>(h3 d hd).1) fun w'' hk=>hq w'' (hs.other hk fun b hb=>⟨(h3 b hb).2.1,(h3 b hb).2.2,_,(h3 b hb).1⟩)
 rcases he with rfl | rfl <;> exact key
theorem AFun.intro{P : Program}{T : Tab}(hT : TabOk P T){f : FuncId}{fn : Func}{c : Code}{ys : List AV}{y : EV}(hf : P.funcs[f]? = some fn)(hb : fn.body = some c)(hname : (fn.name == "runtime.NumGoroutine") = false)(hn : ys.length ≤ fn.ntmps)
 (hh:∀ Γ:Ctx,Γ.os0=noH→Γ.ntmps=fn.ntmps→Γ.dfs=[]→Γ.rd=none→AW P Γ c (Fin T fn.results.toList y) (mkEnv 0 ys) []):AFun P f ys y:=by
 refine⟨⟨fn,hf,hname,by rw[hb];rfl⟩,fun fz w vs hz hr=>?_⟩
 let g:Gh:=⟨fz,fun _=>0,fun _=>0,fun _=>0,fun _=>False⟩
 refine calls_marks hf hb (Γ:=⟨w,g,noH,fn.ntmps,[],none⟩) rfl rfl (wpIn_mono ((hh ⟨w,g,noH,fn.ntmps,[],none⟩ rfl rfl rfl rfl).out g _ w (start_SR hz hr hn) 0) fun e a' w' hq=>?_)
 obtain⟨ae,env',h',g',he,hk,hs⟩:=hq
 have key:(∃ es xs,resAll T env' h' fn.results.toList=some es∧toPs es=some xs∧y=retEV xs)→∀ w',SR ⟨w,g,noH,fn.ntmps,a'.defers,none⟩ g' (lk env') (hp h') a' w'→∃ v,(results fn a'.tmps).run P w'=.ok v w'∧∃ v' fz',Ending.returned v=.returned v'∧Kept (fun _=>False) w w'∧FzStep w.heap.size fz fz'∧FzOk fz' w'∧∀ g:Gh,g.fz=fz'→ERep g noH v' y:=by
  rintro⟨es,xs,h1,h2,rfl⟩ w' hs
  obtain⟨vs',r1,r2,r3⟩:=results_run hT (fn:=fn) hs.tmps hs.inv h1
  obtain⟨p1,p2⟩:=toPl_rep h2 r2 r3
  refine⟨_,r1,_,g'.fz,rfl,hs.fr.kept.mono fun b _ hX=>noXs b hX,⟨hs.fr.fz,fun b hb=>hs.fr.low b hb (noXs b)⟩,hs.inv.fz,fun g2 hg2=>?_⟩
  have hone:∀ x v,Rep g'.fz v x→ERep g2 noH v (.p x):=fun x v h=>.p _ _ (hg2▸h)
  by_cases hl:vs'.length=1
  ·obtain⟨v,rfl⟩:∃ v,vs'=[v]:=by
    cases vs' with
    | nil=>simp at hl
    | cons v r=>cases r with
     | nil=>exact⟨v,rfl⟩
     | cons a b=>simp at hl
   obtain⟨x,rfl⟩:∃ x,xs=[x]:=by
    cases xs with
    | nil=>simp at p1
    | cons v r=>cases r with
     | nil=>exact⟨v,rfl⟩
     | cons a b=>simp at p1
   exact hone x v (p2 0 v x rfl rfl)
  ·rw[dif_neg hl]
   have hx:retEV xs=.tup (xs.map .p):=by
    unfold retEV
    split
    ·rename_i x;simp at p1;exact absurd p1 hl
    ·rfl
   rw[hx]
   refine .tup _ _ (by simpa using p1) fun i v z hv hz'=>?_
   rw[List.getElem?_map] at hz'
   cases hq:xs[i]? with
   | none=>rw[hq] at hz';cases hz'
   | some x=>rw[hq] at hz';cases hz';exact hone x v (p2 i v x hv hq)
 cases ae with
 | normal=>cases e <;> first | exact he.elim | exact⟨.inl rfl,g',env',h',hs,key hk⟩
 | exit i=>exact hk.elim
 | ret=>cases e <;> first | exact he.elim | exact⟨.inr rfl,g',env',h',hs,key hk⟩
theorem AFunO.intro{P : Program}{T : Tab}(hT : TabOk P T){f : FuncId}{fn : Func}{c : Code}{ys : List AV}{sz : Nat}{rs : List AV}(hf : P.funcs[f]? = some fn)(hb : fn.body = some c)(hname : (fn.name == "runtime.NumGoroutine") = false)(hn : ys.length ≤ fn.ntmps)
 (hh:∀ Γ:Ctx,Γ.os0=noH→Γ.ntmps=fn.ntmps→Γ.dfs=[]→Γ.rd=none→AW P Γ c (FinO T fn.results.toList sz rs) (mkEnv 0 ys) []):AFunO P f ys sz rs:=by
 refine⟨⟨fn,hf,hname,by rw[hb];rfl⟩,fun fz w vs hz hr=>?_⟩
 let g:Gh:=⟨fz,fun _=>0,fun _=>0,fun _=>0,fun _=>False⟩
 refine calls_marks hf hb (Γ:=⟨w,g,noH,fn.ntmps,[],none⟩) rfl rfl (wpIn_mono ((hh ⟨w,g,noH,fn.ntmps,[],none⟩ rfl rfl rfl rfl).out g _ w (start_SR hz hr hn) 0) fun e a' w' hq=>?_)
 obtain⟨ae,env',h',g',he,hk,hs⟩:=hq
 have key:(0<sz∧∃ e,resAll T env' h' fn.results.toList=some [e]∧(e=.full sz rs∨∃ k,e=.own sz rs k∧hp h' k=.tail rs.length))→∀ w',SR ⟨w,g,noH,fn.ntmps,a'.defers,none⟩ g' (lk env') (hp h') a' w'→∃ v,(results fn a'.tmps).run P w'=.ok v w'∧∃ v' fz',Ending.returned v=.returned v'∧Kept (fun _=>False) w w'∧FzStep w.heap.size fz fz'∧FzOk fz' w'∧OwnRes fz' w.heap.size w' v' sz rs:=by
  rintro⟨h0,x,h1,h2⟩ w' hs
  obtain⟨vs',r1,r2,r3⟩:=results_run hT (fn:=fn) hs.tmps hs.inv h1
  obtain⟨v,rfl⟩:∃ v,vs'=[v]:=by
   cases vs' with
   | nil=>simp at r2
   | cons v r=>cases r with
    | nil=>exact⟨v,rfl⟩
    | cons a b=>simp at r2
  refine⟨_,r1,_,g'.fz,rfl,hs.fr.kept.mono fun b _ hX=>noXs b hX,⟨hs.fr.fz,fun b hb=>hs.fr.low b hb (noXs b)⟩,hs.inv.fz,?_⟩
  have hv:=r3 0 v x rfl rfl
  show OwnRes g'.fz w.heap.size w' v sz rs
  rcases h2 with rfl | ⟨k,rfl,hk⟩
  ·cases hv with
   | full p n _ _ hr=>
    obtain⟨_,_,e,_⟩:=hr.slice_len
    cases e
    exact⟨p,rs.length,rfl,hr,.inl rfl⟩
  ·cases hv with
   | own p n cap _ _ _ m hr hm hle hroom=>
    obtain⟨_,_,e,hcap,_⟩:=hr.slice_len
    cases e
    rw[hk] at hm;cases hm
    refine⟨p,cap,rfl,hr,?_⟩
    rcases hroom rfl with h3 | ⟨o,rfl,h3,h4⟩
    ·exact .inl h3
    ·by_cases hlt:g'.lo k<g'.hi k
     ·have hob:=hs.inv.obj k
      rw[hk] at hob
      obtain⟨cur,t,c1,c2,c3⟩:=hob hlt
      refine .inr ⟨g'.blk k,o,rfl,?_,⟨cur,t,c1,by omega⟩,fun q q1 q2=>c3 q (by omega) (by omega)⟩
      rcases hs.fr.own k (g'.blk k) (by rw[hk];exact⟨hlt,rfl⟩) with hX | hX
      ·exact absurd hX (noXs _)
      ·exact hX
     ·left
      have:cap*sz≤rs.length*sz:=by omega
      exact Nat.le_antisymm (Nat.le_of_mul_le_mul_right this h0) hcap
 cases ae with
 | normal=>cases e <;> first | exact he.elim | exact⟨.inl rfl,g',env',h',hs,key hk⟩
 | exit i=>exact hk.elim
 | ret=>cases e <;> first | exact he.elim | exact⟨.inr rfl,g',env',h',hs,key hk⟩
def FinV(T:Tab)(rs:List ResultVar)(sz:Nat)(t:TypeId)(n:Nat)(ys:List AV):Kc
 | .exit _,_,_=>False
 | _,env,h=>∃ k cs,resAll T env h rs=some [.arr sz k 0 n]∧hp h k=.box t cs∧toPs cs=some ys∧n*sz=cs.length
theorem AFunV.intro{P : Program}{T : Tab}(hT : TabOk P T){f : FuncId}{fn : Func}{c : Code}{ys : List AV}{sz : Nat}{t : TypeId}{n : Nat}{rs : List AV}(hf : P.funcs[f]? = some fn)(hb : fn.body = some c)(hname : (fn.name == "runtime.NumGoroutine") = false)(hn : ys.length ≤ fn.ntmps)
 (hh:∀ Γ:Ctx,Γ.os0=noH→Γ.ntmps=fn.ntmps→Γ.dfs=[]→Γ.rd=none→AW P Γ c (FinV T fn.results.toList sz t n rs) (mkEnv 0 ys) []):AFunV P f ys sz t n rs:=by
 refine⟨⟨fn,hf,hname,by rw[hb];rfl⟩,fun fz w vs hz hr=>?_⟩
 let g:Gh:=⟨fz,fun _=>0,fun _=>0,fun _=>0,fun _=>False⟩
 refine calls_marks hf hb (Γ:=⟨w,g,noH,fn.ntmps,[],none⟩) rfl rfl (wpIn_mono ((hh ⟨w,g,noH,fn.ntmps,[],none⟩ rfl rfl rfl rfl).out g _ w (start_SR hz hr hn) 0) fun e a' w' hq=>?_)
 obtain⟨ae,env',h',g',he,hk,hs⟩:=hq
 have key:(∃ k cs,resAll T env' h' fn.results.toList=some [.arr sz k 0 n]∧hp h' k=.box t cs∧toPs cs=some rs∧n*sz=cs.length)→∀ w',SR ⟨w,g,noH,fn.ntmps,a'.defers,none⟩ g' (lk env') (hp h') a' w'→∃ v,(results fn a'.tmps).run P w'=.ok v w'∧∃ v' fz',Ending.returned v=.returned v'∧Kept (fun _=>False) w w'∧FzStep w.heap.size fz fz'∧FzOk fz' w'∧VecRes fz' w.heap.size w' v' sz t n rs:=by
  rintro⟨k,cs,h1,h2,h3,h4⟩ w' hs
  obtain⟨vs',r1,r2,r3⟩:=results_run hT (fn:=fn) hs.tmps hs.inv h1
  obtain⟨v,rfl⟩:∃ v,vs'=[v]:=by
   cases vs' with
   | nil=>simp at r2
   | cons v r=>cases r with
    | nil=>exact⟨v,rfl⟩
    | cons a b=>simp at r2
  refine⟨_,r1,_,g'.fz,rfl,hs.fr.kept.mono fun b _ hX=>noXs b hX,⟨hs.fr.fz,fun b hb=>hs.fr.low b hb (noXs b)⟩,hs.inv.fz,?_⟩
  have hv:=r3 0 v _ rfl rfl
  show VecRes g'.fz w.heap.size w' v sz t n rs
  have hob:=hs.inv.obj k
  rw[h2] at hob
  obtain⟨p,cap,rfl,a1,a2,_,hro⟩:=hv.arr_inv
  rcases hro with h9 | ⟨t',cs',hk',hb',hroom⟩
  ·rw[h2] at h9;cases h9
  rw[h2] at hk'
  cases hk'
  obtain⟨us,w2,w3,w4,w1⟩:=hob.cells
  obtain⟨p1,p2⟩:=toPl_rep h3 w2 w4
  refine⟨p,cap,rfl,a1,a2,by rw[h4,← p1,w2],?_⟩
  rcases hroom with ⟨hlt,rfl,hhi⟩ | ⟨hz0,rfl⟩
  ·obtain⟨row,q1,⟨q2,q2'⟩,q3,q4,q5⟩:=hob.2 hlt
   right
   refine⟨g'.blk k,row,rfl,?_,q1,by omega,by omega,by omega,q3,fun i v x hv hx=>?_,q5⟩
   ·rcases hs.fr.own k (g'.blk k) (by rw[h2];exact⟨hlt,rfl⟩) with hX | hX
    ·exact absurd hX (noXs _)
    ·exact hX
   ·have hi:i<us.length:=by rw[p1];exact(List.getElem?_eq_some_iff.1 hx).1
    have e1:=w1 i _ (List.getElem?_eq_getElem hi)
    rw[cell_of_row _ _ _ _ _ _ q1] at e1
    have:us[i]=v:=by
     have e2:row[i]?=some us[i]:=by simpa using e1
     rw[hv] at e2;exact(Option.some.inj e2).symm
    exact p2 i v x (by rw[List.getElem?_eq_getElem hi,this]) hx
  ·left
   refine⟨rfl,?_⟩
   have h5:n=0:=by omega
   exact List.eq_nil_of_length_eq_zero (by rw[← p1,w2,← h4,h5,Nat.zero_mul])
 cases ae with
 | normal=>cases e <;> first | exact he.elim | exact⟨.inl rfl,g',env',h',hs,key hk⟩
 | exit i=>exact hk.elim
 | ret=>cases e <;> first | exact he.elim | exact⟨.inr rfl,g',env',h',hs,key hk⟩
theorem wrap64_in{n:Int}(h1:-9223372036854775808≤n)(h2:n≤9223372036854775807):IntKind.i64.wrap n=n:=by rw[IntKind.wrap_i64];omega
theorem ngo_in{v:Int}{k:Int→Prop}(h1:-9223372036854775808≤v:=by omega)(h2:v≤9223372036854775807:=by omega)(hk:k v):ngo (IntKind.i64.wrap v) k:=⟨v,wrap64_in h1 h2,hk⟩
theorem igo_map{α:Type}{l:List α}{f:α→AV}{i:Int}{k:AV→Prop}(n:Nat)(hn:i=n)(hl:n<l.length)(hk:k (f l[n])):igo (l.map f) i k:=⟨n,f l[n],hn,by simp[hl],hk⟩
def sw(d k j:Nat):Nat:=bif Nat.beq j d then k else bif Nat.beq j k then d else j
theorem sw_eq(d k j:Nat):sw d k j=if j=d then k else if j=k then d else j:=by
 have hb:∀ a b:Nat,Nat.beq a b=decide (a=b):=fun a b=>by
  by_cases h:a=b
  ·subst h;simp
  ·cases hq:Nat.beq a b with
   | false=>simp[h]
   | true=>exact absurd (nbt hq) h
 simp[sw,hb,Bool.cond_decide]
theorem sw_sw(d k j:Nat):sw d k (sw d k j)=j:=by
 simp only[sw_eq]
 split
 ·rename_i h;subst h;split
  ·rename_i h;exact h
  ·rw[if_pos rfl]
 ·split
  ·rename_i h;rw[if_pos rfl];exact h.symm
  ·rfl
def renE(d k:Nat):EV→EV
 | .loc j off=>.loc (sw d k j) off
 | .own sz es j=>.own sz es (sw d k j)
 | .mtok j=>.mtok (sw d k j)
 | .arr sz j off n=>.arr sz (sw d k j) off n
 | .agg cs=>.agg (renL cs)
 | .fn f a b=>.fn f (renL a) (renL b)
 | .tup vs=>.tup (renL vs)
 | e=>e
where renL:List EV→List EV
 | []=>[]
 | e::r=>renE d k e::renL r
def renO(d k:Nat):AObj→AObj
 | .box t cs=>.box t (renE.renL d k cs)
 | o=>o
def renEnv(d k:Nat):Env→Env
 | []=>[]
 | (t,e)::r=>(t,renE d k e)::renEnv d k r
def renH(d k:Nat):AHp→AHp
 | []=>[]
 | (j,o)::r=>(sw d k j,renO d k o)::renH d k r
theorem renL_get(d k:Nat):∀ (l:List EV) (i:Nat),(renE.renL d k l)[i]?=l[i]?.map (renE d k)
 | [],i=>by simp[renE.renL]
 | e::r,0=>by simp[renE.renL]
 | e::r,i+1=>by simp only[renE.renL,List.getElem?_cons_succ];exact renL_get d k r i
theorem renL_length(d k:Nat):∀ (l:List EV),(renE.renL d k l).length=l.length
 | []=>rfl
 | e::r=>by simp[renE.renL,renL_length d k r]
theorem renL_p(d k:Nat):∀ (l:List AV),renE.renL d k (l.map .p)=l.map .p
 | []=>rfl
 | e::r=>by simp only[List.map_cons,renE.renL,renL_p d k r,renE]
theorem lk_ren(d k:Nat):∀ (env:Env) (t:Nat),lk (renEnv d k env) t=renE d k (lk env t)
 | [],t=>rfl
 | (j,e)::r,t=>by
  simp only[renEnv,lk]
  cases Nat.beq j t with
  | true=>rfl
  | false=>exact lk_ren d k r t
theorem hp_ren(d k:Nat):∀ (h:AHp) (j:Nat),hp (renH d k h) j=renO d k (hp h (sw d k j))
 | [],j=>rfl
 | (i,o)::r,j=>by
  rw[renH,hp_cons,hp_cons]
  by_cases hj:j=sw d k i
  ·subst hj;rw[if_pos rfl,if_pos (sw_sw d k i)]
  ·rw[if_neg hj,if_neg (fun e=>hj (by rw[← e,sw_sw])),hp_ren d k r j]
def Gh.ren(g:Gh)(d k:Nat):Gh:={ fz:=g.fz,blk:=fun j=>g.blk (sw d k j),lo:=fun j=>g.lo (sw d k j),hi:=fun j=>g.hi (sw d k j),dom:=g.dom }
def renHp(d k:Nat)(H:Hp):Hp:=fun j=>renO d k (H (sw d k j))
theorem ERep.ren{g H v e}(d k:Nat)(h:ERep g H v e):ERep (g.ren d k) (renHp d k H) v (renE d k e):=by
 have hb:∀ j,(g.ren d k).blk (sw d k j)=g.blk j:=fun j=>by simp[Gh.ren,sw_sw]
 have hl:∀ j,(g.ren d k).lo (sw d k j)=g.lo j:=fun j=>by simp[Gh.ren,sw_sw]
 have hh:∀ j,(g.ren d k).hi (sw d k j)=g.hi j:=fun j=>by simp[Gh.ren,sw_sw]
 have hH:∀ j,renHp d k H (sw d k j)=renO d k (H j):=fun j=>by simp[renHp,sw_sw]
 induction h with
 | dead v=>exact .dead v
 | p v x h=>exact .p v x h
 | loc j off b h=>
  refine .loc _ off b ?_
  rcases h with h | ⟨rfl,t,cs,h⟩
  ·exact .inl (by rw[hH,h];rfl)
  ·exact .inr ⟨(hb j).symm,t,_,by rw[hH,h];rfl⟩
 | own p n cap sz es j m h hk hm hr=>exact .own p n cap sz es _ m h (by rw[hH,hk];rfl) hm (by rw[hb,hl,hh];exact hr)
 | full p n sz es h=>exact .full p n sz es h
 | eptr b o sz x hs h=>exact .eptr b o sz x hs h
 | arr p sz j off n cap hc hm hn h=>
  refine .arr p sz _ off n cap hc hm hn ?_
  rcases h with h | ⟨t,cs,h1,h2,h3⟩
  ·exact .inl (by rw[hH,h];rfl)
  ·exact .inr ⟨t,_,by rw[hH,h1];rfl,by rw[renL_length];exact h2,by rw[hb,hh];exact h3⟩
 | agg vs cs h1 hl _ ih=>
  refine .agg vs _ h1 (by rw[renL_length];exact hl) fun i v x hv hx=>?_
  rw[renL_get] at hx
  cases hq:cs[i]? with
  | none=>rw[hq] at hx;cases hx
  | some y=>rw[hq] at hx;cases hx;exact ih i v y hv hq
 | fn f vf vc first caps h1 h2 _ _ ih1 ih2=>
  refine .fn f vf vc _ _ (by rw[renL_length];exact h1) (by rw[renL_length];exact h2) (fun i v x hv hx=>?_) fun i v x hv hx=>?_
  ·rw[renL_get] at hx
   cases hq:first[i]? with
   | none=>rw[hq] at hx;cases hx
   | some y=>rw[hq] at hx;cases hx;exact ih1 i v y hv hq
  ·rw[renL_get] at hx
   cases hq:caps[i]? with
   | none=>rw[hq] at hx;cases hx
   | some y=>rw[hq] at hx;cases hx;exact ih2 i v y hv hq
 | tup vs xs h1 _ ih=>
  refine .tup vs _ (by rw[renL_length];exact h1) fun i v x hv hx=>?_
  rw[renL_get] at hx
  cases hq:xs[i]? with
  | none=>rw[hq] at hx;cases hx
  | some y=>rw[hq] at hx;cases hx;exact ih i v y hv hq
 | mtok j r h=>
  refine .mtok _ r ?_
  rcases h with h | ⟨rfl,kp,es,hn,h⟩
  ·exact .inl (by rw[hH,h];rfl)
  ·exact .inr ⟨(hb j).symm,kp,es,hn,by rw[hH,h];rfl⟩
 | itok j r h=>
  refine .itok _ r ?_
  rcases h with h | ⟨rfl,es,h⟩
  ·exact .inl (by rw[hH,h];rfl)
  ·exact .inr ⟨(hb j).symm,es,by rw[hH,h];rfl⟩
theorem Bset.ren{g:Gh}{H:Hp}{d k j b:Nat}(h:Bset (g.ren d k) j (renHp d k H j) b):Bset g (sw d k j) (H (sw d k j)) b:=by
 simp only[renHp] at h
 cases hq:H (sw d k j) <;> rw[hq] at h <;> exact h
theorem SubT.ren{Γ:Ctx}(d k:Nat)(hd:Γ.os0 d=.gone)(hk0:Γ.os0 k=.gone){env:Env}{h:AHp}:SubT Γ env h (renEnv d k env) (renH d k h):=by
 intro g a w hs
 have e1:lk (renEnv d k env)=fun t=>renE d k (lk env t):=funext fun t=>lk_ren d k env t
 have e2:hp (renH d k h)=renHp d k (hp h):=funext fun j=>hp_ren d k h j
 rw[e1,e2]
 refine⟨g.ren d k,⟨hs.size,hs.dfr.sub (fun j b hb=>⟨_,Bset.ren hb⟩),fun t=>(hs.tmps t).ren d k,⟨hs.inv.fz,fun j=>?_,fun i j b h1 h2=>?_⟩,⟨hs.fr.kept,hs.fr.fz,hs.fr.low,fun j b hb=>hs.fr.own _ b (Bset.ren hb),fun j t cs hj=>?_,fun j kp es hj=>?_,fun j m hj=>?_⟩⟩,rfl,fun j b hb=>⟨_,Bset.ren hb⟩⟩
 ·have hob:=hs.inv.obj (sw d k j)
  simp only[renHp]
  cases hq:hp h (sw d k j) with
  | gone=>trivial
  | lost=>trivial
  | tail m=>rw[hq] at hob;exact hob
  | map kp es=>rw[hq] at hob;exact hob
  | ext e=>rw[hq] at hob;exact hob
  | box t cs=>
   rw[hq] at hob
   refine⟨fun h0=>?_,fun hlt=>?_⟩
   ·have:=hob.1 h0
    exact List.eq_nil_of_length_eq_zero (by rw[renL_length,this];rfl)
   ·obtain⟨vs,h1,h2,h3,h4,h5⟩:=hob.2 hlt
    refine⟨vs,h1,by rw[renL_length];exact h2,h3,fun i v x hv hx=>?_,h5⟩
    rw[renL_get] at hx
    cases hq:cs[i]? with
    | none=>rw[hq] at hx;cases hx
    | some y=>rw[hq] at hx;cases hx;exact(h4 i v y hv hq).ren d k
 ·have:=hs.inv.inj _ _ b (Bset.ren h1) (Bset.ren h2)
  have h3:=congrArg (sw d k) this
  rwa [sw_sw,sw_sw] at h3
 ·have hn:sw d k j=j:=by
   have h1:j≠d:=fun e=>by rw[e,hd] at hj;cases hj
   have h2:j≠k:=fun e=>by rw[e,hk0] at hj;cases hj
   rw[sw_eq,if_neg h1,if_neg h2]
  rcases hs.fr.box j t cs hj with h0 | ⟨cs',e1,e2,e3,e4⟩
  ·left;simp only[renHp,hn,h0,renO]
  ·right;exact⟨renE.renL d k cs',by simp only[renHp,hn,e1,renO],by rw[renL_length];exact e2,by simp only[Gh.ren,hn];exact e3,by simp only[Gh.ren,hn];exact e4⟩
 ·have hn:sw d k j=j:=by
   have h1:j≠d:=fun e=>by rw[e,hd] at hj;cases hj
   have h2:j≠k:=fun e=>by rw[e,hk0] at hj;cases hj
   rw[sw_eq,if_neg h1,if_neg h2]
  rcases hs.fr.map j kp es hj with h0 | ⟨es',e1,e2⟩
  ·left;simp only[renHp,hn,h0,renO]
  ·right;exact⟨es',by simp only[renHp,hn,e1,renO],by simp only[Gh.ren,hn];exact e2⟩
 ·have hn:sw d k j=j:=by
   have h1:j≠d:=fun e=>by rw[e,hd] at hj;cases hj
   have h2:j≠k:=fun e=>by rw[e,hk0] at hj;cases hj
   rw[sw_eq,if_neg h1,if_neg h2]
  obtain⟨m',e1,e2,e3⟩:=hs.fr.tail j m hj
  exact⟨m',by simp only[renHp,hn,e1,renO],e2,fun e=>by simp only[Gh.ren,hn];exact e3 e⟩
theorem Sub.ren{Γ:Ctx}(d k:Nat)(hd:Γ.os0 d=.gone)(hk0:Γ.os0 k=.gone){env:Env}{h:AHp}:Sub Γ env h (renEnv d k env) (renH d k h):=(SubT.ren d k hd hk0).sub
end Go.Ab
