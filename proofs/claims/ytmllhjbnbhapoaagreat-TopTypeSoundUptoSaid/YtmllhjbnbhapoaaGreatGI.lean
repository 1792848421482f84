/- Texts SeqD, SeqE, JA, JB, E4, P9, E5. Conditions: none. -/
import Derived.Test.YtmllhjbnbhapoaaGreatGH
import Derived.Deep.QuietTactic
import Derived.Deep.LoopGhost
import Derived.Deep.RegionHeld3
import Derived.BigQuiet
import Derived.Lib.Hide
import Derived.Deep.RegionLawGrows
import Derived.Deep.AppendLies
import Derived.Laws.OwnMore
import Derived.Carry
import Derived.Test.YtmllhjbnbhapoaaGreatGG
set_option linter.unusedSimpArgs false
set_option linter.unusedVariables false
namespace Go.Proofs.YtmllhjbnbhapoaaGreat
open Go
section
variable {P:Program} {ops:Array Oper} {Q:Exit→Act→World→Prop} {md:Region.Mode}
def RStill(P:Program)(v:Value)(w:World):Result Next→Prop
 | .ok (.value u) w'=>u=v∧w'=w
 | .ok (.enter f args) w'=>Calls P f args w' fun e w''=>e=.returned v∧w''=w
 | _=>False
def YP(P:Program)(ops:Array Oper)(S:World→Prop)(o:Oper)(v:Value)(a:Act):Prop:=
 (Region.wanted o (yielded ops a.tmps)=true∧∀ w,S w→RStill P v w ((execOp a.eval o).run P w)) ∨
 (Region.wanted o (yielded ops a.tmps)=false∧v=undef)
def RTo(P:Program)(K:Value→World→Prop):Result Next→Prop
 | .ok (.value u) w'=>K u w'
 | .ok .skip w'=>K undef w'
 | .ok (.enter f args) w'=>Calls P f args w' fun e w''=>∃ v,e=.returned v∧K v w''
 | _=>False
theorem RTo.mono{K K':Value→World→Prop}{r:Result Next}(h:RTo P K r)(hk:∀ v w,K v w→K' v w):RTo P K' r:=by
 cases r with
 | ok n w'=>
  cases n <;> simp only[RTo] at h ⊢
  case value u=>exact hk _ _ h
  case skip=>exact hk _ _ h
  case enter f args=>exact Calls.mono h fun e w'' he=>by obtain⟨v,h1,h2⟩:=he;exact⟨v,h1,hk _ _ h2⟩
 | halt x w'=>exact h
theorem RTo.of_still{v:Value}{w:World}{r:Result Next}(h:RStill P v w r){K:Value→World→Prop}(hk:K v w):RTo P K r:=by
 cases r with
 | ok n w'=>
  cases n <;> simp only[RStill,RTo] at h ⊢
  case value u=>rw[h.1,h.2];exact hk
  case enter f args=>exact Calls.mono h fun e w'' he=>by obtain⟨h1,h2⟩:=he;subst h2;exact⟨v,h1,hk⟩
 | halt x w'=>exact absurd h (by simp[RStill])
theorem YP.of_same{S S':World→Prop}{o:Oper}{v:Value}{a a':Act}(hy:YP P ops S o v a)(hS:∀ x,S' x→S x)(he:execOp a'.eval o=execOp a.eval o)
 (hw:Region.wanted o (yielded ops a'.tmps)=Region.wanted o (yielded ops a.tmps)):YP P ops S' o v a':=by
 unfold YP at *
 rw[he,hw]
 rcases hy with ⟨h1,h2⟩ | h
 ·exact .inl ⟨h1,fun w h=>h2 w (hS w h)⟩
 ·exact .inr h
theorem wpOp_to{i:Nat}{o:Oper}{a:Act}(hi:ops[i]?=some o)(hw:Region.wanted o (yielded ops a.tmps)=true)
 {K:Act→World→Prop}{w:World}(hr:RTo P (fun v w'=>K (a.put o.dst v) w') ((execOp a.eval o).run P w)):wpOp P ops Q i K a w:=by
 unfold Go.wpOp
 simp only[hi,hw,if_true]
 refine .inl ?_
 unfold Oper.wp
 generalize (execOp a.eval o).run P w=r at *
 cases r with
 | ok n w'=>
  cases n <;> simp only[RTo] at hr <;> simp only[Oper.upon]
  case value u=>exact hr
  case skip=>exact hr
  case enter f args=>exact Calls.mono hr fun e w'' he=>by obtain⟨v,rfl,hs⟩:=he;exact hs
 | halt x w'=>exact absurd hr (by simp[RTo])
def CertD(P:Program)(md:Region.Mode)(ops:Array Oper)(Q:Exit→Act→World→Prop):Nat→Array Bool→Act→(World→Prop)→Prop
 | 0,listed,a,S=>Region.ready md ops listed=[]∧∀ w,S w→Q .normal a w
 | n+1,listed,a,S=>
  (∃ i oi v,ops[i]?=some oi ∧
   (∀ j oj,ops[j]?=some oj→j≠i→listed.getD j true=false→(∀ e∈oj.after,Region.binds md e=true→e.on≠i)→oi.apart ops oj=true) ∧
   i∈Region.ready md ops listed∧YP P ops S oi v a∧CertD P md ops Q n (listed.setIfInBounds i true) (a.put oi.dst v) S) ∨
  (∃ i oi,ops[i]?=some oi∧Region.ready md ops listed=[i]∧Region.wanted oi (yielded ops a.tmps)=true ∧
   ∀ w,S w→RTo P (fun v w'=>∃ S':World→Prop,S' w'∧(∀ x,S' x→S x)∧CertD P md ops Q n (listed.setIfInBounds i true) (a.put oi.dst v) S') ((execOp a.eval oi).run P w))
def FrontD(P:Program)(md:Region.Mode)(ops:Array Oper)(Q:Exit→Act→World→Prop)(n:Nat)(listed:Array Bool)(a:Act)(S:World→Prop)(j:Nat):Prop:=
  ∃ m oj,n=m+1∧ops[j]?=some oj ∧
    ((Region.wanted oj (yielded ops a.tmps)=true∧∀ w,S w→RTo P (fun v w'=>∃ S':World→Prop,S' w'∧(∀ x,S' x→S x)∧CertD P md ops Q m (listed.setIfInBounds j true) (a.put oj.dst v) S') ((execOp a.eval oj).run P w)) ∨
     (Region.wanted oj (yielded ops a.tmps)=false∧CertD P md ops Q m (listed.setIfInBounds j true) (a.put oj.dst undef) S))
theorem CertD.front(hsel:∀ (j:Nat) (o:Oper) cs b,ops[j]?=some o→o.op≠.select cs b):
 ∀ (n:Nat) (listed:Array Bool) (a:Act) (S:World→Prop),CertD P md ops Q n listed a S→∀ j,j∈Region.ready md ops listed→FrontD P md ops Q n listed a S j:=by
 intro n
 induction n with
 | zero=>intro listed a S h j hj;rw[h.1] at hj;cases hj
 | succ n ih=>
  intro listed a S h j hj
  rcases h with ⟨i,oi,v,hi,hfree,hr,hy,hrest⟩ | ⟨i,oi,hi,hr,hw,hgo⟩
  ·by_cases hji:j=i
   ·subst hji
    refine⟨n,oi,rfl,hi,?_⟩
    rcases hy with ⟨h1,h2⟩ | ⟨h1,rfl⟩
    ·exact .inl ⟨h1,fun w hS=>RTo.of_still (h2 w hS) ⟨S,hS,fun _ h=>h,hrest⟩⟩
    ·exact .inr ⟨h1,hrest⟩
   ·obtain⟨m,oj,rfl,hoj,hc⟩:=ih _ _ _ hrest j (ready_mono hj hji)
    obtain⟨hjun,oj',hoj',hall⟩:=mem_ready.1 hj
    obtain rfl:oj=oj':=Option.some.inj (hoj.symm.trans hoj')
    have hnot:∀ e∈oj.after,Region.binds md e=true→e.on≠i:=fun e he hb heq=>by
     have h1:=hall e he hb
     have h0:=(mem_ready.1 hr).1
     rw[heq] at h1
     rcases Nat.lt_or_ge i listed.size with h' | h'
     ·simp[h'] at h0 h1;rw[h0] at h1;cases h1
     ·simp[Array.getElem?_eq_none h'] at h1
    obtain⟨h1,h2,h3⟩:=Oper.apart_spec (hfree j oj hoj hji hjun hnot)
    have e1:=execOp_put oj (fun cs b=>hsel j oj cs b hoj) a oi.dst v h1
    have e2:=wanted_put oj a oi.dst v h1
    have hfree':∀ k ok,ops[k]?=some ok→k≠i→(listed.setIfInBounds j true).getD k true=false →
     (∀ e∈ok.after,Region.binds md e=true→e.on≠i)→oi.apart ops ok=true:=fun k ok hk hki hun hno=>by
     refine hfree k ok hk hki ?_ hno
     by_cases hjk:j=k
     ·subst hjk;exact hjun
     ·rw[getD_set_ne true hjk] at hun;exact hun
    have back:∀ (u:Value) (S':World→Prop),(∀ x,S' x→S x)→CertD P md ops Q m ((listed.setIfInBounds i true).setIfInBounds j true) ((a.put oi.dst v).put oj.dst u) S'→CertD P md ops Q (m+1) (listed.setIfInBounds j true) (a.put oj.dst u) S':=fun u S' hS hc=>by
     refine .inl ⟨i,oi,v,hi,hfree',ready_mono hr (Ne.symm hji),hy.of_same hS (execOp_put oi (fun cs b=>hsel i oi cs b hi) a oj.dst u h3) (wanted_put oi a oj.dst u h3),?_⟩
     rw[Array.setIfInBounds_comm _ _ hji,← Act.put_comm a v u h2]
     exact hc
    refine⟨m+1,oj,rfl,hoj,?_⟩
    rcases hc with ⟨c1,c2⟩ | ⟨c1,c2⟩
    ·refine .inl ⟨e2▸c1,fun w hS=>?_⟩
     have:=c2 w hS
     rw[e1] at this
     exact this.mono fun u w' hk=>by obtain⟨S',s1,s2,s3⟩:=hk;exact⟨S',s1,s2,back u S' s2 s3⟩
    ·exact .inr ⟨e2▸c1,back undef S (fun _ h=>h) c2⟩
  ·rw[hr] at hj
   obtain rfl:j=i:=by simpa using hj
   exact⟨n,oi,rfl,hi,.inl ⟨hw,hgo⟩⟩
theorem CertD.sound(hsel:∀ (j:Nat) (o:Oper) cs b,ops[j]?=some o→o.op≠.select cs b):
 ∀ (n:Nat) (listed:Array Bool) (a:Act) (S:World→Prop),CertD P md ops Q n listed a S→∀ w,S w→wpAny P md ops Q n listed a w:=by
 intro n
 induction n with
 | zero=>intro listed a S h w hS;exact⟨h.1,h.2 w hS⟩
 | succ n ih=>
  intro listed a S h w hS
  refine⟨fun hr=>?_,fun j hj=>?_⟩
  ·exfalso
   rcases h with ⟨i,oi,v,hi,hfree,hr',hy,hrest⟩ | ⟨i,oi,hi,hr',hw,hgo⟩
   ·rw[hr] at hr';cases hr'
   ·rw[hr] at hr';cases hr'
  ·obtain⟨m,oj,hm,hoj,hc⟩:=CertD.front hsel _ _ _ _ h j hj
   obtain rfl:n=m:=by omega
   rcases hc with ⟨c1,c2⟩ | ⟨c1,c2⟩
   ·exact wpOp_to hoj c1 ((c2 w hS).mono fun v w' hk=>by obtain⟨S',s1,s2,s3⟩:=hk;exact ih _ _ _ s3 w' s1)
   ·unfold Go.wpOp
    simp only[hoj,c1,Bool.false_eq_true,if_false]
    exact ih _ _ _ c2 w hS
def amask(md:Region.Mode)(o:Oper):Nat:=o.after.toList.foldl (fun m e=>if Region.binds md e then Nat.lor m (Nat.shiftLeft 1 e.on) else m) 0
def rdy(am L i:Nat):Bool:=!Nat.testBit L i&&Nat.beq (Nat.land am L) am
def onlyRdy(L i:Nat):Nat→List Nat→Bool
 | _,[]=>true
 | k,m::t=>(Nat.beq k i||!rdy m L k)&&onlyRdy L i (k+1) t
def lst(n L:Nat):Array Bool:=((List.range n).map fun i=>L.testBit i).toArray
theorem lst_getD(n L j:Nat)(d:Bool)(h:j<n):(lst n L).getD j d=L.testBit j:=by
 have hp:j<(lst n L).size:=by simpa[lst] using h
 rw[Array.getD_eq_getD_getElem?,Array.getElem?_eq_getElem hp]
 simp[lst]
theorem lst_out(n L j:Nat)(d:Bool)(h:¬ j<n):(lst n L).getD j d=d:=by
 rw[Array.getD_eq_getD_getElem?,Array.getElem?_eq_none (by simp[lst];omega)];rfl
theorem lst_set(n L i:Nat):(lst n L).setIfInBounds i true=lst n (Nat.lor L (Nat.shiftLeft 1 i)):=by
 apply Array.ext
 ·simp[lst]
 ·intro j h1 h2
  rw[Array.getElem_setIfInBounds (by simpa using h1)]
  have e:Nat.testBit (Nat.lor L (Nat.shiftLeft 1 i)) j=(L.testBit j||decide (i=j)):=by
   show(L ||| (1 <<< i)).testBit j=_
   rw[Nat.testBit_or,Nat.one_shiftLeft,Nat.testBit_two_pow]
  simp only[lst,List.getElem_toArray,List.getElem_map,List.getElem_range,e]
  split
  ·subst_vars;simp
  ·rename_i hne;simp[hne]
theorem lst_zero(n:Nat):lst n 0=Array.replicate n false:=by
 apply Array.ext
 ·simp[lst]
 ·intro j h1 h2;simp[lst]
theorem amask_bit(o:Oper)(j:Nat):(amask md o).testBit j=true↔∃ e∈o.after,Region.binds md e=true∧e.on=j:=by
 have key:∀ (l:List Edge) (m:Nat),(l.foldl (fun m e=>if Region.binds md e then Nat.lor m (Nat.shiftLeft 1 e.on) else m) m).testBit j=true↔m.testBit j=true∨∃ e∈l,Region.binds md e=true∧e.on=j:=by
  intro l
  induction l with
  | nil=>intro m;simp
  | cons e t ih=>
   intro m
   rw[List.foldl_cons,ih]
   by_cases hb:Region.binds md e=true
   ·rw[if_pos hb]
    have e1:Nat.testBit (Nat.lor m (Nat.shiftLeft 1 e.on)) j=(m.testBit j||decide (e.on=j)):=by
     show(m ||| (1 <<< e.on)).testBit j=_
     rw[Nat.testBit_or,Nat.one_shiftLeft,Nat.testBit_two_pow]
    rw[e1]
    simp only[Bool.or_eq_true,decide_eq_true_eq,List.mem_cons]
    constructor
    ·rintro ((h | h) | ⟨x,hx,h⟩)
     ·exact .inl h
     ·exact .inr ⟨e,.inl rfl,hb,h⟩
     ·exact .inr ⟨x,.inr hx,h⟩
    ·rintro (h | ⟨x,rfl | hx,h1,h2⟩)
     ·exact .inl (.inl h)
     ·exact .inl (.inr h2)
     ·exact .inr ⟨x,hx,h1,h2⟩
   ·rw[if_neg hb]
    simp only[List.mem_cons]
    constructor
    ·rintro (h | ⟨x,hx,h⟩)
     ·exact .inl h
     ·exact .inr ⟨x,.inr hx,h⟩
    ·rintro (h | ⟨x,rfl | hx,h1,h2⟩)
     ·exact .inl h
     ·exact absurd h1 hb
     ·exact .inr ⟨x,hx,h1,h2⟩
 unfold amask
 rw[key]
 simp
theorem rdy_iff{L i:Nat}{o:Oper}(hi:ops[i]?=some o)(hb:∀ k,L.testBit k=true→k<ops.size):rdy (amask md o) L i=true↔i∈Region.ready md ops (lst ops.size L):=by
 have hlt:=(Array.getElem?_eq_some_iff.1 hi).1
 have hbeq:Nat.beq (Nat.land (amask md o) L) (amask md o)=true↔Nat.land (amask md o) L=amask md o:=⟨nbt,fun h=>by rw[h];exact Nat.beq_refl _⟩
 unfold rdy
 rw[Bool.and_eq_true,hbeq,mem_ready,lst_getD _ _ _ _ hlt]
 constructor
 ·rintro⟨h1,h2⟩
  refine⟨by simpa using h1,o,hi,fun e he hbd=>?_⟩
  have h3:(amask md o).testBit e.on=true:=(amask_bit o e.on).2 ⟨e,he,hbd,rfl⟩
  rw[← h2] at h3
  have h4:(amask md o).testBit e.on=true∧L.testBit e.on=true:=by
   have:((amask md o) &&& L).testBit e.on=true:=h3
   rw[Nat.testBit_and,Bool.and_eq_true] at this;exact this
  rw[lst_getD _ _ _ _ (hb _ h4.2)];exact h4.2
 ·rintro⟨h1,o',ho',hall⟩
  obtain rfl:o=o':=Option.some.inj (hi.symm.trans ho')
  refine⟨by simpa using h1,Nat.eq_of_testBit_eq fun k=>?_⟩
  show((amask md o) &&& L).testBit k=_
  rw[Nat.testBit_and]
  cases hk:(amask md o).testBit k with
  | false=>rfl
  | true=>
   obtain⟨e,he,hbd,rfl⟩:=(amask_bit o k).1 hk
   have h3:=hall e he hbd
   by_cases hl:e.on<ops.size
   ·rw[lst_getD _ _ _ _ hl] at h3;rw[h3];rfl
   ·rw[lst_out _ _ _ _ hl] at h3;cases h3
theorem onlyRdy_spec{L i:Nat}:∀ (ms:List Nat) (k:Nat),onlyRdy L i k ms=true→∀ j m,ms[j]?=some m→k+j=i∨rdy m L (k+j)=false
 | [],k,_,j,m,h=>by simp at h
 | m0::t,k,h,j,m,hj=>by
  simp only[onlyRdy,Bool.and_eq_true,Bool.or_eq_true,Bool.not_eq_true'] at h
  cases j with
  | zero=>
   obtain rfl:m0=m:=by simpa using hj
   rcases h.1 with h1 | h1
   ·exact .inl (nbt h1)
   ·exact .inr h1
  | succ j=>
   rcases onlyRdy_spec t (k+1) h.2 j m (by simpa using hj) with h1 | h1
   ·exact .inl (by omega)
   ·exact .inr (by rw[show k+(j+1)=k+1+j by omega];exact h1)
theorem ready_range{listed:Array Bool}{j:Nat}(h:j∈Region.ready md ops listed):j<ops.size:=by
 obtain⟨_,o,ho,_⟩:=mem_ready.1 h;exact(Array.getElem?_eq_some_iff.1 ho).1
def SeqD(P:Program)(ops:Array Oper)(Q:Exit→Act→World→Prop):List (Nat×Bool)→Act→(World→Prop)→Prop
 | [],a,S=>∀ w,S w→Q .normal a w
 | (i,false)::rest,a,S=>∃ oi v,ops[i]?=some oi∧YP P ops S oi v a∧SeqD P ops Q rest (a.put oi.dst v) S
 | (i,true)::rest,a,S=>∃ oi,ops[i]?=some oi∧Region.wanted oi (yielded ops a.tmps)=true ∧
  ∀ w,S w→RTo P (fun v w'=>∃ S':World→Prop,S' w'∧(∀ x,S' x→S x)∧SeqD P ops Q rest (a.put oi.dst v) S') ((execOp a.eval oi).run P w)
theorem apart_symm{x y:Oper}(h:x.apart ops y=true):y.apart ops x=true:=by
 unfold Oper.apart at *
 cases hx:x.dst <;> cases hy:y.dst <;> simp only[hx,hy] at h ⊢ <;> simp_all
 exact fun e=>h.1.2 e.symm
variable {S:World→Prop} {o:Oper} {rest:List (Nat×Bool)} {a:Act} {v:Value} {i:Nat}
end
section
variable {P:Program} {ops:Array Oper} {Q:Exit→Act→World→Prop}
def SeqT(P:Program)(ops:Array Oper)(Q:Exit→Act→World→Prop):List Oper→Act→(World→Prop)→Prop
 | [],a,S=>∀ w,S w→Q .normal a w
 | o::rest,a,S=>
  (Region.wanted o (yielded ops a.tmps)=true∧∀ w,S w→RTo P (fun v w'=>∃ S':World→Prop,S' w'∧SeqT P ops Q rest (a.put o.dst v) S') ((execOp a.eval o).run P w)) ∨
  (Region.wanted o (yielded ops a.tmps)=false∧SeqT P ops Q rest (a.put o.dst undef) S)
theorem SeqT.sound:∀ (l:List Oper) (a:Act) (S:World→Prop),SeqT P ops Q l a S→∀ w,S w→wpList P ops Q l a w
 | [],a,S,h,w,hS=>h w hS
 | o::rest,a,S,h,w,hS=>by
  unfold wpList
  rcases h with ⟨h1,h2⟩ | ⟨h1,h2⟩
  ·rw[if_pos h1]
   refine .inl ?_
   have hr:=h2 w hS
   unfold Oper.wp
   generalize (execOp a.eval o).run P w=r at *
   cases r with
   | ok n w'=>
    cases n <;> simp only[RTo] at hr <;> simp only[Oper.upon]
    case value u=>obtain⟨S',s1,s2⟩:=hr;exact SeqT.sound rest _ S' s2 _ s1
    case skip=>obtain⟨S',s1,s2⟩:=hr;exact SeqT.sound rest _ S' s2 _ s1
    case enter f args=>exact Calls.mono hr fun e w'' he=>by obtain⟨v,rfl,S',s1,s2⟩:=he;exact SeqT.sound rest _ S' s2 _ s1
   | halt x w'=>exact absurd hr (by simp[RTo])
  ·rw[if_neg (by rw[h1];exact Bool.false_ne_true)]
   exact SeqT.sound rest _ S h2 w hS
variable {S:World→Prop} {o:Oper} {rest:List Oper} {a:Act} {v:Value}
end
section
variable {P:Program} {ops:Array Oper} {Q:Exit→Act→World→Prop} {md:Region.Mode}
def upM(ms:List Nat)(L:Nat):Nat→List Nat→Nat
 | _,[]=>L
 | k,m::t=>upM ms (if Nat.testBit L k then Nat.lor L m else L) (k+1) t
def ancs(ms:List Nat):Nat→Nat→Nat
 | 0,L=>L
 | n+1,L=>ancs ms n (upM ms L 0 ms)
theorem upM_bits(ms:List Nat)(G:Nat→Prop):∀ (t:List Nat) (k L:Nat),(∀ i m,t[i]?=some m→G (k+i)→∀ j,m.testBit j=true→G j)→(∀ j,L.testBit j=true→G j)→∀ j,(upM ms L k t).testBit j=true→G j
 | [],_,_,_,hL,j,h=>hL j h
 | m::t,k,L,ht,hL,j,h=>by
  unfold upM at h
  refine upM_bits ms G t (k+1) _ (fun i m' hi hg=>ht (i+1) m' (by simpa using hi) (by rw[show k+(i+1)=k+1+i by omega];exact hg)) (fun j hj=>?_) j h
  split at hj
  ·rename_i hk
   have e:Nat.testBit (Nat.lor L m) j=(L.testBit j||m.testBit j):=by
    show(L ||| m).testBit j=_
    rw[Nat.testBit_or]
   rw[e,Bool.or_eq_true] at hj
   rcases hj with hj | hj
   ·exact hL j hj
   ·exact ht 0 m (by simp) (hL _ hk) j hj
  ·exact hL j hj
theorem ancs_bits(ms:List Nat)(G:Nat→Prop)(hm:∀ i m,ms[i]?=some m→G i→∀ j,m.testBit j=true→G j):∀ (n L:Nat),(∀ j,L.testBit j=true→G j)→∀ j,(ancs ms n L).testBit j=true→G j
 | 0,_,hL,j,h=>hL j h
 | n+1,L,hL,j,h=>ancs_bits ms G hm n _ (fun j hj=>upM_bits ms G ms 0 L (fun i m hi hg=>hm i m hi (by rw[Nat.zero_add] at hg;exact hg)) hL j hj) j h
inductive OT where
 | nil
 | one (i k:Nat) (rest:OT)
 | alt (i k:Nat) (rest more:OT)
 | stop
def OT.all:OT→List (Nat×Nat)
 | .nil=>[]
 | .stop=>[]
 | .one i k r=>(i,k)::r.all
 | .alt i k r m=>(i,k)::(r.all++m.all)
def OT.heads:OT→List Nat
 | .alt i _ _ m=>i::m.heads
 | _=>[]
def barOk(ms:List Nat)(order:List (Nat×Nat)):Bool:=
 order.all fun x=>!Nat.beq x.2 3||order.all fun y=>!Nat.beq y.2 0||Nat.testBit (ancs ms ms.length (ms.getD x.1 0)) y.1||Nat.testBit (ancs ms ms.length (ms.getD y.1 0)) x.1
theorem anc_listed{listed:Array Bool}(hcl:Closed md ops listed){j:Nat}(hj:j∈Region.ready md ops listed){k n:Nat}(h:(ancs (ops.toList.map (amask md)) n ((ops.toList.map (amask md)).getD j 0)).testBit k=true):listed.getD k false=true:=by
 refine ancs_bits (ops.toList.map (amask md)) (fun k=>listed.getD k false=true) ?_ n _ ?_ k h
 ·intro i m hi hg j hj
  rw[List.getElem?_map] at hi
  cases ho:ops.toList[i]? with
  | none=>rw[ho] at hi;cases hi
  | some o=>
   rw[ho] at hi
   obtain rfl:amask md o=m:=by simpa using hi
   obtain⟨e,he,hb,rfl⟩:=(amask_bit o j).1 hj
   exact hcl i o (by simpa using ho) hg e he hb
 ·intro k hk
  obtain⟨_,o,ho,hall⟩:=mem_ready.1 hj
  have hg:(ops.toList.map (amask md)).getD j 0=amask md o:=by
   rw[List.getD_eq_getElem?_getD,List.getElem?_map]
   have:ops.toList[j]?=some o:=by simpa using ho
   rw[this];rfl
  rw[hg] at hk
  obtain⟨e,he,hb,rfl⟩:=(amask_bit o k).1 hk
  exact hall e he hb
def Part(md:Region.Mode)(ops:Array Oper)(dep bar:Nat→Bool):Prop:=
 ∀ i j,dep i=true→bar j=true→∀ listed,Closed md ops listed→i∈Region.ready md ops listed→j∈Region.ready md ops listed→False
def CertE(P:Program)(md:Region.Mode)(ops:Array Oper)(dep bar:Nat→Bool)(Q:Exit→Act→World→Prop):Nat→Array Bool→Act→(World→Prop)→Prop
 | 0,listed,a,S=>Region.ready md ops listed=[]∧∀ w,S w→Q .normal a w
 | n+1,listed,a,S=>
  (∃ i oi v,ops[i]?=some oi ∧
   (∀ j oj,ops[j]?=some oj→j≠i→listed.getD j true=false→(∀ e∈oj.after,Region.binds md e=true→e.on≠i)→oi.apart ops oj=true) ∧
   i∈Region.ready md ops listed∧(YP P ops S oi v a∧dep i=true∨YP P ops (fun _=>True) oi v a)∧CertE P md ops dep bar Q n (listed.setIfInBounds i true) (a.put oi.dst v) S) ∨
  (Region.ready md ops listed≠[]∧∀ i,i∈Region.ready md ops listed→∃ oi,ops[i]?=some oi∧Region.wanted oi (yielded ops a.tmps)=true ∧
   ∀ w,S w→RTo P (fun v w'=>∃ S':World→Prop,S' w'∧((∀ x,S' x→S x)∨bar i=true)∧CertE P md ops dep bar Q n (listed.setIfInBounds i true) (a.put oi.dst v) S') ((execOp a.eval oi).run P w))
def FrontE(P:Program)(md:Region.Mode)(ops:Array Oper)(dep bar:Nat→Bool)(Q:Exit→Act→World→Prop)(n:Nat)(listed:Array Bool)(a:Act)(S:World→Prop)(j:Nat):Prop:=
  ∃ m oj,n=m+1∧ops[j]?=some oj ∧
    ((Region.wanted oj (yielded ops a.tmps)=true∧∀ w,S w→RTo P (fun v w'=>∃ S':World→Prop,S' w'∧((∀ x,S' x→S x)∨bar j=true)∧CertE P md ops dep bar Q m (listed.setIfInBounds j true) (a.put oj.dst v) S') ((execOp a.eval oj).run P w)) ∨
     (Region.wanted oj (yielded ops a.tmps)=false∧CertE P md ops dep bar Q m (listed.setIfInBounds j true) (a.put oj.dst undef) S))
variable {dep bar:Nat→Bool}
theorem CertE.front(hsel:∀ (j:Nat) (o:Oper) cs b,ops[j]?=some o→o.op≠.select cs b)(hpart:Part md ops dep bar):
 ∀ (n:Nat) (listed:Array Bool) (a:Act) (S:World→Prop),Closed md ops listed→CertE P md ops dep bar Q n listed a S→∀ j,j∈Region.ready md ops listed→FrontE P md ops dep bar Q n listed a S j:=by
 intro n
 induction n with
 | zero=>intro listed a S _ h j hj;rw[h.1] at hj;cases hj
 | succ n ih=>
  intro listed a S hcl h j hj
  rcases h with ⟨i,oi,v,hi,hfree,hr,hy,hrest⟩ | ⟨_,hgo⟩
  ·by_cases hji:j=i
   ·subst hji
    refine⟨n,oi,rfl,hi,?_⟩
    have hy':YP P ops S oi v a:=by
     rcases hy with h | h
     ·exact h.1
     ·exact h.of_same (fun _ _=>trivial) rfl rfl
    rcases hy' with ⟨h1,h2⟩ | ⟨h1,rfl⟩
    ·exact .inl ⟨h1,fun w hS=>RTo.of_still (h2 w hS) ⟨S,hS,.inl fun _ h=>h,hrest⟩⟩
    ·exact .inr ⟨h1,hrest⟩
   ·obtain⟨m,oj,rfl,hoj,hc⟩:=ih _ _ _ (hcl.step hr) hrest j (ready_mono hj hji)
    obtain⟨hjun,oj',hoj',hall⟩:=mem_ready.1 hj
    obtain rfl:oj=oj':=Option.some.inj (hoj.symm.trans hoj')
    have hnot:∀ e∈oj.after,Region.binds md e=true→e.on≠i:=fun e he hb heq=>by
     have h1:=hall e he hb
     have h0:=(mem_ready.1 hr).1
     rw[heq] at h1
     rcases Nat.lt_or_ge i listed.size with h' | h'
     ·simp[h'] at h0 h1;rw[h0] at h1;cases h1
     ·simp[Array.getElem?_eq_none h'] at h1
    obtain⟨h1,h2,h3⟩:=Oper.apart_spec (hfree j oj hoj hji hjun hnot)
    have e1:=execOp_put oj (fun cs b=>hsel j oj cs b hoj) a oi.dst v h1
    have e2:=wanted_put oj a oi.dst v h1
    have hfree':∀ k ok,ops[k]?=some ok→k≠i→(listed.setIfInBounds j true).getD k true=false →
     (∀ e∈ok.after,Region.binds md e=true→e.on≠i)→oi.apart ops ok=true:=fun k ok hk hki hun hno=>by
     refine hfree k ok hk hki ?_ hno
     by_cases hjk:j=k
     ·subst hjk;exact hjun
     ·rw[getD_set_ne true hjk] at hun;exact hun
    have e3:=fun u=>execOp_put oi (fun cs b=>hsel i oi cs b hi) a oj.dst u h3
    have e4:=fun u=>wanted_put oi a oj.dst u h3
    have back:∀ (u:Value) (S':World→Prop),((∀ x,S' x→S x)∨bar j=true)→CertE P md ops dep bar Q m ((listed.setIfInBounds i true).setIfInBounds j true) ((a.put oi.dst v).put oj.dst u) S'→CertE P md ops dep bar Q (m+1) (listed.setIfInBounds j true) (a.put oj.dst u) S':=fun u S' hS hc=>by
     refine .inl ⟨i,oi,v,hi,hfree',ready_mono hr (Ne.symm hji),?_,?_⟩
     ·rcases hy with ⟨hy,hd⟩ | hy
      ·rcases hS with hS | hb
       ·exact .inl ⟨hy.of_same hS (e3 u) (e4 u),hd⟩
       ·exact absurd (hpart i j hd hb listed hcl hr hj) id
      ·exact .inr (hy.of_same (fun _ h=>h) (e3 u) (e4 u))
     ·rw[Array.setIfInBounds_comm _ _ hji,← Act.put_comm a v u h2]
      exact hc
    refine⟨m+1,oj,rfl,hoj,?_⟩
    rcases hc with ⟨c1,c2⟩ | ⟨c1,c2⟩
    ·refine .inl ⟨e2▸c1,fun w hS=>?_⟩
     have:=c2 w hS
     rw[e1] at this
     exact this.mono fun u w' hk=>by obtain⟨S',s1,s2,s3⟩:=hk;exact⟨S',s1,s2,back u S' s2 s3⟩
    ·exact .inr ⟨e2▸c1,back undef S (.inl fun _ h=>h) c2⟩
  ·obtain⟨oi,hi,hw,hg⟩:=hgo j hj
   exact⟨n,oi,rfl,hi,.inl ⟨hw,hg⟩⟩
theorem CertE.sound(hsel:∀ (j:Nat) (o:Oper) cs b,ops[j]?=some o→o.op≠.select cs b)(hpart:Part md ops dep bar):
 ∀ (n:Nat) (listed:Array Bool) (a:Act) (S:World→Prop),Closed md ops listed→CertE P md ops dep bar Q n listed a S→∀ w,S w→wpAny P md ops Q n listed a w:=by
 intro n
 induction n with
 | zero=>intro listed a S _ h w hS;exact⟨h.1,h.2 w hS⟩
 | succ n ih=>
  intro listed a S hcl h w hS
  refine⟨fun hr=>?_,fun j hj=>?_⟩
  ·exfalso
   rcases h with ⟨i,oi,v,hi,hfree,hr',hy,hrest⟩ | ⟨hne,hgo⟩
   ·rw[hr] at hr';cases hr'
   ·exact hne hr
  ·obtain⟨m,oj,hm,hoj,hc⟩:=CertE.front hsel hpart _ _ _ _ hcl h j hj
   obtain rfl:n=m:=by omega
   have hcl':=hcl.step hj
   rcases hc with ⟨c1,c2⟩ | ⟨c1,c2⟩
   ·exact wpOp_to hoj c1 ((c2 w hS).mono fun v w' hk=>by obtain⟨S',s1,s2,s3⟩:=hk;exact ih _ _ _ hcl' s3 w' s1)
   ·unfold Go.wpOp
    simp only[hoj,c1,Bool.false_eq_true,if_false]
    exact ih _ _ _ hcl' c2 w hS
def SeqE(P:Program)(ops:Array Oper)(Q:Exit→Act→World→Prop):OT→Act→(World→Prop)→Prop
 | .nil,a,S=>∀ w,S w→Q .normal a w
 | .stop,_,_=>True
 | .one i k rest,a,S=>∃ oi v,ops[i]?=some oi∧(YP P ops S oi v a∧k=0∨YP P ops (fun _=>True) oi v a)∧SeqE P ops Q rest (a.put oi.dst v) S
 | .alt i k rest more,a,S=>(∃ oi,ops[i]?=some oi∧Region.wanted oi (yielded ops a.tmps)=true ∧
  ∀ w,S w→RTo P (fun v w'=>∃ S':World→Prop,S' w'∧((∀ x,S' x→S x)∨k=3)∧SeqE P ops Q rest (a.put oi.dst v) S') ((execOp a.eval oi).run P w))∧SeqE P ops Q more a S
def rdySub(L:Nat)(hs:List Nat):Nat→List Nat→Bool
 | _,[]=>true
 | k,m::t=>(hs.any (Nat.beq k)||!rdy m L k)&&rdySub L hs (k+1) t
def ordE(ms:List Nat):Nat→Bool→OT→Nat→Bool
 | n,true,.nil,L=>Nat.beq n 0&&onlyRdy L ms.length 0 ms
 | _,false,.nil,_=>false
 | _,b,.stop,_=>!b
 | n,true,.one i k rest,L=>(match ms[i]? with | some m=>rdy m L i | none=>false)&&Nat.ble k 1&&Nat.ble 1 n&&ordE ms (n - 1) true rest (Nat.lor L (Nat.shiftLeft 1 i))
 | _,false,.one _ _ _,_=>false
 | n,b,.alt i k rest more,L=>(match ms[i]? with | some m=>rdy m L i | none=>false)&&Nat.ble 1 n&&(!b||rdySub L (i::more.heads) 0 ms)&&ordE ms (n - 1) true rest (Nat.lor L (Nat.shiftLeft 1 i))&&ordE ms n false more L
theorem rdySub_spec{L:Nat}{hs:List Nat}:∀ (ms:List Nat) (k:Nat),rdySub L hs k ms=true→∀ j m,ms[j]?=some m→k+j∈hs∨rdy m L (k+j)=false
 | [],k,_,j,m,h=>by simp at h
 | m0::t,k,h,j,m,hj=>by
  simp only[rdySub,Bool.and_eq_true,Bool.or_eq_true,Bool.not_eq_true'] at h
  cases j with
  | zero=>
   obtain rfl:m0=m:=by simpa using hj
   rcases h.1 with h1 | h1
   ·left
    obtain⟨x,hx,hb⟩:=List.any_eq_true.1 h1
    rw[Nat.add_zero,nbt hb];exact hx
   ·exact .inr h1
  | succ j=>
   rcases rdySub_spec t (k+1) h.2 j m (by simpa using hj) with h1 | h1
   ·exact .inl (by rw[show k+(j+1)=k+1+j by omega];exact h1)
   ·exact .inr (by rw[show k+(j+1)=k+1+j by omega];exact h1)
theorem certE_of_seq(hok:fastOk md ops=true):∀ (ot:OT) (n L:Nat) (a:Act) (S:World→Prop),(∀ i,(i,0)∈ot.all→dep i=true)→(∀ i,(i,3)∈ot.all→bar i=true)→(∀ k,L.testBit k=true→k<ops.size)→SeqE P ops Q ot a S →
 (ordE (ops.toList.map (amask md)) n true ot L=true→CertE P md ops dep bar Q n (lst ops.size L) a S) ∧
 (ordE (ops.toList.map (amask md)) n false ot L=true→∃ m,(ot.heads≠[]→n=m+1)∧∀ i∈ot.heads,i∈Region.ready md ops (lst ops.size L)∧∃ oi,ops[i]?=some oi∧Region.wanted oi (yielded ops a.tmps)=true ∧
  ∀ w,S w→RTo P (fun v w'=>∃ S':World→Prop,S' w'∧((∀ x,S' x→S x)∨bar i=true)∧CertE P md ops dep bar Q m ((lst ops.size L).setIfInBounds i true) (a.put oi.dst v) S') ((execOp a.eval oi).run P w)):=by
 have get:∀ (j:Nat) (o:Oper),ops[j]?=some o→(ops.toList.map (amask md))[j]?=some (amask md o):=by
  intro j o ho
  rw[List.getElem?_map]
  have:ops.toList[j]?=some o:=by simpa using ho
  rw[this];rfl
 have getR:∀ (j:Nat) (o:Oper),ops[j]?=some o→(ops.toList.map (orow md ops))[j]?=some (orow md ops o):=by
  intro j o ho
  rw[List.getElem?_map]
  have:ops.toList[j]?=some o:=by simpa using ho
  rw[this];rfl
 have hpairs:∀ (i j:Nat) (oi oj:Oper),i<j→ops[i]?=some oi→ops[j]?=some oj→(∃ e∈oj.after,Region.binds md e=true∧e.on=i)∨oi.apart ops oj=true:=by
  intro i j oi oj hij hi hj
  unfold fastOk at hok
  rw[Bool.and_eq_true] at hok
  have hs:=(pairsOk_spec _ 0 hok.2 i _ (getR i oi hi)).2 j _ hij (getR j oj hj)
  rcases hs with h | h
  ·left
   have hm:(0+i)∈(orow md ops oj).2.2:=by simpa using h
   obtain⟨e,he,hek⟩:=List.mem_map.1 hm
   rw[List.mem_filter] at he
   exact⟨e,by simpa using he.1,he.2,by omega⟩
  ·exact .inr (apartR_spec h)
 have step:∀ i L,(∀ k,L.testBit k=true→k<ops.size)→(match (ops.toList.map (amask md))[i]? with | some m=>rdy m L i | none=>false)=true→∀ oi,ops[i]?=some oi→i∈Region.ready md ops (lst ops.size L)∧(∀ k,(Nat.lor L (Nat.shiftLeft 1 i)).testBit k=true→k<ops.size):=by
  intro i L hL ho1 oi hi
  rw[get i oi hi] at ho1
  refine⟨(rdy_iff hi hL).1 ho1,fun k hk=>?_⟩
  have e:Nat.testBit (Nat.lor L (Nat.shiftLeft 1 i)) k=(L.testBit k||decide (i=k)):=by
   show(L ||| (1 <<< i)).testBit k=_
   rw[Nat.testBit_or,Nat.one_shiftLeft,Nat.testBit_two_pow]
  rw[e,Bool.or_eq_true,decide_eq_true_eq] at hk
  rcases hk with hk | rfl
  ·exact hL k hk
  ·exact(Array.getElem?_eq_some_iff.1 hi).1
 have free:∀ i L oi,ops[i]?=some oi→i∈Region.ready md ops (lst ops.size L)→∀ j oj,ops[j]?=some oj→j≠i→(lst ops.size L).getD j true=false→(∀ e∈oj.after,Region.binds md e=true→e.on≠i)→oi.apart ops oj=true:=by
  intro i L oi hi s1 j oj hj hji hun hno
  rcases Nat.lt_or_ge i j with hlt | hge
  ·rcases hpairs i j oi oj hlt hi hj with ⟨e,he,hb,heq⟩ | h
   ·exact absurd heq (hno e he hb)
   ·exact h
  ·have hlt:j<i:=by omega
   rcases hpairs j i oj oi hlt hj hi with ⟨e,he,hb,heq⟩ | h
   ·exfalso
    obtain⟨_,o',ho',hall⟩:=mem_ready.1 s1
    obtain rfl:oi=o':=Option.some.inj (hi.symm.trans ho')
    have h1:=hall e he hb
    rw[heq,lst_getD _ _ _ _ (Array.getElem?_eq_some_iff.1 hj).1] at h1
    rw[lst_getD _ _ _ _ (Array.getElem?_eq_some_iff.1 hj).1,h1] at hun
    cases hun
   ·exact apart_symm h
 intro ot
 induction ot with
 | nil=>
  intro n L a S _ _ hL h
  refine⟨fun ho=>?_,fun ho=>by simp[ordE] at ho⟩
  simp only[ordE,Bool.and_eq_true] at ho
  obtain rfl:=nbt ho.1
  refine⟨?_,h⟩
  cases hr:Region.ready md ops (lst ops.size L) with
  | nil=>rfl
  | cons j t=>
   exfalso
   have hj:j∈Region.ready md ops (lst ops.size L):=by rw[hr];exact List.mem_cons_self
   have hjl:=ready_range hj
   obtain⟨o,hoj⟩:∃ o,ops[j]?=some o:=⟨_,Array.getElem?_eq_getElem hjl⟩
   have:=onlyRdy_spec _ 0 ho.2 j _ (get j o hoj)
   rcases this with h1 | h1
   ·simp at h1;omega
   ·rw[Nat.zero_add] at h1
    rw[(rdy_iff hoj hL).2 hj] at h1;cases h1
 | stop=>
  intro n L a S _ _ hL h
  exact⟨fun ho=>by simp[ordE] at ho,fun _=>⟨0,fun hn=>absurd rfl hn,fun i hi=>by cases hi⟩⟩
 | one i k rest ih=>
  intro n L a S hd hb hL h
  refine⟨fun ho=>?_,fun ho=>by simp[ordE] at ho⟩
  simp only[ordE,Bool.and_eq_true] at ho
  obtain⟨⟨⟨ho1,ho2⟩,hn⟩,ho3⟩:=ho
  have hn:=Nat.le_of_ble_eq_true hn
  obtain⟨oi,v,hi,hy,hrest⟩:=h
  obtain⟨s1,s2⟩:=step i L hL ho1 oi hi
  obtain⟨m,rfl⟩:∃ m,n=m+1:=⟨n - 1,by omega⟩
  refine .inl ⟨i,oi,v,hi,free i L oi hi s1,s1,?_,?_⟩
  ·rcases hy with ⟨hy,rfl⟩ | hy
   ·exact .inl ⟨hy,hd i (List.mem_cons_self ..)⟩
   ·exact .inr hy
  ·rw[lst_set]
   exact(ih m _ _ _ (fun i hi=>hd i (List.mem_cons_of_mem _ hi)) (fun i hi=>hb i (List.mem_cons_of_mem _ hi)) s2 hrest).1 ho3
 | alt i k rest more ih1 ih2=>
  intro n L a S hd hb hL h
  have hd1:∀ i,(i,0)∈rest.all→dep i=true:=fun i hi=>hd i (List.mem_cons_of_mem _ (List.mem_append.2 (.inl hi)))
  have hd2:∀ i,(i,0)∈more.all→dep i=true:=fun i hi=>hd i (List.mem_cons_of_mem _ (List.mem_append.2 (.inr hi)))
  have hb1:∀ i,(i,3)∈rest.all→bar i=true:=fun i hi=>hb i (List.mem_cons_of_mem _ (List.mem_append.2 (.inl hi)))
  have hb2:∀ i,(i,3)∈more.all→bar i=true:=fun i hi=>hb i (List.mem_cons_of_mem _ (List.mem_append.2 (.inr hi)))
  obtain⟨⟨oi,hi,hw,hgo⟩,hmore⟩:=h
  have key:∀ b,ordE (ops.toList.map (amask md)) n b (.alt i k rest more) L=true→∃ m,n=m+1∧∀ j∈OT.heads (.alt i k rest more),j∈Region.ready md ops (lst ops.size L)∧∃ oi,ops[j]?=some oi∧Region.wanted oi (yielded ops a.tmps)=true ∧
   ∀ w,S w→RTo P (fun v w'=>∃ S':World→Prop,S' w'∧((∀ x,S' x→S x)∨bar j=true)∧CertE P md ops dep bar Q m ((lst ops.size L).setIfInBounds j true) (a.put oi.dst v) S') ((execOp a.eval oi).run P w):=by
   intro b ho
   simp only[ordE,Bool.and_eq_true] at ho
   obtain⟨⟨⟨⟨ho1,hn⟩,_⟩,ho3⟩,ho4⟩:=ho
   have hn:=Nat.le_of_ble_eq_true hn
   obtain⟨m,rfl⟩:∃ m,n=m+1:=⟨n - 1,by omega⟩
   obtain⟨s1,s2⟩:=step i L hL ho1 oi hi
   refine⟨m,rfl,fun j hj=>?_⟩
   rcases List.mem_cons.1 hj with rfl | hj
   ·refine⟨s1,oi,hi,hw,fun w hS=>(hgo w hS).mono fun v w' hk=>?_⟩
    obtain⟨S',t1,t2,t3⟩:=hk
    exact⟨S',t1,t2.imp id (fun e=>by subst e;exact hb j (List.mem_cons_self ..)),by rw[lst_set];exact(ih1 m _ _ _ hd1 hb1 s2 t3).1 ho3⟩
   ·obtain⟨m',e,hall⟩:=(ih2 (m+1) L a S hd2 hb2 hL hmore).2 ho4
    obtain rfl:m=m':=by have:=e (fun h0=>by rw[h0] at hj;cases hj);omega
    exact hall j hj
  refine⟨fun ho=>?_,fun ho=>?_⟩
  ·obtain⟨m,rfl,hall⟩:=key true ho
   simp only[ordE,Bool.and_eq_true,Bool.not_true,Bool.false_or] at ho
   obtain⟨⟨⟨⟨ho1,_⟩,hsub⟩,_⟩,_⟩:=ho
   refine .inr ⟨fun h0=>?_,fun j hj=>?_⟩
   ·have:=(step i L hL ho1 oi hi).1;rw[h0] at this;cases this
   ·have hjl:=ready_range hj
    obtain⟨o,hoj⟩:∃ o,ops[j]?=some o:=⟨_,Array.getElem?_eq_getElem hjl⟩
    rcases rdySub_spec _ 0 hsub j _ (get j o hoj) with h1 | h1
    ·rw[Nat.zero_add] at h1
     exact(hall j h1).2
    ·rw[Nat.zero_add] at h1
     rw[(rdy_iff hoj hL).2 hj] at h1;cases h1
  ·obtain⟨m,e,hall⟩:=key false ho
   exact⟨m,fun _=>e,hall⟩
def ordEOk(md:Region.Mode)(ops:Array Oper)(ot:OT):Bool:=
 ordE (ops.toList.map (amask md)) ops.size true ot 0&&barOk (ops.toList.map (amask md)) ot.all
theorem wp_region_seqE{id:Nat}{a:Act}{w:World}(S:World→Prop)(ot:OT)(hm:P.follows .mixedOrders=true)(hok':fastOk .any ops=true)(hord:ordEOk .any ops ot=true)(hS:S w.drew)
 (h:SeqE P ops Q ot a S):(Code.region id ops true).wp P Q a w:=by
 refine wp_region_any hm ?_
 unfold ordEOk at hord
 rw[Bool.and_eq_true] at hord
 obtain⟨ho,hb⟩:=hord
 let dep:Nat→Bool:=fun i=>((ot.all.filter fun x=>Nat.beq x.2 0).map (·.1)).contains i
 let bar:Nat→Bool:=fun i=>((ot.all.filter fun x=>Nat.beq x.2 3).map (·.1)).contains i
 have hc:=(certE_of_seq (Q:=Q) (dep:=dep) (bar:=bar) hok' ot ops.size 0 a S
  (fun i hi=>by
   show List.contains _ i=true
   rw[List.contains_iff_mem]
   exact List.mem_map.2 ⟨(i,0),List.mem_filter.2 ⟨hi,rfl⟩,rfl⟩)
  (fun i hi=>by
   show List.contains _ i=true
   rw[List.contains_iff_mem]
   exact List.mem_map.2 ⟨(i,3),List.mem_filter.2 ⟨hi,rfl⟩,rfl⟩)
  (fun k hk=>by simp at hk) h).1 ho
 have hsel:∀ (j:Nat) (o:Oper) cs b,ops[j]?=some o→o.op≠.select cs b:=by
  unfold fastOk at hok';rw[Bool.and_eq_true] at hok';exact Region.noSelect_spec hok'.1
 have hpart:Part .any ops dep bar:=by
  intro i j hi hj listed hcl ri rj
  have hi:List.contains _ i=true:=hi
  have hj:List.contains _ j=true:=hj
  rw[List.contains_iff_mem] at hi hj
  obtain⟨⟨x,kx⟩,hx,rfl⟩:=List.mem_map.1 hi
  obtain⟨⟨y,ky⟩,hy,rfl⟩:=List.mem_map.1 hj
  rw[List.mem_filter] at hx hy
  have h1:=List.all_eq_true.1 hb _ hy.1
  have ey:Nat.beq ky 3=true:=hy.2
  have ex:Nat.beq kx 0=true:=hx.2
  simp only[ey,Bool.not_true,Bool.false_or] at h1
  have h2:=List.all_eq_true.1 h1 _ hx.1
  simp only[ex,Bool.not_true,Bool.false_or,Bool.or_eq_true] at h2
  have un:∀ {k},k∈Region.ready .any ops listed→listed.getD k false=true→False:=fun {k} hk h=>by
   have h0:=(mem_ready.1 hk).1
   rcases Nat.lt_or_ge k listed.size with h' | h'
   ·simp[h'] at h0 h;rw[h0] at h;cases h
   ·simp[Array.getElem?_eq_none h'] at h
  rcases h2 with h2 | h2
  ·exact un ri (anc_listed hcl rj h2)
  ·exact un rj (anc_listed hcl ri h2)
 have hcl0:Closed .any ops (lst ops.size 0):=by
  rw[lst_zero];exact closed_none _ rfl
 have:=CertE.sound hsel hpart _ _ _ _ hcl0 hc w.drew hS
 rw[lst_zero] at this
 exact this
theorem at_drop{o:Oper}{i:Nat}{tl:List Oper}(h:ops.toList.drop i=o::tl):ops[i]?=some o:=by
 have h1:(ops.toList.drop i)[0]?=some o:=by rw[h];rfl
 rw[List.getElem?_drop] at h1
 simpa using h1
variable {S:World→Prop} {o:Oper} {rest more:OT} {a:Act} {v:Value} {i:Nat} {W:World} {tl:List Oper}
theorem seqE_nil(h:∀ w,S w→Q .normal a w):SeqE P ops Q .nil a S:=h
theorem seqE_stop:SeqE P ops Q .stop a S:=trivial
theorem seqE_pure(hi:ops.toList.drop i=o::tl)(hw:Region.wanted o (yielded ops a.tmps)=true)(hy:∀ w,S w→(execOp a.eval o).run P w=.ok (.value v) w)(h:SeqE P ops Q rest (a.put o.dst v) S):SeqE P ops Q (.one i 0 rest) a S:=
 ⟨o,v,at_drop hi,.inl ⟨.inl ⟨hw,fun w hS=>by rw[hy w hS];exact⟨rfl,rfl⟩⟩,rfl⟩,h⟩
theorem seqE_free(hi:ops.toList.drop i=o::tl)(hw:Region.wanted o (yielded ops a.tmps)=true)(hy:∀ w,(execOp a.eval o).run P w=.ok (.value v) w)(h:SeqE P ops Q rest (a.put o.dst v) S):SeqE P ops Q (.one i 1 rest) a S:=
 ⟨o,v,at_drop hi,.inr (.inl ⟨hw,fun w _=>by rw[hy w];exact⟨rfl,rfl⟩⟩),h⟩
theorem seqE_move(hi:ops.toList.drop i=o::tl)(hw:Region.wanted o (yielded ops a.tmps)=true)
 (h:∀ w,S w→∃ v w',(execOp a.eval o).run P w=.ok (.value v) w'∧∃ S':World→Prop,S' w'∧(∀ x,S' x→S x)∧SeqE P ops Q rest (a.put o.dst v) S')(hm:SeqE P ops Q more a S):SeqE P ops Q (.alt i 2 rest more) a S:=
 ⟨⟨o,at_drop hi,hw,fun w hS=>by obtain⟨v,w',h1,S',h2,h3,h4⟩:=h w hS;rw[h1];exact⟨S',h2,.inl h3,h4⟩⟩,hm⟩
theorem seqE_storeB(hi:ops.toList.drop i=o::tl)(hw:Region.wanted o (yielded ops a.tmps)=true)
 (h:∀ w,S w→∃ w',(execOp a.eval o).run P w=.ok .skip w'∧∃ S':World→Prop,S' w'∧SeqE P ops Q rest (a.put o.dst undef) S')(hm:SeqE P ops Q more a S):SeqE P ops Q (.alt i 3 rest more) a S:=
 ⟨⟨o,at_drop hi,hw,fun w hS=>by obtain⟨w',h1,S',h2,h3⟩:=h w hS;rw[h1];exact⟨S',h2,.inr rfl,h3⟩⟩,hm⟩
end
end Go.Proofs.YtmllhjbnbhapoaaGreat
namespace Go.Proofs.YtmllhjbnbhapoaaGreat
open Go.RowKit Go.Ab
theorem oldcell{B:Nat}{W w1:World}{b o:Nat}{v:Value}(hb:Below B W w1)(h:W.cell? ⟨b,o,none⟩=some v)(hlt:b<B):w1.cell? ⟨b,o,none⟩=some v:=
 (hb.cell (p:=⟨b,o,none⟩) hlt).trans h
theorem btr{w w1 w2:World}(h1:Below w.heap.size w w1)(h2:Below w1.heap.size w1 w2):Below w.heap.size w w2:=h1.trans (h2.mono h1.size)
theorem int_info:(Tryz.prog.info? 3).map (fun i=>(i.zero,i.size,i.bytes))=some (some (.int .i64 0),1,8):=by kernel_rfl
structure KeepX(X:List Nat)(w w':World):Prop where
 os:w'.os=w.os
 tape:w'.tape=w.tape
 output:w'.output=w.output
 size:w.heap.size≤w'.heap.size
 block:∀ k,k<w.heap.size→k∉X→w'.heap[k]?=w.heap[k]?
theorem KeepX.of_below{X:List Nat}{w w':World}(h:Below w.heap.size w w'):KeepX X w w':=⟨h.os,h.tape,h.output,h.size,fun k hk _=>h.block k hk⟩
theorem KeepX.refl(X:List Nat)(w:World):KeepX X w w:=KeepX.of_below (Below.refl _ _)
theorem KeepX.trans{X:List Nat}{w w1 w2:World}(h:KeepX X w w1)(k:KeepX X w1 w2):KeepX X w w2:=
 ⟨k.os.trans h.os,k.tape.trans h.tape,k.output.trans h.output,Nat.le_trans h.size k.size,fun i hi hx=>(k.block i (Nat.lt_of_lt_of_le hi h.size) hx).trans (h.block i hi hx)⟩
theorem KeepX.sub{X Y:List Nat}{w w':World}(h:KeepX X w w')(hs:∀ k∈X,k∈Y):KeepX Y w w':=⟨h.os,h.tape,h.output,h.size,fun k hk hy=>h.block k hk fun hx=>hy (hs k hx)⟩
theorem KeepX.fresh{X Y:List Nat}{w w':World}(h:KeepX X w w')(hs:∀ k∈X,k∈Y∨w.heap.size≤k):KeepX Y w w':=⟨h.os,h.tape,h.output,h.size,fun k hk hy=>h.block k hk fun hx=>by rcases hs k hx with h1 | h1;exact hy h1;omega⟩
theorem KeepX.below{X:List Nat}{w w':World}(h:KeepX X w w'){B:Nat}(hB:B≤w.heap.size)(hs:∀ k∈X,B≤k):Below B w w':=
 ⟨h.os,h.tape,h.output,h.size,fun k hk=>h.block k (by omega) fun hx=>by have:=hs k hx;omega⟩
theorem KeepX.cell{X:List Nat}{w w':World}(h:KeepX X w w'){b o:Nat}{v:Value}(hc:w.cell? ⟨b,o,none⟩=some v)(hx:b∉X):w'.cell? ⟨b,o,none⟩=some v:=by
 rw[World.cell?_of_block (w:=w) (h.block b (World.block_lt_of_cell? w _ hc) hx)];exact hc
theorem KeepX.free{X:List Nat}{w w':World}(h:KeepX X w w'){b o:Nat}(hc:w.frozen? ⟨b,o,none⟩=false)(hb:b<w.heap.size)(hx:b∉X):w'.frozen? ⟨b,o,none⟩=false:=by
 rw[← hc];unfold World.frozen?;rw[h.block b hb hx]
theorem KeepX.of_grown{X:List Nat}{w w':World}{row:Option Nat}(h:w.grownBy w' row)(hX:∀ g,row=some g→g∈X):KeepX X w w':=
 ⟨h.os,h.tape,h.output,h.size,fun k hk hx=>h.block k hk fun e=>hx (hX k e.symm)⟩
theorem KeepX.below'{X:List Nat}{w w' w2:World}{B:Nat}(h0:Below B w w')(h:KeepX X w' w2)(hB:B≤w'.heap.size)(hs:∀ k∈X,B≤k):Below B w w2:=h0.trans (h.below hB hs)
theorem KeepX.upB{X:List Nat}{w w1 w2:World}(h:KeepX X w w1)(hB:Below w1.heap.size w1 w2):KeepX X w w2:=h.trans (KeepX.of_below hB)
def rowOf(v:Value):List Nat:=match v.ownBlock with | some g=>[g] | none=>[]
theorem rowOf_mem{v:Value}{g:Nat}(h:g∈rowOf v):v.ownBlock=some g:=by
 unfold rowOf at h
 cases hv:v.ownBlock with
 | none=>rw[hv] at h;cases h
 | some k=>rw[hv] at h;rw[List.mem_singleton.1 h]
theorem mem_rowOf{v:Value}{g:Nat}(h:v.ownBlock=some g):g∈rowOf v:=by unfold rowOf;rw[h];simp
theorem quo_rem{x:Int}{n:Nat}(h0:0≤x)(h1:x<1000000)(hn:0<n):
 IntKind.i64.wrap (x.tdiv n)=x / n∧x.tmod n=x % n∧IntKind.i64.wrap (x % n)=x % n∧0≤x / (n:Int)∧x / (n:Int)≤x∧0≤x % (n:Int)∧x % (n:Int)≤x:=by
 have a1:=Int.ediv_nonneg h0 (show 0≤(n:Int) by omega)
 have a2:=Int.ediv_le_self (n:Int) h0
 have a3:=Int.emod_nonneg x (show(n:Int)≠0 by omega)
 have a4:x % (n:Int)≤x:=by
  have:=Int.emod_add_mul_ediv x n
  have:0≤(n:Int)*(x / n):=Int.mul_nonneg (by omega) a1
  omega
 refine⟨?_,Int.tmod_eq_emod_of_nonneg h0,?_,a1,a2,a3,a4⟩
 ·rw[Int.tdiv_eq_ediv_of_nonneg h0,IntWalk.i64_in];omega
 ·rw[IntWalk.i64_in];omega
theorem app_two{P:Program}(w:World)(base:Nat)(t ty e:TypeId)(i:TypeInfo)(z:Value)(bytes:Nat)(ht:P.underlying t=some (.slice e))(hi:P.info? e=some i)(hz:i.zero=some z)
 (hsize:i.size=1)(hby:i.bytes=bytes)(hzs:z.cells.size=1)(v:Value)(n:Nat)(xs:List Value)(hown:w.ownsRow base e 1 v n xs)(b c:Nat)(u:Value)(hu:w.cell? ⟨b,0,none⟩=some u)(h1:u.oneCell'=true)
 (h63:n+1≤maxLen)(hbytes:(n+1)*bytes≤140737488355328)(hbase:base≤w.heap.size):
 ∃ v' w',(Builtin.append_ #[t,t] ty #[v,.slice (some ⟨b,0,none⟩) 1 c]).run P w=.ok v' w'∧w'.ownsRow base e 1 v' (n+1) (xs++[u])∧w'.ownsRow base e 1 v n xs∧w.grownBy w' v.ownBlock∧(v'.ownBlock=v.ownBlock∨v'.ownBlock=some w.heap.size):=by
 subst hby
 have hnews:∀ j x,[u][j]?=some x→w.cell? ((⟨b,0,none⟩:Addr).add j)=some x:=by
  intro j x hj
  cases j with
  | zero=>simp at hj;subst hj;simpa[Addr.add_lit] using hu
  | succ j=>simp at hj
 have hl:[u].length=1*i.size:=by rw[hsize];rfl
 have hone:∀ x∈[u],x.oneCell'=true:=fun x hx=>by rw[List.mem_singleton.1 hx];exact h1
 have hsmall:n+1≤9223372036854775807:=by simp only[maxLen] at h63;omega
 have hlen:(xs++[u]).length=(n+1)*1:=by rw[List.length_append,hown.1];simp
 have grown:∀ (old:Nat),old<n+1→∀ (row:Option Nat),
  (w.drew.alloc (.cells (xs.toArray++[u].toArray++Builtin.zeroCells z.cells (grownCap w (n+1) old e - (n+1))) e)).ownsRow base e 1
   (.slice (some ⟨w.heap.size,0,none⟩) (n+1) (grownCap w (n+1) old e)) (n+1) (xs++[u]) ∧
  w.grownBy (w.drew.alloc (.cells (xs.toArray++[u].toArray++Builtin.zeroCells z.cells (grownCap w (n+1) old e - (n+1))) e)) row:=by
  intro old ho row
  have hge:=grownCap_ge w (n+1) old e
  have hcm:grownCap w (n+1) old e≤maxLen:=grownCap_le_maxLen w (n+1) old e h63
  refine⟨⟨hlen,.inr ⟨w.heap.size,_,_,rfl,hbase,heap_alloc_new w.drew _,hge,hcm,?_,?_⟩⟩,⟨rfl,rfl,rfl,by simp,fun k hk hne=>(World.grownBy_alloc w.drew _ row).block k hk hne⟩⟩
  ·simp only[Array.size_append,List.size_toArray,size_zeroCells,hzs,hown.1,List.length_singleton]
   omega
  ·simp only[Array.toList_append,List.append_assoc]
   rw[← List.append_assoc,← hlen]
   exact List.take_left
 rcases hown.2 with ⟨rfl,rfl⟩ | ⟨g,cap,cur,rfl,hbg,hg,hnc,hcm,hcs,htake⟩
 ·have hx:xs=[]:=List.eq_nil_of_length_eq_zero (by simpa using hown.1)
  subst hx
  have hr:=run_append_nil (P:=P) w t ty e i z ht hi hz ⟨b,0,none⟩ 1 c [u] hl hnews (by omega) (by omega) (by have hb:=hbytes;simp only[Nat.zero_add] at hb;omega)
  have hgr:=grown 0 (by omega) (Value.ownBlock (.slice none 0 0))
  simp only[Nat.zero_add,List.nil_append,Array.empty_append] at hgr ⊢
  exact⟨_,_,hr,hgr.1,World.ownsRow_nil _ _ _ _,hgr.2,.inr rfl⟩
 ·by_cases hroom:n+1≤cap
  ·have hfit:n*i.size+[u].length≤cur.size:=by rw[hcs,hsize];simp;omega
   have hr:=run_append_room (P:=P) w t ty e i ht hi g n cap cur hg ⟨b,0,none⟩ 1 c [u] hl hnews hone hroom hfit
   rw[hsize] at hr
   have hsz:((List.take (n*1) cur.toList++[u]++List.drop (n*1+[u].length) cur.toList).toArray).size=cap*1:=by
    simp only[List.size_toArray,List.length_append,List.length_take,List.length_drop,Array.length_toList,List.length_singleton]
    omega
   refine⟨_,_,hr,⟨hlen,.inr ⟨g,cap,_,rfl,hbg,setRow_heap w g cur _ e _ hg,hroom,hcm,hsz,?_⟩⟩,⟨hown.1,.inr ⟨g,cap,_,rfl,hbg,setRow_heap w g cur _ e _ hg,hnc,hcm,hsz,?_⟩⟩,⟨rfl,rfl,rfl,by simp,fun k _ hk=>setRow_other w g k _ (fun e=>hk (by simp[Value.ownBlock,e]))⟩,.inl rfl⟩
   ·rw[htake,← hlen]
    exact List.take_left
   ·rw[htake,List.append_assoc,← hown.1]
    exact List.take_left
  ·have holds:∀ j x,xs[j]?=some x→w.cell? ((⟨g,0,none⟩:Addr).add j)=some x:=hown.cells (g:=g) rfl
   have hr:=run_append_grow (P:=P) w t ty e i z ht hi hz ⟨g,0,none⟩ n cap xs (by rw[hsize];exact hown.1) holds ⟨b,0,none⟩ 1 c [u] hl hnews (by omega) (by omega) (growslice_fits (by omega) hbytes)
   have hgr:=grown cap (by omega) (Value.ownBlock (.slice (some ⟨g,0,none⟩) n cap))
   refine⟨_,_,hr,hgr.1,?_,hgr.2,.inr rfl⟩
   exact(show w.drew.ownsRow base e 1 (.slice (some ⟨g,0,none⟩) n cap) n xs from hown).alloc _
def OwnR(w:World)(B:Nat)(v:Value)(l:List Int):Prop:=w.ownsRow B 3 1 v l.length (l.map (Value.int .i64))
theorem OwnR.keep{w w':World}{B:Nat}{v:Value}{l:List Int}{X:List Nat}(h:OwnR w B v l)(hk:KeepX X w w')(hx:∀ k,v.ownBlock=some k→k∉X):OwnR w' B v l:=by
 refine⟨h.1,?_⟩
 rcases h.2 with hn | ⟨g,cap,cur,rfl,hb,hgg,rest⟩
 ·exact .inl hn
 ·refine .inr ⟨g,cap,cur,rfl,hb,?_,rest⟩
  rw[hk.block g (Array.getElem?_eq_some_iff.1 hgg).1 (hx g rfl)]
  exact hgg
theorem OwnR.up{w w':World}{B:Nat}{v:Value}{l:List Int}(h:OwnR w B v l)(hB:Below w.heap.size w w'):OwnR w' B v l:=h.keep (X:=[]) (KeepX.of_below hB) (by simp)
theorem OwnR.low{w:World}{B C:Nat}{v:Value}{l:List Int}(h:OwnR w B v l)(hC:C≤B):OwnR w C v l:=by
 refine⟨h.1,?_⟩
 rcases h.2 with hn | ⟨g,cap,cur,rfl,hb,rest⟩
 ·exact .inl hn
 ·exact .inr ⟨g,cap,cur,rfl,Nat.le_trans hC hb,rest⟩
def lkS(S:List (Int×Value))(r:Int):Value:=match S.find? (fun x=>decide (x.1=r)) with | some y=>y.2 | none=>.slice none 0 0
def setS(S:List (Int×Value))(k:Int)(v:Value):List (Int×Value):=bif S.any (fun x=>decide (x.1=k)) then S.map (fun x=>bif decide (x.1=k) then (k,v) else x) else S++[(k,v)]
def hdM(S:List (Int×Value)):List (AV×AV):=S.map fun x=>(eI x.1,.imm x.2)
def addK(l:List Int)(k:Int):List Int:=if k∈l then l else l++[k]
def keysOf(p:Int)(b:List Int):List Int:=b.foldl (fun l y=>addK l (y / p)) []
theorem keysOf_snoc{p:Int}{b:List Int}{K:Nat}{t:Int}(h:b[K]?=some t):keysOf p (b.take (K+1))=addK (keysOf p (b.take K)) (t / p):=by
 obtain⟨hk,he⟩:=List.getElem?_eq_some_iff.1 h
 rw[List.take_succ_eq_append_getElem hk,he,keysOf,List.foldl_append];rfl
theorem setS_keys(S:List (Int×Value))(k:Int)(v:Value):(setS S k v).map (·.1)=addK (S.map (·.1)) k:=by
 have e:S.any (fun x=>decide (x.1=k))=decide (k∈S.map (·.1)):=by
  rw[Bool.eq_iff_iff,List.any_eq_true,decide_eq_true_eq,List.mem_map]
  exact⟨fun ⟨x,h1,h2⟩=>⟨x,h1,odt h2⟩,fun ⟨x,h1,h2⟩=>⟨x,h1,decide_eq_true h2⟩⟩
 unfold setS addK
 rw[e]
 by_cases h:k∈S.map (·.1)
 ·rw[decide_eq_true h,if_pos h]
  simp only[cond_true,List.map_map]
  refine List.map_congr_left fun x hx=>?_
  show(bif decide (x.1=k) then (k,v) else x).1=x.1
  by_cases h1:x.1=k
  ·rw[decide_eq_true h1];exact h1.symm
  ·rw[decide_eq_false h1];rfl
 ·rw[decide_eq_false h,if_neg h];simp
theorem find_eq{S:List (Int×Value)}{r:Int}{v:Value}(hn:(S.map (·.1)).Nodup)(h:(r,v)∈S):lkS S r=v:=by
 unfold lkS
 induction S with
 | nil=>cases h
 | cons x t ih=>
  rw[List.find?_cons]
  rw[List.map_cons,List.nodup_cons] at hn
  rcases List.mem_cons.1 h with rfl | h
  ·simp
  ·have:x.1≠r:=fun e=>hn.1 (List.mem_map.2 ⟨_,h,e.symm⟩)
   rw[decide_eq_false this]
   exact ih hn.2 h
theorem lkS_set(S:List (Int×Value))(k:Int)(v:Value)(r:Int):lkS (setS S k v) r=if r=k then v else lkS S r:=by
 unfold lkS setS
 cases e:S.any (fun x=>decide (x.1=k)) with
 | true=>
  simp only[cond_true]
  rw[List.find?_map]
  have hc:(fun x:Int×Value=>decide (x.1=r))∘(fun x:Int×Value=>bif decide (x.1=k) then (k,v) else x)=fun x=>decide (x.1=r):=by
   funext x
   show decide ((bif decide (x.1=k) then (k,v) else x).1=r)=_
   by_cases h:x.1=k
   ·rw[decide_eq_true h,cond_true,h]
   ·rw[decide_eq_false h,cond_false]
  rw[hc]
  by_cases h:r=k
  ·subst h
   rw[if_pos rfl]
   rw[List.any_eq_true] at e
   obtain⟨x,hx,hx2⟩:=e
   cases hf:S.find? (fun x=>decide (x.1=r)) with
   | none=>exact absurd hx2 (List.find?_eq_none.1 hf x hx)
   | some y=>
    have hy:=List.find?_some hf
    simp only[Option.map_some]
    rw[hy];rfl
  ·rw[if_neg h]
   cases hf:S.find? (fun x=>decide (x.1=r)) with
   | none=>rfl
   | some y=>
    have hy:y.1=r:=odt (List.find?_some (p:=fun x:Int×Value=>decide (x.1=r)) hf)
    simp only[Option.map_some]
    rw[decide_eq_false (by rw[hy];exact h)];rfl
 | false=>
  simp only[cond_false]
  rw[List.find?_append]
  by_cases h:r=k
  ·subst h
   rw[if_pos rfl]
   have hf:S.find? (fun x=>decide (x.1=r))=none:=List.find?_eq_none.2 fun x hx hh=>by
    rw[List.any_eq_false] at e;exact e x hx hh
   rw[hf];simp
  ·rw[if_neg h]
   have:[(k,v)].find? (fun x:Int×Value=>decide (x.1=r))=none:=by simp;exact fun e=>h e.symm
   rw[this]
   cases S.find? (fun x=>decide (x.1=r)) <;> rfl
theorem mset_hd(S:List (Int×Value))(k:Int)(v:Value):mset (hdM S) (eI k) (.imm v)=hdM (setS S k v):=by
 have h1:(hdM S).any (fun x=>keyB x.1 (eI k))=S.any (fun x=>decide (x.1=k)):=by
  rw[hdM,List.any_map];rfl
 unfold mset setS
 rw[h1]
 cases S.any (fun x=>decide (x.1=k)) with
 | true=>
  simp only[cond_true,hdM,List.map_map]
  refine List.map_congr_left fun x hx=>?_
  show(bif decide (x.1=k) then (eI k,AV.imm v) else (eI x.1,.imm x.2))=_
  show _=(eI (bif decide (x.1=k) then (k,v) else x).1,AV.imm (bif decide (x.1=k) then (k,v) else x).2)
  cases decide (x.1=k) <;> rfl
 | false=>simp[hdM]
abbrev nz:Fz:=fun _ _=>none
def ByAt(w:World)(bm:Nat)(S:List (Int×Value)):Prop:=MapIs (.int .i64) nz w bm (hdM S)
theorem ByAt.keep{w w':World}{bm:Nat}{S:List (Int×Value)}(h:ByAt w bm S)(hb:w'.heap[bm]?=w.heap[bm]?):ByAt w' bm S:=by
 obtain⟨ents,clk,es0,h1,hr⟩:=h
 exact⟨ents,clk,es0,hb.trans h1,hr⟩
theorem ByAt.lt{w:World}{bm:Nat}{S:List (Int×Value)}(h:ByAt w bm S):bm<w.heap.size:=by
 obtain⟨ents,clk,es0,h1,hr⟩:=h
 exact lt_of_heap h1
theorem ByAt.start(w:World):ByAt (w.alloc (.map #[] 0)) w.heap.size []:=⟨#[],0,[],heap_alloc_new w _,⟨by simp,by simp⟩,rfl,List.Perm.refl _,⟨by simp[hdM],by simp[hdM]⟩,by intro i e x he;simp at he,by intro i e x he;simp at he⟩
theorem kp_int:kpOk Tryz.prog 3 (.int .i64)=true:=by kernel_rfl
theorem ByAt.look{w:World}{bm:Nat}{S:List (Int×Value)}(h:ByAt w bm S)(t:Int):
 (Instr.lookup 305 (.map (some bm)) (.int .i64 t) false).run Tryz.prog w=.ok (lkS S t) w:=by
 have hz:(zeroValue 28).run Tryz.prog w=.ok (.slice none 0 0) w:=Tryz.zeroValue28 w
 have hfm:(hdM S).find? (fun x=>keyB x.1 (eI t))=(S.find? (fun x=>decide (x.1=t))).map fun x=>(eI x.1,.imm x.2):=by
  rw[hdM,List.find?_map];rfl
 unfold lkS
 cases hf:S.find? (fun x=>decide (x.1=t)) with
 | some y=>
  rw[hf] at hfm
  obtain⟨ents,clk,hb,hres⟩:=MapIs.find (P:=Tryz.prog) (A:=fun v=>v=.imm y.2) (B:=False) h kp_int (k:=eI t) rfl (by rw[mgo_eq,hfm];rfl)
  have hc:=run_checkKey_kv (P:=Tryz.prog) w ents.isEmpty kp_int (a:=eI t) rfl
  have hg:=MapKept.run_getObj_map (P:=Tryz.prog) hb
  rcases hres with ⟨j,v,x',hf',hv,rfl⟩ | ⟨_,hF⟩
  ·obtain rfl:v=y.2:=by cases hv;rfl
   simp only[kv,kv1] at hc hf'
   simp[Instr.lookup,run_underlying Tryz.underlying305,hc,hf',hz,hg]
  ·exact hF.elim
 | none=>
  rw[hf] at hfm
  obtain⟨ents,clk,hb,hres⟩:=MapIs.find (P:=Tryz.prog) (A:=fun v=>False) (B:=True) h kp_int (k:=eI t) rfl (by rw[mgo_eq,hfm];trivial)
  have hc:=run_checkKey_kv (P:=Tryz.prog) w ents.isEmpty kp_int (a:=eI t) rfl
  have hg:=MapKept.run_getObj_map (P:=Tryz.prog) hb
  rcases hres with ⟨j,v,x',hf',hv,hF⟩ | ⟨hf',_⟩
  ·exact hF.elim
  ·simp only[kv,kv1] at hc hf'
   simp[Instr.lookup,run_underlying Tryz.underlying305,hc,hf',hz,hg]
theorem ByAt.put{w:World}{bm:Nat}{S:List (Int×Value)}(h:ByAt w bm S)(t:Int){v:Value}(hv:v.oneCell'=true):
 ∃ w',(Instr.mapUpdate 305 (.map (some bm)) (.int .i64 t) v).run Tryz.prog w=.ok () w'∧ByAt w' bm (setS S t v)∧KeepX [bm] w w':=by
 obtain⟨w',hrun,hM,_,hk⟩:=MapIs.set (P:=Tryz.prog) (t:=3) (e:=28) h Tryz.underlying305 kp_int (k:=eI t) (v:=.imm v) rfl (vk:=.int .i64 t) (vv:=v) rfl (.imm _ rfl) (.imm _ hv)
 rw[mset_hd] at hM
 exact⟨w',hrun,hM,⟨hk.os,hk.tape,hk.output,hk.size,fun k h1 h2=>hk.block k h1 fun e=>h2 (by rw[e];simp)⟩⟩
theorem own_one{w:World}{B:Nat}{v:Value}{l:List Int}(h:OwnR w B v l):v.oneCell'=true:=by
 rcases h.2 with ⟨rfl,_⟩ | ⟨g,cap,cur,rfl,_⟩ <;> rfl
structure RowsAt(w:World)(B:Nat)(S:Int→Value)(F:Int→List Int):Prop where
 own:∀ r,OwnR w B (S r) (F r)
 dis:∀ r r' g,(S r).ownBlock=some g→(S r').ownBlock=some g→r=r'
theorem RowsAt.keep{w w':World}{B:Nat}{S:Int→Value}{F:Int→List Int}{X:List Nat}(h:RowsAt w B S F)(hk:KeepX X w w')(hx:∀ k∈X,k<B):RowsAt w' B S F:=
 ⟨fun r=>(h.own r).keep hk fun k hk' hm=>by have:=((h.own r).lt k hk').1;have:=hx k hm;omega,h.dis⟩
def rowsOf(p:Int)(b:List Int)(r:Int):List Int:=(b.filter fun y=>y / p==r).map fun y=>y % p
theorem rowsOf_snoc{p:Int}{b:List Int}{K:Nat}{t:Int}(h:b[K]?=some t)(r:Int):rowsOf p (b.take (K+1)) r=if r=t / p then rowsOf p (b.take K) r++[t % p] else rowsOf p (b.take K) r:=by
 obtain⟨hk,he⟩:=List.getElem?_eq_some_iff.1 h
 unfold rowsOf
 rw[List.take_succ_eq_append_getElem hk,he,List.filter_append,List.map_append]
 by_cases e:r=t / p
 ·rw[if_pos e,List.filter_cons_of_pos (by simp[e])];rfl
 ·rw[if_neg e,List.filter_cons_of_neg (by simp;exact fun h=>e h.symm)];simp
theorem rowsOf_len(p:Int)(b:List Int)(r:Int):(rowsOf p b r).length≤b.length:=by unfold rowsOf;rw[List.length_map];exact List.length_filter_le _ _
theorem RowsAt.next{w w3 w4:World}{B bm:Nat}{S:Int→Value}{p:Int}{b:List Int}{K:Nat}{t:Int}{v2:Value}(h:RowsAt w B S (rowsOf p (b.take K)))(ht:b[K]?=some t)
 (hv2:OwnR w3 B v2 (rowsOf p (b.take K) (t / p)++[t % p]))(hk3:KeepX (rowOf (S (t / p))) w w3)(hb2:v2.ownBlock=(S (t / p)).ownBlock∨∃ g,v2.ownBlock=some g∧w.heap.size≤g)(hk4:KeepX [bm] w3 w4)(hbm:bm<B):
 RowsAt w4 B (fun r=>if r=t / p then v2 else S r) (rowsOf p (b.take (K+1))):=by
 refine⟨fun r=>?_,fun r r' g h1 h2=>?_⟩
 ·rw[rowsOf_snoc ht]
  (try dsimp only)
  by_cases e:r=t / p
  ·rw[if_pos e,if_pos e]
   subst e
   exact hv2.keep hk4 fun k hk hm=>by have:=(hv2.lt k hk).1;rw[List.mem_singleton.1 hm] at this;omega
  ·rw[if_neg e,if_neg e]
   exact((h.own r).keep hk3 fun k hk hm=>e (h.dis r _ k hk (rowOf_mem hm))).keep hk4 fun k hk hm=>by have:=((h.own r).lt k hk).1;rw[List.mem_singleton.1 hm] at this;omega
 ·(try dsimp only at h1 h2)
  have key:∀ r'',r''≠t / p→(S r'').ownBlock=some g→v2.ownBlock=some g→False:=fun r'' hne hs hv=>by
   rcases hb2 with e | ⟨g',e,hg⟩
   ·rw[e] at hv;exact hne (h.dis _ _ g hs hv)
   ·rw[e] at hv;cases hv;have:=((h.own r'').lt _ hs).2;omega
  by_cases e:r=t / p
  ·rw[if_pos e] at h1
   by_cases e':r'=t / p
   ·rw[e,e']
   ·rw[if_neg e'] at h2;exact(key r' e' h2 h1).elim
  ·rw[if_neg e] at h1
   by_cases e':r'=t / p
   ·rw[if_pos e'] at h2;exact(key r e h1 h2).elim
   ·rw[if_neg e'] at h2;exact h.dis _ _ g h1 h2
theorem exec_append{P:Program}{o:Oper}{a:Act}{w w':World}{v' v y:Value}{s x:Operand}{t:TypeId}(ho:o.op=.call { callee:=.builtin .append,args:=#[s,x],argTypes:=#[t,t] })(hs:a.eval s=v)(hx:a.eval x=y)
 (hr:(Builtin.append_ #[t,t] o.type #[v,y]).run P w=.ok v' w'):(execOp a.eval o).run P w=.ok (.value v') w':=by
 unfold execOp
 simp only[ho,resolve,invoke,builtin,Sem.run_bind,Sem.run_pure,Result.andThen_ok,List.map_toArray,List.map_cons,List.map_nil,hs,hx,hr]
theorem exec_mapUpdate{P:Program}{o:Oper}{a:Act}{w w':World}{m x v:Operand}{mv key val:Value}{t:TypeId}(ho:o.op=Op.mapUpdate t m x v)(hm:a.eval m=mv)(hx:a.eval x=key)(hv:a.eval v=val)
 (hr:(Instr.mapUpdate t mv key val).run P w=.ok () w'):(execOp a.eval o).run P w=.ok .skip w':=by
 simp[execOp,ho,hm,hx,hv,hr,Result.andThen]
theorem RowsAt.low{w:World}{B C:Nat}{S:Int→Value}{F:Int→List Int}(h:RowsAt w B S F)(hC:C≤B):RowsAt w C S F:=⟨fun r=>(h.own r).low hC,h.dis⟩
structure MSt(w:World)(B ba bb bn bs bm:Nat)(n p ar1:Int)(a:List Int)(pa:Option Addr)(ca:Nat)(S:List (Int×Value))(F:Int→List Int)(ks:List Int):Prop where
 a0:w.cell? ⟨ba,0,none⟩=some (.int .i64 ar1)
 a1:w.cell? ⟨ba,1,none⟩=some (.slice pa a.length ca)
 m0:w.cell? ⟨bb,0,none⟩=some (.map (some bm))
 n0:w.cell? ⟨bn,0,none⟩=some (.int .i64 n)
 p0:w.cell? ⟨bs,0,none⟩=some (.int .i64 p)
 by':ByAt w bm S
 ks:S.map (·.1)=ks
 rows:RowsAt w B (lkS S) F
 hB:B≤ba∧B≤bb∧B≤bn∧B≤bs∧B≤bm
set_option maxRecDepth 100000 in
set_option maxHeartbeats 4000000 in
theorem matches_any(n p:Nat)(a b:List Int)(ar1 ar2:Int)(pa pb:Option Addr)(ca cb:Nat)(w:World)(hD:∀ (j:Nat) x,b[j]?=some x→∃ bx o,pb=some ⟨bx,o,none⟩∧bx<w.heap.size∧w.cell? ⟨bx,o+j,none⟩=some (.int .i64 x))(hlb:b.length≤20000)(hb:∀ x∈b,0≤x∧x<100000)(hp0:0<p)(hp1:p≤1728):
 Calls Tryz.prog 188 #[.int .i64 n,.int .i64 p,.agg #[.int .i64 ar1,.slice pa a.length ca],.agg #[.int .i64 ar2,.slice pb b.length cb]] w
  fun e w'=>∃ ba bb bn bs bm S,e=.returned (.func (.func 231) #[] #[.pointer (some ⟨ba,0,none⟩),.pointer (some ⟨bb,0,none⟩),.pointer (some ⟨bn,0,none⟩),.pointer (some ⟨bs,0,none⟩)])∧MSt w' w.heap.size ba bb bn bs bm n p ar1 a pa ca S (rowsOf p b) (keysOf p b)∧Below w.heap.size w w':=by
 obtain⟨i0,hi0,hz0,hz1,hz2⟩:=info_parts int_info
 obtain⟨s,hs⟩:∃ s,w.heap.size=s:=⟨_,rfl⟩
 obtain⟨W2,hW2⟩:∃ x,x=(((w.alloc (.cells #[.int .i64 n] 3)).alloc (.cells #[.int .i64 p] 3)).alloc (.cells #[.int .i64 ar1,.slice pa a.length ca] 50)).alloc (.cells #[.int .i64 ar2,.slice pb b.length cb] 50):=⟨_,rfl⟩
 have hB2:Below w.heap.size w W2:=by rw[hW2];go_grown
 have z2:W2.heap.size=s+4:=by rw[hW2,← hs];simp
 have y0:W2.cell? ⟨s,0,none⟩=some (.int .i64 n):=by rw[hW2,← hs];go_cell
 have y1:W2.cell? ⟨s+1,0,none⟩=some (.int .i64 p):=by rw[hW2,← hs];go_cell
 have y20:W2.cell? ⟨s+2,0,none⟩=some (.int .i64 ar1):=by rw[hW2,← hs];go_cell
 have y2:W2.cell? ⟨s+2,1,none⟩=some (.slice pa a.length ca):=by rw[hW2,← hs];go_cell
 have y3:W2.cell? ⟨s+3,1,none⟩=some (.slice pb b.length cb):=by rw[hW2,← hs];go_cell
 have HD:=Lib.hid hD;have HRB:=Lib.hid hb;have HW2:=Lib.hid hW2;have HS:=Lib.hid hs;have HB2:=Lib.hid hB2
 clear hD hb hW2 hs hB2
 go_enter Tryz.func188,Tryz.ntmps188
 go_upto_region 1 with fail
 rw[← HW2.out]
 simp only[HS.out,Nat.add_assoc,Nat.reduceAdd]
 have hmk:=run_makeMap (P:=Tryz.prog) 305 W2
 go_upto_region 2 with fail
 obtain⟨w4,hw4⟩:∃ x,x=(W2.alloc (.map #[] 0)).alloc (.cells #[.map (some (s+4))] 305):=⟨_,rfl⟩
 rw[← hw4]
 simp only[Nat.add_assoc,Nat.reduceAdd]
 have hB4:Below W2.heap.size W2 w4:=by rw[hw4];go_grown
 have z4:w4.heap.size=s+6:=by rw[hw4];simp[z2]
 have v0:w4.cell? ⟨s+5,0,none⟩=some (.map (some (s+4))):=by rw[hw4,show s+5=W2.heap.size+1 by omega];go_cell
 have HBY0:=Lib.hid (show ByAt w4 (s+4) [] by
  have:=ByAt.start W2
  rw[z2] at this
  rw[hw4]
  exact this.keep (Below.heap_alloc _ _ _ (by simp[z2])))
 have HR0:=Lib.hid (show RowsAt w4 (s+6) (lkS []) (rowsOf p (b.take 0)) from⟨fun r=>World.ownsRow_nil _ _ _ _,fun r r' g h1 _=>by simp[lkS,Value.ownBlock] at h1⟩)
 replace y0:=oldcell hB4 y0 (by omega);replace y1:=oldcell hB4 y1 (by omega);replace y2:=oldcell hB4 y2 (by omega);replace y20:=oldcell hB4 y20 (by omega);replace y3:=oldcell hB4 y3 (by omega)
 have HB4:=Lib.hid (btr HB2.out hB4)
 clear hw4 hB4 hmk
 go_wp2_with fail
 go_loopg [16] b.length (fun M s16 wr=>∃ (K:Nat) (S:List (Int×Value)),s16=.int .i64 K∧K≤b.length∧M=b.length - K∧S.map (·.1)=keysOf p (b.take K)∧ByAt wr (s+4) S∧RowsAt wr (s+6) (lkS S) (rowsOf p (b.take K))∧KeepX [s+4] w4 wr)
 case atStart=>exact⟨0,[],rfl,by omega,rfl,rfl,HBY0.out,HR0.out,KeepX.refl _ _⟩
 case round=>
  clear HBY0 HR0
  obtain⟨K,S,rfl,hK,hM,hks,hby,hrow,hkx⟩:=hrel
  have HM:=Lib.hid hM;have HKS:=Lib.hid hks;have HBY:=Lib.hid hby;have HROW:=Lib.hid hrow
  have hszr:=hkx.size
  have hBR:Below w.heap.size w wr:=KeepX.below' HB4.out hkx HB4.out.size (by have:=HS.out;simp;omega)
  clear hM hks hby hrow
  replace v0:=hkx.cell v0 (by simp);replace y1:=hkx.cell y1 (by simp)
  by_cases hlt:K<b.length
  case pos=>
   have hlt0:(0:Int)≤(K:Int):=by omega
   have hlt1:(K:Int)<(b.length:Int):=by omega
   obtain⟨t,ht⟩:∃ t,b[K]?=some t:=⟨_,List.getElem?_eq_getElem hlt⟩
   obtain⟨bx,off,rfl,hbx,h0⟩:=HD.out K t ht
   replace h0:=oldcell hBR h0 hbx
   have hrt:=HRB.out t (List.mem_of_getElem? ht)
   obtain⟨a1,a2,a3,a4,a5,a6,a7⟩:=quo_rem (x:=t) (n:=p) hrt.1 (by omega) hp0
   obtain⟨ky,hky⟩:∃ ky,t / (p:Int)=ky:=⟨_,rfl⟩
   obtain⟨rm,hrm⟩:∃ rm,t % (p:Int)=rm:=⟨_,rfl⟩
   rw[hky] at a1 a4 a5;rw[hrm] at a2 a3 a6 a7
   have hk1:ky<100000:=by omega
   have HKY:=Lib.hid hky;have HRM:=Lib.hid hrm;have HT:=Lib.hid ht
   obtain⟨F,hF⟩:∃ F,rowsOf p (b.take K) ky=F:=⟨_,rfl⟩
   have hFl:F.length≤20000:=by rw[← hF];exact Nat.le_trans (rowsOf_len _ _ _) (by rw[List.length_take];omega)
   have HO:=Lib.hid (show OwnR wr (s+6) (lkS S ky) F by rw[← hF];exact HROW.out.own ky)
   have HF:=Lib.hid hF
   have HX:=Lib.hid (show ∀ k∈rowOf (lkS S ky),s+6≤k∧k<wr.heap.size from fun k hk=>HO.out.lt k (rowOf_mem hk))
   have hx5:s+5∉rowOf (lkS S ky):=fun hm=>by have:=(HX.out _ hm).1;omega
   have hx1:s+1∉rowOf (lkS S ky):=fun hm=>by have:=(HX.out _ hm).1;omega
   have hx4:s+4∉rowOf (lkS S ky):=fun hm=>by have:=(HX.out _ hm).1;omega
   have hbml:=HBY.out.lt
   have hp00:¬ p=0:=by omega
   clear hky hrm ht hF hbx
   go_upto_region 5 with fail
   refine wp_region_seqE (fun x=>KeepX (rowOf (lkS S ky)) wr x∧OwnR x (s+6) (lkS S ky) F) (.one 0 0 (.one 1 1 (.one 2 0 (.one 3 1 (.one 4 0 (.one 5 1 (.one 6 0 (.one 7 1 (.one 8 0 (.one 9 1 (.one 10 0 (.one 11 1 (.alt 12 2 (.alt 13 2 (.alt 14 3 .nil .stop) .stop) .stop))))))))))))) (by kernel_rfl) (by kernel_rfl) (by kernel_rfl) ⟨KeepX.of_below (Below.drew (Below.refl _ _)),HO.out.up (Below.drew (Below.refl _ _))⟩ ?_
   iterate 12 (first | (refine seqE_free (v:=?_) rfl (by rfl) ?_ ?_;rotate_left;(focus (intro w;go_simp;try with_reducible rfl));(try simp only[Act.put,List.setIfInBounds_toArray,List.set_cons_zero,List.set_cons_succ])) | (refine seqE_pure (v:=?_) rfl (by rfl) ?_ ?_;rotate_left;(focus (intro w hS;have e5:=hS.1.cell v0 hx5;have e1:=hS.1.cell y1 hx1;have el:=(HBY.out.keep (hS.1.block _ hbml hx4)).look ky;go_simp;try with_reducible rfl));(try simp only[Act.put,List.setIfInBounds_toArray,List.set_cons_zero,List.set_cons_succ])))
   refine seqE_move rfl (by rfl) ?_ seqE_stop
   intro w1 hS
   refine⟨.slice (some ⟨w1.heap.size,0,none⟩) 1 1,w1.alloc (.cells #[.int .i64 rm] 3),(by go_simp;try with_reducible rfl),?_⟩
   obtain⟨b32,hb32⟩:∃ b,b=w1.heap.size:=⟨_,rfl⟩
   obtain⟨v1,hv1⟩:∃ x,x=w1.alloc (.cells #[.int .i64 rm] 3):=⟨_,rfl⟩
   rw[← hv1,← hb32]
   have hbl:Below w1.heap.size w1 v1:=by rw[hv1];go_grown
   have hx32:b32∉rowOf (lkS S ky):=fun hm=>by have h1:=(HX.out _ hm).2;have h2:=hS.1.size;omega
   refine⟨fun x=>(KeepX (rowOf (lkS S ky)) wr x∧OwnR x (s+6) (lkS S ky) F)∧x.cell? ⟨b32,0,none⟩=some (.int .i64 rm),⟨⟨hS.1.upB hbl,hS.2.up hbl⟩,by rw[hv1,hb32];go_cell⟩,fun x hx=>hx.1,?_⟩
   clear hS hbl hv1 hb32 w1 v1
   (try simp only[Act.put,List.setIfInBounds_toArray,List.set_cons_zero,List.set_cons_succ])
   refine seqE_move rfl (by rfl) ?_ seqE_stop
   intro w2 hS
   have hz3:=hS.1.1.size
   obtain⟨v',w',hrun,ho1,ho2,hg,hb⟩:=app_two (P:=Tryz.prog) w2 (s+6) 28 28 3 i0 _ 8 Tryz.underlying28 hi0 hz0 hz1 hz2 rfl (lkS S ky) F.length _ hS.1.2 b32 1 (.int .i64 rm) hS.2 rfl (by simp only[maxLen];omega) (by omega) (by omega)
   refine⟨v',w',exec_append rfl rfl rfl hrun,?_⟩
   have hkw:KeepX (rowOf (lkS S ky)) w2 w':=KeepX.of_grown hg fun g hg'=>mem_rowOf hg'
   have ho3:OwnR w' (s+6) v' (F++[rm]):=by unfold OwnR;rw[List.map_append,List.length_append];exact ho1
   have hb':v'.ownBlock=(lkS S ky).ownBlock∨∃ g,v'.ownBlock=some g∧wr.heap.size≤g:=hb.imp id fun h=>⟨_,h,hz3⟩
   refine⟨fun x=>((KeepX (rowOf (lkS S ky)) wr x∧OwnR x (s+6) (lkS S ky) F)∧x.cell? ⟨b32,0,none⟩=some (.int .i64 rm))∧OwnR x (s+6) v' (F++[rm]),⟨⟨⟨hS.1.1.trans hkw,ho2⟩,hkw.cell hS.2 hx32⟩,ho3⟩,fun x hx=>hx.1,?_⟩
   clear hS hrun ho1 ho2 hg hb hkw ho3 hz3 w2 w'
   (try simp only[Act.put,List.setIfInBounds_toArray,List.set_cons_zero,List.set_cons_succ])
   refine seqE_storeB rfl (by rfl) ?_ seqE_stop
   intro w3 hS
   obtain⟨w5,hrun5,hby5,hk5⟩:=(HBY.out.keep (hS.1.1.1.block _ hbml hx4)).put ky (own_one hS.2)
   refine⟨w5,exec_mapUpdate rfl rfl rfl rfl hrun5,fun x=>Below w5.heap.size w5 x,Below.refl _ _,?_⟩
   have HBY5:=Lib.hid hby5
   have HROW5:=Lib.hid (show RowsAt w5 (s+6) (lkS (setS S ky v')) (rowsOf p (b.take (K+1))) by
    have h1:=RowsAt.next (w3:=w3) (w4:=w5) (v2:=v') (bm:=s+4) HROW.out HT.out (by rw[HKY.out,HRM.out,HF.out];exact hS.2) (by rw[HKY.out];exact hS.1.1.1) (by rw[HKY.out];exact hb') hk5 (by omega)
    rw[HKY.out] at h1
    rw[show lkS (setS S ky v')=fun r=>if r=ky then v' else lkS S r from funext fun r=>lkS_set S ky v' r]
    exact h1)
   have HKS5:=Lib.hid (show(setS S ky v').map (·.1)=keysOf p (b.take (K+1)) by rw[setS_keys,keysOf_snoc HT.out,HKY.out,HKS.out])
   have hkx5:KeepX [s+4] w4 w5:=by
    have h1:KeepX ((s+4)::rowOf (lkS S ky)) w4 w5:=((hkx.sub (by simp)).trans (hS.1.1.1.sub (fun k hk=>List.mem_cons_of_mem _ hk))).trans (hk5.sub (by simp))
    exact h1.fresh fun k hk=>by
     rcases List.mem_cons.1 hk with e | e
     ·exact .inl (by rw[e];simp)
     ·exact .inr (by rw[z4];exact(HX.out k e).1)
   clear hrun5 hby5 hk5 hS hb'
   (try simp only[Act.put,List.setIfInBounds_toArray,List.set_cons_zero,List.set_cons_succ])
   refine seqE_nil ?_
   intro wz hS
   have hbyz:=HBY5.out.keep (hS.block _ HBY5.out.lt)
   have hrowz:=HROW5.out.keep (X:=[]) (KeepX.of_below hS) (by simp)
   have hkxz:=hkx5.upB hS
   clear hS HBY5 HROW5 hkx5
   go_wp2_with fail
   go_roundg (b.length - (K+1))
   case measure=>(have:=HM.out;omega)
   case rel=>exact⟨K+1,_,by go_num,by omega,rfl,HKS5.out,hbyz,hrowz,hkxz⟩
  case neg=>
   obtain rfl:K=b.length:=by omega
   replace y0:=hkx.cell y0 (by simp);replace y2:=hkx.cell y2 (by simp);replace y20:=hkx.cell y20 (by simp)
   have hrw:=HROW.out
   rw[List.take_length] at hrw
   have hks2:=HKS.out
   rw[List.take_length] at hks2
   have HRW:=Lib.hid (hrw.low (C:=w.heap.size) (by have:=HS.out;omega))
   have hBs:w.heap.size≤s:=Nat.le_of_eq HS.out
   clear hrw
   go_wp2_with fail
   go_ret
   exact⟨_,_,_,_,_,_,rfl,⟨y20,y2,v0,y0,y1,HBY.out,hks2,HRW.out,by omega⟩,hBR⟩
end Go.Proofs.YtmllhjbnbhapoaaGreat
namespace Go.Ab
open Go Go.Proofs Go.RowKit
open Go.Proofs.YtmllhjbnbhapoaaGreat (rowsOf keysOf MSt ByAt RowsAt OwnR lkS hdM nz find_eq matches_any)
set_option maxRecDepth 10000
theorem rep_rl{fz:Fz}{v:Value}{r:Rl}(h:Rep fz v r.av):∃ p cap,v=.agg #[.int .i64 r.arity,.slice p r.tuples.length cap]∧Rep fz (.slice p r.tuples.length cap) (ints r.tuples)∧∀ (j:Nat) x,r.tuples[j]?=some x→∃ b o,p=some ⟨b,o,none⟩∧fz b (o+j)=some (.int .i64 x):=by
 change Rep fz v (.agg [eI r.arity,ints r.tuples]) at h
 cases h with
 | agg vs _ h1 hl hc=>
  match vs,hl with
  | [v0,v1],_=>
   have e0:=hc 0 v0 _ rfl rfl
   have e1:=hc 1 v1 _ rfl rfl
   obtain⟨p,cap,rfl,_,_,h3⟩:=rep_ints_val e1
   cases e0
   exact⟨p,cap,rfl,e1,h3⟩
def rowsM(p:Int)(b:List Int):List (AV×AV):=(keysOf p b).map fun r=>(eI r,ints (rowsOf p b r))
theorem own_rep{fz:Fz}{w:World}{B:Nat}(hf:∀ b o,B≤b→fz b o=w.pk b o){v:Value}{l:List Int}(hl:l.length≤9223372036854775807)(h:OwnR w B v l):Rep fz v (ints l):=by
 rcases h.2 with ⟨rfl,h0⟩ | ⟨g,cap,cur,rfl,hg,hh,h1,h2,h3,h4⟩
 ·obtain rfl:l=[]:=List.length_eq_zero_iff.1 h0
  exact .slice none 0 0 1 [] [] rfl (Nat.le_refl _) (by omega) (fun _ h=>by cases h) (fun _ h=>by cases h) (fun i v h=>by simp at h) rfl (fun i v x h=>by simp at h)
 ·rw[Nat.mul_one] at h4
  have hcur:∀ (i:Nat) x,l[i]?=some x→cur[i]?=some (.int .i64 x):=fun i x hx=>by
   have h5:(cur.toList.take l.length)[i]?=(l.map (Value.int .i64))[i]?:=by rw[h4]
   rw[List.getElem?_take_of_lt (List.getElem?_eq_some_iff.1 hx).1,List.getElem?_map,hx,Array.getElem?_toList] at h5
   exact h5
  refine .slice _ _ cap 1 (l.map eI) (l.map (Value.int .i64)) (List.length_map _).symm h1 hl (fun e he=>?_) (fun v hv=>?_) (fun i v hv=>?_) (by rw[flat_ints,List.length_map,List.length_map]) (fun i v x hv hx=>?_)
  ·obtain⟨x,_,rfl⟩:=List.mem_map.1 he;rfl
  ·obtain⟨x,_,rfl⟩:=List.mem_map.1 hv;rfl
  ·refine⟨g,0,rfl,?_⟩
   rw[List.getElem?_map] at hv
   cases hx:l[i]? with
   | none=>rw[hx] at hv;cases hv
   | some x=>
    rw[hx] at hv;cases hv
    rw[hf _ _ hg,Nat.zero_add]
    refine cell_pk ?_ rfl
    simp only[World.cell?,hh,Option.isSome_none,Bool.false_eq_true,if_false]
    exact hcur i x hx
  ·rw[flat_ints,List.getElem?_map] at hx
   rw[List.getElem?_map] at hv
   cases hi:l[i]? with
   | none=>rw[hi] at hv;cases hv
   | some y=>
    rw[hi] at hv hx;cases hv;cases hx
    exact .imm _ rfl
theorem ref_rep{fz:Fz}{w:World}{B:Nat}(hf:∀ b o,B≤b→fz b o=w.pk b o){b:Nat}(hb:B≤b){vs:List Value}{cs:List AV}(h1:Ones vs)(hl:vs.length=cs.length)(hc:∀ (i:Nat) v,vs[i]?=some v→w.cell? ⟨b,i,none⟩=some v)(h:∀ (i:Nat) v x,vs[i]?=some v→cs[i]?=some x→Rep fz v x):Rep fz (.pointer (some ⟨b,0,none⟩)) (.ref cs):=
 .ref b 0 cs vs h1 (fun i v hv=>⟨b,0,rfl,by rw[hf _ _ hb,Nat.zero_add];exact cell_pk (hc i v hv) (h1 v (List.mem_of_getElem? hv))⟩) hl h
theorem rowsOf_len'(p:Int)(b:List Int)(r:Int):(rowsOf p b r).length≤b.length:=by unfold rowsOf;rw[List.length_map];exact List.length_filter_le _ _
theorem matchesP(n p:Nat)(a b:Rl)(hlb:b.tuples.length≤20000)(hb:∀ x∈b.tuples,0≤x∧x<100000)(hp0:0<p)(hp1:p≤1728):
 AFun Tryz.prog 188 [eI n,eI p,a.av,b.av] (.p (.fn (.func 231) [] [.ref a.cs,.ref [.mp (.int .i64) (rowsM p b.tuples)],.ref [eI n],.ref [eI p]])):=by
 refine⟨⟨_,Tryz.func188,rfl,rfl⟩,fun fz w vs hz hr=>?_⟩
 obtain⟨v0,v1,v2,v3,rfl⟩:∃ v0 v1 v2 v3,vs=[v0,v1,v2,v3]:=by
  match vs,hr.1 with
  | [v0,v1,v2,v3],_=>exact⟨v0,v1,v2,v3,rfl⟩
 have e0:=hr.2 0 v0 _ rfl rfl
 have e1:=hr.2 1 v1 _ rfl rfl
 cases e0
 cases e1
 obtain⟨pa,ca,rfl,ra,ha⟩:=rep_rl (hr.2 2 v2 _ rfl rfl)
 obtain⟨pb,cb,rfl,rb,hb'⟩:=rep_rl (hr.2 3 v3 _ rfl rfl)
 refine(matches_any n p a.tuples b.tuples a.arity b.arity pa pb ca cb w (fun j x hx=>?_) hlb hb hp0 hp1).mono ?_
 ·obtain⟨bx,o,e,h1⟩:=hb' j x hx
  have h2:=hz _ _ _ h1
  exact⟨bx,o,e,pk_lt h2,pk_cell h2 rfl⟩
 ·rintro e w' ⟨ba,bb,bn,bs,bm,S,rfl,hM,hB⟩
  obtain⟨B,hBw⟩:∃ B,w.heap.size=B:=⟨_,rfl⟩
  rw[hBw] at hM
  obtain⟨q1,q2,q3,q4,q5⟩:=hM.hB
  let fz':Fz:=fun b o=>if b<w.heap.size then fz b o else w'.pk b o
  have hlow:∀ b,b<w.heap.size→fz' b=fz b:=fun b hb=>by funext o;exact if_pos hb
  have hhi:∀ b o,B≤b→fz' b o=w'.pk b o:=fun b o hb=>if_neg (by omega)
  have hle:FzLe fz fz':=fun b o v hv=>by rw[hlow b (pk_lt (hz _ _ _ hv))];exact hv
  have hok:FzOk fz' w':=fun b o v hv=>by
   by_cases h:b<w.heap.size
   ·rw[hlow b h] at hv
    exact hz.kept (Kept.of_below hB) b o v hv
   ·rw[hhi b o (by omega)] at hv;exact hv
  refine⟨_,fz',rfl,Kept.of_below hB,⟨hle,hlow⟩,hok,fun g hg=>.p _ _ ?_⟩
  rw[hg]
  obtain⟨ents,clk,es0,m1,m2,m3,m4,m5,m6,m7⟩:=hM.by'
  have hnd:(S.map (·.1)).Nodup:=by
   have h:=(m5.perm m4).2
   have e:(hdM S).map (·.1)=(S.map (·.1)).map eI:=by rw[hdM,List.map_map,List.map_map];rfl
   rw[e] at h
   exact List.Pairwise.of_map eI (fun a b hab e=>hab (by rw[e])) h
  have rmap:Rep fz' (.map (some bm)) (.mp (.int .i64) (rowsM p b.tuples)):=by
   let f:AV×AV→AV×AV:=fun x=>(x.1,match x.1 with | .imm (.int _ r)=>ints (rowsOf p b.tuples r) | y=>y)
   have hperm:(es0.map f).Perm (rowsM p b.tuples):=by
    have h:=m4.map f
    have e:(hdM S).map f=rowsM p b.tuples:=by rw[rowsM,← hM.ks,hdM,List.map_map,List.map_map];rfl
    rw[e] at h;exact h
   have hkeys:(es0.map f).map (·.1)=es0.map (·.1):=by rw[List.map_map];rfl
   refine .mp _ bm ents clk (es0.map f) _ ?_ m2 (by rw[List.length_map];exact m3) hperm ⟨fun x hx=>?_,by rw[hkeys];exact m5.2⟩ (fun i e x he hx=>?_) (fun i e x he hx=>?_)
   ·rw[hhi _ _ q5];exact map_pk m1
   ·obtain⟨y,hy,rfl⟩:=List.mem_map.1 hx
    exact m5.1 y hy
   ·rw[List.getElem?_map] at hx
    cases hy:es0[i]? with
    | none=>rw[hy] at hx;cases hx
    | some y=>
     rw[hy] at hx;cases hx
     exact(m6 i e y he hy).mono (fun _ _ _ h=>by cases h)
   ·rw[List.getElem?_map] at hx
    cases hy:es0[i]? with
    | none=>rw[hy] at hx;cases hx
    | some y=>
     rw[hy] at hx;cases hx
     have hmem:y∈hdM S:=m4.mem_iff.1 (List.mem_of_getElem? hy)
     obtain⟨⟨r,v⟩,hs,rfl⟩:=List.mem_map.1 hmem
     have hv:=m7 i e _ he hy
     have hlk:=find_eq hnd hs
     have hrow:=hM.rows.own r
     rw[hlk] at hrow
     have:e.val=v:=by
      generalize e.val=u at hv
      cases hv;rfl
     rw[this]
     exact own_rep hhi (Nat.le_trans (rowsOf_len' p b.tuples r) (by omega)) hrow
  refine .fn _ [] [.pointer (some ⟨ba,0,none⟩),.pointer (some ⟨bb,0,none⟩),.pointer (some ⟨bn,0,none⟩),.pointer (some ⟨bs,0,none⟩)] [] _ rfl rfl (fun i v x h=>by simp at h) fun i v x hv hx=>?_
  match i with
  | 0=>
   cases hv;cases hx
   refine ref_rep hhi q1 (vs:=[.int .i64 a.arity,.slice pa a.tuples.length ca]) (by intro v hv;simp at hv;rcases hv with rfl | rfl <;> rfl) rfl (fun i v hv=>?_) (fun i v x hv hx=>?_)
   ·match i with
    | 0=>cases hv;exact hM.a0
    | 1=>cases hv;exact hM.a1
    | i+2=>simp at hv
   ·match i with
    | 0=>cases hv;cases hx;exact .imm _ rfl
    | 1=>cases hv;cases hx;exact ra.mono hle
    | i+2=>simp at hv
  | 1=>
   cases hv;cases hx
   refine ref_rep hhi q2 (vs:=[.map (some bm)]) (by intro v hv;simp at hv;subst hv;rfl) rfl (fun i v hv=>?_) (fun i v x hv hx=>?_)
   ·match i with
    | 0=>cases hv;exact hM.m0
    | i+1=>simp at hv
   ·match i with
    | 0=>cases hv;cases hx;exact rmap
    | i+1=>simp at hv
  | 2=>
   cases hv;cases hx
   refine ref_rep hhi q3 (vs:=[.int .i64 n]) (by intro v hv;simp at hv;subst hv;rfl) rfl (fun i v hv=>?_) (fun i v x hv hx=>?_)
   ·match i with
    | 0=>cases hv;exact hM.n0
    | i+1=>simp at hv
   ·match i with
    | 0=>cases hv;cases hx;exact .imm _ rfl
    | i+1=>simp at hv
  | 3=>
   cases hv;cases hx
   refine ref_rep hhi q4 (vs:=[.int .i64 p]) (by intro v hv;simp at hv;subst hv;rfl) rfl (fun i v hv=>?_) (fun i v x hv hx=>?_)
   ·match i with
    | 0=>cases hv;exact hM.p0
    | i+1=>simp at hv
   ·match i with
    | 0=>cases hv;cases hx;exact .imm _ rfl
    | i+1=>simp at hv
  | i+4=>simp at hv
end Go.Ab
namespace Go.Ab
open Go Go.Proofs
theorem sumI_acc:∀ (l:List Int) (a:Int),l.foldl (·+·) a=a+sumI l
 | [],a=>by simp[sumI]
 | x::r,a=>by rw[sumI,List.foldl_cons,List.foldl_cons,sumI_acc r,sumI_acc r (0+x)];omega
theorem sumI_cons(x:Int)(r:List Int):sumI (x::r)=x+sumI r:=by rw[sumI,List.foldl_cons,sumI_acc];omega
theorem sumI_nn:∀ {l:List Int},(∀ k∈l,1≤k)→0≤sumI l
 | [],_=>by simp[sumI]
 | x::r,h=>by rw[sumI_cons];have:=h x (List.mem_cons_self ..);have:=sumI_nn fun k hk=>h k (List.mem_cons_of_mem _ hk);omega
theorem sortGo_iff:∀ {l:List Int} (j:Int) (x:Int) (i:Nat),(∀ k∈l,1≤k)→0≤j→0≤x→(sortGo j l x=j+i∧i<l.length↔sumI (l.take i)≤x∧x<sumI (l.take (i+1))∧i<l.length)
 | [],j,x,i,_,_,_=>by simp
 | k::r,j,x,i,h,hj,hx=>by
  have hk:=h k (List.mem_cons_self ..)
  have hr:∀ k∈r,1≤k:=fun y hy=>h y (List.mem_cons_of_mem _ hy)
  have nn:∀ i,0≤sumI (r.take i):=fun i=>sumI_nn fun y hy=>hr y (List.mem_of_mem_take hy)
  have ge:∀ (l:List Int) (j x:Int),sortGo j l x=-1∨j≤sortGo j l x:=by
   intro l
   induction l with
   | nil=>intro j x;exact .inl rfl
   | cons y l ih=>
    intro j x
    rw[sortGo]
    split
    ·exact .inr (Int.le_refl _)
    ·rcases ih (j+1) (x - y) with h | h
     ·exact .inl h
     ·exact .inr (by omega)
  rw[sortGo]
  cases i with
  | zero=>
   rw[List.take_zero,List.take_succ_cons,List.take_zero,sumI_cons]
   have e0:sumI ([]:List Int)=0:=rfl
   rw[e0]
   split
   ·simp;omega
   ·rename_i h1
    rcases ge r (j+1) (x - k) with h2 | h2
    ·rw[h2];simp;omega
    ·simp;constructor <;> intro h3 <;> omega
  | succ i=>
   rw[List.take_succ_cons,List.take_succ_cons,sumI_cons,sumI_cons,List.length_cons]
   have n1:=nn i
   split
   ·constructor <;> intro h3 <;> omega
   ·rename_i h1
    have ih:=sortGo_iff (l:=r) (j+1) (x - k) i hr (by omega) (by omega)
    constructor
    ·intro⟨h3,h4⟩
     have:=ih.1 ⟨by omega,by omega⟩
     omega
    ·intro⟨h3,h4,h5⟩
     have:=ih.2 ⟨by omega,by omega,by omega⟩
     omega
structure MOk(s:Spc)(m:Mdl):Prop where
 pos:0<m.n
 n12:m.n≤12
 at1:∀ k∈m.scope.atoms,1≤k
 sl:m.scope.atoms.length=s.sorts.length
 fs:∀ f∈s.fields,SortsOk s.sorts.length f.sorts
 st:∀ st∈m.states,st.length=s.fields.length∧∀ (f:Nat) (h:f<st.length) (h':f<s.fields.length),st[f].Ok m.n∧st[f].arity=s.fields[f].sorts.length
 ne:0<m.states.length
 loop:0≤m.loop∧m.loop<m.states.length
theorem firstOf_iff{s:Spc}{m:Mdl}(h:MOk s m){i:Nat}(hi:i<m.scope.atoms.length)(x:Int):(firstOf m.scope i≤x∧x<firstOf m.scope i+atomsOf m.scope i)↔0≤x∧x<m.n∧sortGo 0 m.scope.atoms x=i:=by
 have h1:firstOf m.scope i+atomsOf m.scope i=sumI (m.scope.atoms.take (i+1)):=by
  unfold firstOf atomsOf
  rw[sumI_snoc _ hi,List.getElem?_eq_getElem hi];rfl
 have nn:0≤firstOf m.scope i:=sumI_nn fun y hy=>h.at1 y (List.mem_of_mem_take hy)
 have le:sumI (m.scope.atoms.take (i+1))≤m.n:=by
  have e:m.n=sumI (m.scope.atoms.take (i+1))+sumI (m.scope.atoms.drop (i+1)):=by
   show sumI m.scope.atoms=_
   conv=>lhs;rw[← List.take_append_drop (i+1) m.scope.atoms]
   rw[sumI,List.foldl_append,sumI_acc];rfl
  have:=sumI_nn (l:=m.scope.atoms.drop (i+1)) fun y hy=>h.at1 y (List.mem_of_mem_drop hy)
  omega
 rw[h1]
 constructor
 ·intro⟨a,b⟩
  have:=(sortGo_iff 0 x i h.at1 (Int.le_refl _) (by omega)).2 ⟨a,b,hi⟩
  exact⟨by omega,by omega,by omega⟩
 ·intro⟨a,b,c⟩
  have:=(sortGo_iff 0 x i h.at1 (Int.le_refl _) a).1 ⟨by omega,hi⟩
  exact⟨this.1,this.2.1⟩
structure Sym(s:Spc)(m:Mdl)(π:Int→Int):Prop where
 prm:Prm m.n π
 srt:∀ x,0≤x→x<m.n→sortGo 0 m.scope.atoms (π x)=sortGo 0 m.scope.atoms x
 fix:∀ (i:Nat) (h:i<s.sorts.length),s.sorts[i].ordered=true→∀ x,0≤x→x<m.n→sortGo 0 m.scope.atoms x=i→π x=x
noncomputable def imgM(π:Int→Int)(m:Mdl):Mdl:=⟨m.scope,m.states.map fun st=>st.map (imgR m.n π),m.loop⟩
def tyE(env:List (ByteArray×Int)):List (ByteArray×Int):=env.map fun x=>(x.1,1)
theorem envLook_map{α β:Type}(f:α→β):∀ (l:List (ByteArray×α)) (nm:ByteArray),envLook (l.map fun x=>(x.1,f x.2)) nm=(envLook l nm).map f
 | [],_=>rfl
 | x::r,nm=>by
  rw[List.map_cons,envLook,envLook,envLook_map f r nm]
  cases envLook r nm with
  | some b=>rfl
  | none=>dsimp only[Option.map_none];split <;> rfl
theorem envLook_mem{α:Type}:∀ {l:List (ByteArray×α)} {nm:ByteArray} {a:α},envLook l nm=some a→∃ x∈l,x.2=a
 | x::r,nm,a,h=>by
  rw[envLook] at h
  cases hq:envLook r nm with
  | some b=>
   rw[hq] at h
   obtain⟨y,hy,rfl⟩:=envLook_mem hq
   exact⟨y,List.mem_cons_of_mem _ hy,Option.some.inj h⟩
  | none=>
   rw[hq] at h
   dsimp only at h
   split at h
   ·exact⟨x,List.mem_cons_self ..,Option.some.inj h⟩
   ·cases h
theorem tyE_look(env:List (ByteArray×Int))(nm:ByteArray):envLook (tyE env) nm=(envLook env nm).map fun _=>1:=envLook_map (fun _=>(1:Int)) env nm
theorem mem_zip{α:Type}{l:List α}{x:α×Nat}(h:x∈l.zipIdx):∃ (i:Nat) (hi:i<l.length),x=(l[i],i):=by
 obtain⟨a,i⟩:=x
 obtain⟨_,hi,e⟩:=List.mem_zipIdx h
 simp only[Nat.zero_add,Nat.sub_zero] at hi e
 exact⟨i,hi,by rw[e]⟩
inductive Ty(s:Spc):List (ByteArray×Int)→Nd→Int→Prop
 | name {env} {n:Nd} {a:Int} (h:n.op=1) (ha:NameTy s env n.name a):Ty s env n a
 | call {env} {n:Nd} {a:Int} (h:n.op=47):Ty s env n a
 | bind {env} {n k0 k1:Nd} {b:Int} (h:n.op=15∨n.op=45∨n.op=46) (hk:n.kids=[k0,k1]) (h0:Ty s env k0 1) (h1:Ty s (env++[(n.name,1)]) k1 b):Ty s env n 1
 | app {env} {n:Nd} {a:Int} (h:n.op≠1∧n.op≠47∧n.op≠15∧n.op≠45∧n.op≠46) (al:List Int) (hl:al.length=n.kids.length) (hk:∀ (i:Nat) (h:i<n.kids.length) (h':i<al.length),Ty s env n.kids[i] al[i]) (ha:ArApp n.op n.n al a):Ty s env n a
section
theorem sortRel_ok{s:Spc}{m:Mdl}(hm:MOk s m){i:Nat}(hi:i<s.sorts.length):(sortRel m.scope i).Ok m.n:=⟨⟨by show(1:Int)≤1;omega,by show(1:Int)≤3;omega⟩,cl_up _,fun t ht=>by
 have:=(firstOf_iff hm (by rw[hm.sl];exact hi) t).1 (mem_cl.1 ht).2
 show 0≤t∧t<m.n ^ 1
 rw[Int.pow_succ,Int.pow_zero];omega⟩
theorem atoms_pos{s:Spc}{m:Mdl}(hm:MOk s m){i:Nat}(hi:i<s.sorts.length):1≤atomsOf m.scope i:=by
 unfold atomsOf
 rw[List.getElem?_eq_getElem (by rw[hm.sl];exact hi)]
 exact hm.at1 _ (List.getElem_mem _)
theorem first_in{s:Spc}{m:Mdl}(hm:MOk s m){i:Nat}(hi:i<s.sorts.length):0≤firstOf m.scope i∧firstOf m.scope i<m.n∧sortGo 0 m.scope.atoms (firstOf m.scope i)=i:=
 (firstOf_iff hm (by rw[hm.sl];exact hi) _).1 ⟨Int.le_refl _,by have:=atoms_pos hm hi;omega⟩
theorem one_ok{s:Spc}{m:Mdl}(hm:MOk s m){a:Int}(h0:0≤a)(h1:a<m.n):(⟨1,[a]⟩:Rl).Ok m.n:=⟨⟨by show(1:Int)≤1;omega,by show(1:Int)≤3;omega⟩,List.pairwise_singleton ..,fun t ht=>by
 obtain rfl:=List.mem_singleton.1 ht
 show 0≤t∧t<m.n ^ 1
 rw[Int.pow_succ,Int.pow_zero];omega⟩
theorem nextRel_ok{s:Spc}{m:Mdl}(hm:MOk s m){i:Nat}(hi:i<s.sorts.length):(nextRel m.scope i).Ok m.n:=⟨⟨by show(1:Int)≤2;omega,by show(2:Int)≤3;omega⟩,cl_up _,fun t ht=>by
 obtain⟨k,h1,h2,rfl⟩:=(mem_cl.1 ht).2
 have hi':i<m.scope.atoms.length:=by rw[hm.sl];exact hi
 have a:=(firstOf_iff hm hi' k).1 ⟨h1,by omega⟩
 have b:=(firstOf_iff hm hi' (k+1)).1 ⟨by omega,by omega⟩
 show 0≤_∧_<m.n ^ (2:Int).toNat
 rw[sq hm.pos hm.n12]
 exact⟨comb_nn hm.pos a.1 b.1,comb_lt hm.pos a.2.1 b.2.1⟩⟩
theorem state_at{s:Spc}{m:Mdl}(hm:MOk s m){st:Int}(h0:0≤st)(h1:st<m.states.length):∃ l,m.states[st.toNat]?=some l∧l.length=s.fields.length∧∀ (f:Nat) (h:f<l.length) (h':f<s.fields.length),l[f].Ok m.n∧l[f].arity=s.fields[f].sorts.length:=by
 have hlt:st.toNat<m.states.length:=by omega
 exact⟨_,List.getElem?_eq_getElem hlt,hm.st _ (List.getElem_mem hlt)⟩
theorem foundR_ok{s:Spc}{m:Mdl}(hm:MOk s m){st:Int}(h0:0≤st)(h1:st<m.states.length)(nm:ByteArray):(∀ r∈foundR s m st nm,r.Ok m.n)∧(foundR s m st nm).map Rl.arity=s.found nm:=by
 obtain⟨l,hl,hlen,hok⟩:=state_at hm h0 h1
 have hf:∀ x∈s.fields.zipIdx,(∀ r∈fRels m st nm x,r.Ok m.n)∧(fRels m st nm x).map Rl.arity=fArs nm x.1:=by
  intro x hx
  obtain⟨i,hi,rfl⟩:=mem_zip hx
  unfold fRels fArs
  simp only[hl,Option.getD_some]
  have hi':i<l.length:=by rw[hlen];exact hi
  rw[List.getElem?_eq_getElem hi',Option.getD_some]
  obtain⟨o1,o2⟩:=hok i hi' hi
  split
  ·exact⟨fun r hr=>(by obtain rfl:=List.mem_singleton.1 hr;exact o1),by simp[o2]⟩
  ·exact⟨fun r hr=>(by cases hr),rfl⟩
 have hs:∀ x∈s.sorts.zipIdx,(∀ r∈sRels m nm x,r.Ok m.n)∧(sRels m nm x).map Rl.arity=sArs nm x.1:=by
  intro x hx
  obtain⟨i,hi,rfl⟩:=mem_zip hx
  unfold sRels sArs
  have a1:=sortRel_ok hm hi
  have a2:(headRel m.scope i).Ok m.n:=one_ok hm (first_in hm hi).1 (first_in hm hi).2.1
  have a3:=nextRel_ok hm hi
  dsimp only
  refine⟨fun r hr=>?_,?_⟩
  ·rcases List.mem_append.1 hr with hr | hr
   ·split at hr
    ·obtain rfl:=List.mem_singleton.1 hr;exact a1
    ·cases hr
   ·rcases List.mem_append.1 hr with hr | hr
    ·split at hr
     ·obtain rfl:=List.mem_singleton.1 hr;exact a2
     ·cases hr
    ·split at hr
     ·obtain rfl:=List.mem_singleton.1 hr;exact a3
     ·cases hr
  ·rw[List.map_append,List.map_append]
   congr 1
   ·split <;> rfl
   ·congr 1
    ·split <;> rfl
    ·split <;> rfl
 have gen:∀ {α:Type} (l:List α) (k:Nat) (g:α×Nat→List Rl) (a:α→List Int),(∀ x∈l.zipIdx k,(∀ r∈g x,r.Ok m.n)∧(g x).map Rl.arity=a x.1)→(∀ r∈(l.zipIdx k).flatMap g,r.Ok m.n)∧((l.zipIdx k).flatMap g).map Rl.arity=l.flatMap a:=by
  intro α l
  induction l with
  | nil=>intro k g a _;exact⟨fun r hr=>(by simp at hr),rfl⟩
  | cons x r ih=>
   intro k g a h
   rw[List.zipIdx_cons] at h ⊢
   obtain⟨i1,i2⟩:=ih (k+1) g a fun y hy=>h y (List.mem_cons_of_mem _ hy)
   obtain⟨j1,j2⟩:=h _ (List.mem_cons_self ..)
   rw[List.flatMap_cons,List.flatMap_cons,List.map_append,i2,j2]
   exact⟨fun y hy=>(by rcases List.mem_append.1 hy with hy | hy;exact j1 y hy;exact i1 y hy),rfl⟩
 obtain⟨f1,f2⟩:=gen s.fields 0 _ _ hf
 obtain⟨g1,g2⟩:=gen s.sorts 0 _ _ hs
 unfold foundR Spc.found
 rw[List.map_append,f2,g2]
 exact⟨fun r hr=>(by rcases List.mem_append.1 hr with hr | hr;exact f1 r hr;exact g1 r hr),rfl⟩
theorem nameVal_ok{s:Spc}{m:Mdl}(hm:MOk s m){st:Int}(h0:0≤st)(h1:st<m.states.length){env:List (ByteArray×Int)}(he:∀ x∈env,0≤x.2∧x.2<m.n){nm:ByteArray}{a:Int}(ht:NameTy s (tyE env) nm a):(nameVal s m st env nm).Ok m.n∧(nameVal s m st env nm).arity=a:=by
 unfold NameTy at ht
 rw[tyE_look] at ht
 unfold nameVal
 cases hq:envLook env nm with
 | some b=>
  rw[hq] at ht
  obtain⟨x,hx,rfl⟩:=envLook_mem hq
  have ht:a=1:=ht
  exact⟨one_ok hm (he x hx).1 (he x hx).2,ht.symm⟩
 | none=>
  rw[hq] at ht
  have ht:s.found nm=[a]:=ht
  obtain⟨f1,f2⟩:=foundR_ok hm h0 h1 nm
  rw[ht] at f2
  cases hF:foundR s m st nm with
  | nil=>rw[hF] at f2;cases f2
  | cons r l=>
   rw[hF] at f2 f1
   simp only[List.map_cons,List.cons.injEq] at f2
   exact⟨f1 r (List.mem_cons_self ..),f2.1⟩
theorem nextSt_ok{s:Spc}{m:Mdl}(hm:MOk s m){st:Int}(h0:0≤st)(h1:st<m.states.length):0≤nextSt m st∧nextSt m st<m.states.length:=by
 have:=hm.loop
 have:=hm.ne
 unfold nextSt
 split
 ·omega
 ·split <;> omega
theorem pathGo_ok{s:Spc}{m:Mdl}(hm:MOk s m):∀ (k:Nat) (st:Int) (out:List Int),0≤st→st<m.states.length→(∀ x∈out,0≤x∧x<(m.states.length:Int))→∀ x∈pathGo m k st out,0≤x∧x<(m.states.length:Int)
 | 0,st,out,_,_,h=>h
 | k+1,st,out,h0,h1,h=>by
  rw[pathGo]
  split
  ·exact h
  ·obtain⟨a,b⟩:=nextSt_ok hm h0 h1
   refine pathGo_ok hm k _ _ a b fun x hx=>?_
   rcases List.mem_append.1 hx with hx | hx
   ·exact h x hx
   ·obtain rfl:=List.mem_singleton.1 hx;exact⟨h0,h1⟩
theorem pathOf_ok{s:Spc}{m:Mdl}(hm:MOk s m){st:Int}(h0:0≤st)(h1:st<m.states.length):∀ x∈pathOf m st,0≤x∧x<(m.states.length:Int):=pathGo_ok hm _ _ _ h0 h1 (by simp)
end
end Go.Ab
namespace Go.Ab
open Go Go.Proofs
set_option maxRecDepth 10000
theorem withinP(x a b:Int):AFun Tryz.prog 45 [eI x,eI a,eI b] (.p (eB (decide (a≤x)&&decide (x≤b)))):=by
 refine AFun.of hT Tryz.func45 rfl rfl (by simp) (AD.run hT hmix ?_)
 refine bgs (fun h=>?_) (fun h=>?_)
 ·have h':a≤x:=odt h
  exact⟨_,_,rfl,rfl,by rw[decide_eq_true h',Bool.true_and];rfl⟩
 ·have h':¬ a≤x:=of_decide_eq_false h
  exact⟨_,_,rfl,rfl,by rw[decide_eq_false h',Bool.false_and];rfl⟩
theorem sumP(l:List Int)(h:small l):AFun Tryz.prog 97 [ints l] (.p (eI (sumI l))):=by
 have ha:(l.map eI).length=l.length:=List.length_map _
 refine AFun.of hT Tryz.func97 rfl rfl (by simp) (AD.run hT hmix ?_)
 intro h1
 refine AD.loopI (fun x:Nat×Int=>x.1≤l.length∧x.2=sumI (l.take x.1)) (fun x=>l.length - x.1) (fun x=>[(3,.p (eI x.2)),(6,.p (ints l)),(7,eint .i64 (l.map eI).length),(8,eint .i64 x.1)]) (fun _=>[]) (0,0) ⟨Nat.zero_le _,by simp[sumI]⟩ .of fun ⟨i,v⟩ ⟨g1,g2⟩=>AD.run hT hmix ?_
 dsimp only at g1 g2 ⊢
 subst g2
 have hb:=h.sum i g1
 refine bgs (fun h2=>?_) (fun h2=>?_)
 ·replace h2:=odt h2
  have hlt:i<l.length:=by omega
  have hli:=h.at hlt
  have hl4:=h.1
  refine igo_map i rfl hlt (ngo_in (by omega) (by omega) (ngo_in (by omega) (by omega) ⟨(i+1,_),⟨by dsimp only;omega,(sumI_snoc l hlt).symm⟩,by dsimp only;omega,.of⟩))
 ·replace h2:=of_decide_eq_false h2
  obtain rfl:i=l.length:=by omega
  exact⟨_,_,rfl,rfl,by rw[List.take_length];rfl⟩
theorem small.take{l:List Int}(h:small l)(i:Nat):small (l.take i):=⟨by rw[List.length_take];have:=h.1;omega,fun k hk=>h.2 k (List.mem_of_mem_take hk)⟩
theorem atomsP(s:Scope)(h:small s.atoms):AFun Tryz.prog 46 [s.av] (.p (eI (sumI s.atoms))):=
 AFun.of hT Tryz.func46 rfl rfl (by simp) (AD.run hT hmix (.pure [ints s.atoms] _ rfl (sumP _ h) ⟨_,_,rfl,rfl,rfl⟩))
theorem firstP(s:Scope)(h:small s.atoms)(i:Nat)(hi:i≤s.atoms.length):AFun Tryz.prog 233 [s.av,eI i] (.p (eI (firstOf s i))):=by
 have ha:(s.atoms.map eI).length=s.atoms.length:=List.length_map _
 refine AFun.of hT Tryz.func233 rfl rfl (by simp) (AD.run hT hmix ?_)
 refine⟨0,i,rfl,rfl,by omega,by omega,?_⟩
 refine .pure [ints (s.atoms.take i)] _ (congrArg (fun z=>some [AV.slice 1 z]) ?_) (sumP _ (h.take i)) ⟨_,_,rfl,rfl,rfl⟩
 simp[List.map_take]
theorem nextP(m:Mdl)(st:Int)(hst:0≤st∧st≤100):AFun Tryz.prog 85 [m.av,eI st] (.p (eI (nextSt m st))):=by
 have hl:(m.states.map fun l=>AV.slice 2 (l.map Rl.av)).length=m.states.length:=List.length_map _
 refine AFun.of hT Tryz.func85 rfl rfl (by simp) (AD.run hT hmix ?_)
 refine bgo_true (decide_eq_true (show st≥0 from hst.1)) ?_
 intro h1
 refine ngo_in (by omega) (by omega) ?_
 refine bgs (fun h2=>?_) (fun h2=>?_)
 ·replace h2:=odt h2
  refine ngo_in (by omega) (by omega) ⟨_,_,rfl,rfl,?_⟩
  rw[nextSt,if_pos ⟨hst.1,by omega⟩];rfl
 ·replace h2:=of_decide_eq_false h2
  intro _
  refine ngo_in (by omega) (by omega) ?_
  refine bgs (fun h3=>?_) (fun h3=>?_)
  ·have h3:st=((m.states.map fun l=>AV.slice 2 (l.map Rl.av)).length:Int) - 1:=by simpa using h3
   refine⟨_,_,rfl,rfl,?_⟩
   rw[nextSt,if_neg (by omega),if_pos (by omega)];rfl
  ·have h3:st≠((m.states.map fun l=>AV.slice 2 (l.map Rl.av)).length:Int) - 1:=by simpa using h3
   refine⟨_,_,rfl,rfl,?_⟩
   rw[nextSt,if_neg (by omega),if_neg (by omega)];rfl
end Go.Ab
namespace Go.Ab
open Go Go.Proofs
section
variable {s:Spc} {m:Mdl} {n k0 k1:Nd} {st:Int} {env:List (ByteArray×Int)}
theorem ev_1(h:n.op=1):ev s m n st env=.ofR (nameVal s m st env n.name):=by rw[ev_eq,h];rfl
theorem ev_2(h:n.op=2):ev s m n st env=.ofR ⟨n.n,[]⟩:=by rw[ev_eq,h];rfl
theorem ev_3(h:n.op=3):ev s m n st env=.ofR (rUniv m.n):=by rw[ev_eq,h];rfl
theorem ev_4(h:n.op=4):ev s m n st env=.ofR (rIden m.n):=by rw[ev_eq,h];rfl
theorem ev_20(h:n.op=20):ev s m n st env=.ofI n.n:=by rw[ev_eq,h];rfl
theorem ev_30(h:n.op=30):ev s m n st env=.ofB true:=by rw[ev_eq,h];rfl
theorem ev_31(h:n.op=31):ev s m n st env=.ofB false:=by rw[ev_eq,h];rfl
theorem ev_5(h:n.op=5)(hk:n.kids=[k0]):ev s m n st env=.ofR (ev s m k0 (nextSt m st) env).r:=by rw[ev_eq,h,hk];rfl
theorem ev_11(h:n.op=11)(hk:n.kids=[k0]):ev s m n st env=.ofR (rTrans m.n (ev s m k0 st env).r):=by rw[ev_eq,h,hk];rfl
theorem ev_12(h:n.op=12)(hk:n.kids=[k0]):ev s m n st env=.ofR (rClos m.n (ev s m k0 st env).r):=by rw[ev_eq,h,hk];rfl
theorem ev_13(h:n.op=13)(hk:n.kids=[k0]):ev s m n st env=.ofR (rUnion (rClos m.n (ev s m k0 st env).r) (rIden m.n)):=by rw[ev_eq,h,hk];rfl
theorem ev_21(h:n.op=21)(hk:n.kids=[k0]):ev s m n st env=.ofI (ev s m k0 st env).r.tuples.length:=by rw[ev_eq,h,hk];rfl
theorem ev_34(h:n.op=34)(hk:n.kids=[k0]):ev s m n st env=.ofB (decide (0<(ev s m k0 st env).r.tuples.length)):=by rw[ev_eq,h,hk];rfl
theorem ev_35(h:n.op=35)(hk:n.kids=[k0]):ev s m n st env=.ofB (decide ((ev s m k0 st env).r.tuples.length=0)):=by rw[ev_eq,h,hk];rfl
theorem ev_36(h:n.op=36)(hk:n.kids=[k0]):ev s m n st env=.ofB (decide ((ev s m k0 st env).r.tuples.length=1)):=by rw[ev_eq,h,hk];rfl
theorem ev_37(h:n.op=37)(hk:n.kids=[k0]):ev s m n st env=.ofB (decide ((ev s m k0 st env).r.tuples.length≤1)):=by rw[ev_eq,h,hk];rfl
theorem ev_40(h:n.op=40)(hk:n.kids=[k0]):ev s m n st env=.ofB !(ev s m k0 st env).b:=by rw[ev_eq,h,hk];rfl
theorem ev_48(h:n.op=48)(hk:n.kids=[k0]):ev s m n st env=.ofB ((pathOf m st).all fun t=>(ev s m k0 t env).b):=by rw[ev_eq,h,hk];rfl
theorem ev_49(h:n.op=49)(hk:n.kids=[k0]):ev s m n st env=.ofB ((pathOf m st).any fun t=>(ev s m k0 t env).b):=by rw[ev_eq,h,hk];rfl
theorem ev_50(h:n.op=50)(hk:n.kids=[k0]):ev s m n st env=.ofB (ev s m k0 (nextSt m st) env).b:=by rw[ev_eq,h,hk];rfl
theorem ev_6(h:n.op=6)(hk:n.kids=[k0,k1]):ev s m n st env=.ofR (rUnion (ev s m k0 st env).r (ev s m k1 st env).r):=by rw[ev_eq,h,hk];rfl
theorem ev_7(h:n.op=7)(hk:n.kids=[k0,k1]):ev s m n st env=.ofR (rInter (ev s m k0 st env).r (ev s m k1 st env).r):=by rw[ev_eq,h,hk];rfl
theorem ev_8(h:n.op=8)(hk:n.kids=[k0,k1]):ev s m n st env=.ofR (rDiff (ev s m k0 st env).r (ev s m k1 st env).r):=by rw[ev_eq,h,hk];rfl
theorem ev_9(h:n.op=9)(hk:n.kids=[k0,k1]):ev s m n st env=.ofR (rJoin m.n (ev s m k0 st env).r (ev s m k1 st env).r):=by rw[ev_eq,h,hk];rfl
theorem ev_10(h:n.op=10)(hk:n.kids=[k0,k1]):ev s m n st env=.ofR (rProduct m.n (ev s m k0 st env).r (ev s m k1 st env).r):=by rw[ev_eq,h,hk];rfl
theorem ev_14(h:n.op=14)(hk:n.kids=[k0,k1]):ev s m n st env=.ofR (rOver m.n (ev s m k0 st env).r (ev s m k1 st env).r):=by rw[ev_eq,h,hk];rfl
theorem ev_15(h:n.op=15)(hk:n.kids=[k0,k1]):ev s m n st env=.ofR ⟨1,(ev s m k0 st env).r.tuples.filter (fun a=>(ev s m k1 st (env++[(n.name,a)])).b)⟩:=by rw[ev_eq,h,hk];rfl
theorem ev_22(h:n.op=22)(hk:n.kids=[k0,k1]):ev s m n st env=.ofI (IntKind.i64.wrap ((ev s m k0 st env).i+(ev s m k1 st env).i)):=by rw[ev_eq,h,hk];rfl
theorem ev_23(h:n.op=23)(hk:n.kids=[k0,k1]):ev s m n st env=.ofI (IntKind.i64.wrap ((ev s m k0 st env).i - (ev s m k1 st env).i)):=by rw[ev_eq,h,hk];rfl
theorem ev_32(h:n.op=32)(hk:n.kids=[k0,k1]):ev s m n st env=.ofB (decide (∀ x∈(ev s m k0 st env).r.tuples,x∈(ev s m k1 st env).r.tuples)):=by rw[ev_eq,h,hk];rfl
theorem ev_33(h:n.op=33)(hk:n.kids=[k0,k1]):ev s m n st env=.ofB (decide ((ev s m k0 st env).r.tuples=(ev s m k1 st env).r.tuples)):=by rw[ev_eq,h,hk];rfl
theorem ev_38(h:n.op=38)(hk:n.kids=[k0,k1]):ev s m n st env=.ofB (decide ((ev s m k0 st env).i=(ev s m k1 st env).i)):=by rw[ev_eq,h,hk];rfl
theorem ev_39(h:n.op=39)(hk:n.kids=[k0,k1]):ev s m n st env=.ofB (decide ((ev s m k0 st env).i<(ev s m k1 st env).i)):=by rw[ev_eq,h,hk];rfl
theorem ev_41(h:n.op=41)(hk:n.kids=[k0,k1]):ev s m n st env=.ofB ((ev s m k0 st env).b&&(ev s m k1 st env).b):=by rw[ev_eq,h,hk];rfl
theorem ev_42(h:n.op=42)(hk:n.kids=[k0,k1]):ev s m n st env=.ofB ((ev s m k0 st env).b||(ev s m k1 st env).b):=by rw[ev_eq,h,hk];rfl
theorem ev_43(h:n.op=43)(hk:n.kids=[k0,k1]):ev s m n st env=.ofB (!(ev s m k0 st env).b||(ev s m k1 st env).b):=by rw[ev_eq,h,hk];rfl
theorem ev_44(h:n.op=44)(hk:n.kids=[k0,k1]):ev s m n st env=.ofB ((ev s m k0 st env).b==(ev s m k1 st env).b):=by rw[ev_eq,h,hk];rfl
theorem ev_45(h:n.op=45)(hk:n.kids=[k0,k1]):ev s m n st env=.ofB ((ev s m k0 st env).r.tuples.all (fun a=>(ev s m k1 st (env++[(n.name,a)])).b)):=by rw[ev_eq,h,hk];rfl
theorem ev_46(h:n.op=46)(hk:n.kids=[k0,k1]):ev s m n st env=.ofB ((ev s m k0 st env).r.tuples.any (fun a=>(ev s m k1 st (env++[(n.name,a)])).b)):=by rw[ev_eq,h,hk];rfl
theorem ev_51(h:n.op=51)(hk:n.kids=[k0,k1]):ev s m n st env=.ofB (untilGo (fun t=>(ev s m k0 t env).b) (fun t=>(ev s m k1 t env).b) (pathOf m st) false false):=by rw[ev_eq,h,hk];rfl
end
def Nd.isR(n:Nd):Prop:=1≤n.op∧n.op≤15
def Nd.isI(n:Nd):Prop:=20≤n.op∧n.op≤23
def Nd.isF(n:Nd):Prop:=30≤n.op∧n.op≤51
theorem kind_R{n:Nd}(h:kindOf n.op=101):n.isR:=by unfold kindOf at h;unfold Nd.isR;repeat' split at h <;> omega
theorem kind_I{n:Nd}(h:kindOf n.op=105):n.isI:=by unfold kindOf at h;unfold Nd.isI;repeat' split at h <;> omega
theorem kind_F{n:Nd}(h:kindOf n.op=102):n.isF:=by unfold kindOf at h;unfold Nd.isF;repeat' split at h <;> omega
theorem WF_0{n:Nd}(h:n.WF){s:ByteArray}(hs:shapeOf n.op n.kids.length=some s)(h0:s.size=0):n.kids=[]:=by
 obtain⟨⟨⟨s',h1,h2,_⟩,_⟩,_⟩:=(Nd.WF_iff n).1 h
 rw[hs] at h1
 obtain rfl:=Option.some.inj h1
 exact List.eq_nil_of_length_eq_zero (by omega)
theorem WF_1{n:Nd}(h:n.WF){a:UInt8}(hs:shapeOf n.op n.kids.length=some ⟨#[a]⟩):∃ k0,n.kids=[k0]∧k0.WF∧kindOf k0.op=(a.toNat:Int):=by
 obtain⟨⟨⟨s',h1,h2,h3⟩,_⟩,h4⟩:=(Nd.WF_iff n).1 h
 rw[hs] at h1
 obtain rfl:=Option.some.inj h1
 have h2:1=n.kids.length:=h2
 match hk:n.kids,h2 with
 | [k0],_=>
  obtain⟨b,hb,hk0⟩:=h3 0 (by rw[hk];exact Nat.zero_lt_one)
  have hb:some a=some b:=hb
  obtain rfl:=Option.some.inj hb
  refine⟨k0,rfl,h4 k0 (by rw[hk];exact List.mem_singleton.2 rfl),?_⟩
  simp only[hk] at hk0;exact hk0
theorem WF_2{n:Nd}(h:n.WF){a c:UInt8}(hs:shapeOf n.op n.kids.length=some ⟨#[a,c]⟩):∃ k0 k1,n.kids=[k0,k1]∧(k0.WF∧kindOf k0.op=(a.toNat:Int))∧k1.WF∧kindOf k1.op=(c.toNat:Int):=by
 obtain⟨⟨⟨s',h1,h2,h3⟩,_⟩,h4⟩:=(Nd.WF_iff n).1 h
 rw[hs] at h1
 obtain rfl:=Option.some.inj h1
 have h2:2=n.kids.length:=h2
 match hk:n.kids,h2 with
 | [k0,k1],_=>
  obtain⟨b,hb,hk0⟩:=h3 0 (by rw[hk];exact Nat.zero_lt_two)
  have hb:some a=some b:=hb
  obtain rfl:=Option.some.inj hb
  obtain⟨d,hd,hk1⟩:=h3 1 (by rw[hk];exact Nat.one_lt_two)
  have hd:some c=some d:=hd
  obtain rfl:=Option.some.inj hd
  simp only[hk] at hk0 hk1
  exact⟨k0,k1,rfl,⟨h4 k0 (by rw[hk];simp),hk0⟩,h4 k1 (by rw[hk];simp),hk1⟩
theorem WF_op{n:Nd}(h:n.WF):n.isR∨n.isI∨n.isF:=by
 obtain⟨⟨⟨s',h1,_,_⟩,_⟩,_⟩:=(Nd.WF_iff n).1 h
 unfold shapeOf at h1
 simp only[List.mem_cons,List.not_mem_nil,or_false] at h1
 unfold Nd.isR Nd.isI Nd.isF
 repeat' split at h1
 all_goals first | omega | cases h1
theorem wf_0{n:Nd}(h:n.WF)(ho:n.op=1∨n.op=2∨n.op=3∨n.op=4∨n.op=20∨n.op=30∨n.op=31):n.kids=[]:=WF_0 (s:=⟨#[]⟩) h (by rcases ho with e | e | e | e | e | e | e <;> (rw[e];rfl)) rfl
theorem wf_e{n:Nd}(h:n.WF)(ho:n.op=5∨n.op=11∨n.op=12∨n.op=13∨n.op=21∨n.op=34∨n.op=35∨n.op=36∨n.op=37):∃ k0,n.kids=[k0]∧k0.WF∧k0.isR:=by
 obtain⟨k0,h1,h2,h3⟩:=WF_1 (a:=101) h (by rcases ho with e | e | e | e | e | e | e | e | e <;> (rw[e];rfl))
 exact⟨k0,h1,h2,kind_R h3⟩
theorem wf_ee{n:Nd}(h:n.WF)(ho:n.op=6∨n.op=7∨n.op=8∨n.op=9∨n.op=10∨n.op=14∨n.op=32∨n.op=33):∃ k0 k1,n.kids=[k0,k1]∧(k0.WF∧k0.isR)∧k1.WF∧k1.isR:=by
 obtain⟨k0,k1,h1,⟨h2,h3⟩,h4,h5⟩:=WF_2 (a:=101) (c:=101) h (by rcases ho with e | e | e | e | e | e | e | e <;> (rw[e];rfl))
 exact⟨k0,k1,h1,⟨h2,kind_R h3⟩,h4,kind_R h5⟩
theorem wf_ef{n:Nd}(h:n.WF)(ho:n.op=15∨n.op=45∨n.op=46):∃ k0 k1,n.kids=[k0,k1]∧(k0.WF∧k0.isR)∧k1.WF∧k1.isF:=by
 obtain⟨k0,k1,h1,⟨h2,h3⟩,h4,h5⟩:=WF_2 (a:=101) (c:=102) h (by rcases ho with e | e | e <;> (rw[e];rfl))
 exact⟨k0,k1,h1,⟨h2,kind_R h3⟩,h4,kind_F h5⟩
theorem wf_ii{n:Nd}(h:n.WF)(ho:n.op=22∨n.op=23∨n.op=38∨n.op=39):∃ k0 k1,n.kids=[k0,k1]∧(k0.WF∧k0.isI)∧k1.WF∧k1.isI:=by
 obtain⟨k0,k1,h1,⟨h2,h3⟩,h4,h5⟩:=WF_2 (a:=105) (c:=105) h (by rcases ho with e | e | e | e <;> (rw[e];rfl))
 exact⟨k0,k1,h1,⟨h2,kind_I h3⟩,h4,kind_I h5⟩
theorem wf_f{n:Nd}(h:n.WF)(ho:n.op=40∨n.op=48∨n.op=49∨n.op=50):∃ k0,n.kids=[k0]∧k0.WF∧k0.isF:=by
 obtain⟨k0,h1,h2,h3⟩:=WF_1 (a:=102) h (by rcases ho with e | e | e | e <;> (rw[e];rfl))
 exact⟨k0,h1,h2,kind_F h3⟩
theorem wf_ff{n:Nd}(h:n.WF)(ho:n.op=41∨n.op=42∨n.op=43∨n.op=44∨n.op=51):∃ k0 k1,n.kids=[k0,k1]∧(k0.WF∧k0.isF)∧k1.WF∧k1.isF:=by
 obtain⟨k0,k1,h1,⟨h2,h3⟩,h4,h5⟩:=WF_2 (a:=102) (c:=102) h (by rcases ho with e | e | e | e | e <;> (rw[e];rfl))
 exact⟨k0,k1,h1,⟨h2,kind_F h3⟩,h4,kind_F h5⟩
end Go.Ab
