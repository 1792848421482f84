/- Texts AbJ, AbK, AbL, AbZ, AbB. Conditions: none. -/
import Derived.Test.YtmllhjbnbhapoaaGreatGB
import Derived.Maps.RangeRun
import Derived.Laws.BytesArg
import Derived.Laws.CopyRow
import Derived.OrdersIn
import Derived.RangeFuncCalls
set_option linter.unusedSimpArgs false
set_option linter.unusedVariables false
namespace Go.Ab
open Go Go.RowKit
theorem keys_inj:∀ {es:List (AV×AV)},(es.map (·.1)).Nodup→∀ {x y},x∈es→y∈es→x.1=y.1→x=y
 | [],_,x,y,h,_,_=>by cases h
 | z::r,hn,x,y,hx,hy,he=>by
  rw[List.map_cons,List.nodup_cons] at hn
  rcases List.mem_cons.1 hx with h1 | h1 <;> rcases List.mem_cons.1 hy with h2 | h2
  ·rw[h1,h2]
  ·subst h1;exact absurd (List.mem_map.2 ⟨y,h2,he.symm⟩) hn.1
  ·subst h2;exact absurd (List.mem_map.2 ⟨x,h1,he⟩) hn.1
  ·exact keys_inj hn.2 h1 h2 he
theorem mgo_eq{k:AV}{A:AV→Prop}{B:Prop}:∀ es:List (AV×AV),mgo es k A B=(match es.find? (fun x=>keyB x.1 k) with | some y=>A y.2 | none=>B)
 | []=>rfl
 | x::r=>by
  rw[mgo_cons,mgo_eq r,List.find?_cons]
  cases keyB x.1 k <;> rfl
theorem MapIs.find{P:Program}{kp:KP}{fz:Fz}{w:World}{b:Nat}{es:List (AV×AV)}(h:MapIs kp fz w b es){t:TypeId}(hk:kpOk P t kp=true){k:AV}(hf:kfit kp k=true){A:AV→Prop}{B:Prop}(hh:mgo es k A B):
 ∃ ents clk,w.heap[b]?=some (.map ents clk)∧((∃ j v x,(Instr.findKey t (kv k) ents.toList).run P w=.ok (some (j,v)) w∧Rep fz v x∧A x)∨((Instr.findKey t (kv k) ents.toList).run P w=.ok none w∧B)):=by
 obtain⟨ents,clk,es0,h1,h2,h3,h4,h5,h6,h7⟩:=h
 refine⟨ents,clk,h1,?_⟩
 have h5':=h5.perm h4
 rcases run_findKey_kv w hk hf ents.toList es0 (by simpa using h3) (fun j e x he hx=>(h6 j e x (by simpa using he) hx).kv (h5.1 x (List.mem_of_getElem? hx))) h5.1 with ⟨e1,e2⟩ | ⟨j,e,x,e1,e2,e3,e4⟩
 ·rcases mgo_out hh with ⟨y,hy,h8,h9⟩ | ⟨_,hB⟩
  ·exact absurd ((keyB_iff (h5'.1 y hy) hf).1 h8) (e2 y (h4.mem_iff.2 hy))
  ·exact .inr ⟨e1,hB⟩
 ·rcases mgo_out hh with ⟨y,hy,h8,h9⟩ | ⟨hn,_⟩
  ·have hx:x∈es:=h4.mem_iff.1 (List.mem_of_getElem? e3)
   have:x=y:=keys_inj h5'.2 hx hy (by rw[e4,(keyB_iff (h5'.1 y hy) hf).1 h8])
   subst this
   exact .inl ⟨j,e.val,x.2,e1,h7 j e x (by simpa using e2) e3,h9⟩
  ·have hx:x∈es:=h4.mem_iff.1 (List.mem_of_getElem? e3)
   have:=hn x hx
   rw[(keyB_iff (h5'.1 x hx) hf).2 e4] at this
   cases this
theorem Rep.mapIs{fz:Fz}{w:World}(hz:∀ b o v,fz b o=some v→w.pk b o=some v){v:Value}{kp:KP}{es:List (AV×AV)}(h:Rep fz v (.mp kp es)):∃ r,v=.map (some r)∧MapIs kp fz w r es:=by
 cases h with
 | mp _ r ents clk es0 _ h1 hb hl hp hm h2 h3=>exact⟨r,rfl,ents,clk,es0,pk_map (hz _ _ _ h1),hb,hl,hp,hm,h2,h3⟩
theorem zero_one{P:Program}{i:TI}{e:TypeId}(hz:zform P e=true){te:TI}(hte:tiOk P e te=true){g:Gh}{H:Hp}:∃ z,(∀ w:World,(zeroValue e).run P w=.ok z w)∧ERep g H z (zeroE te):=by
 obtain⟨inf,d,t1,t2,t3,_,t5,t6,_⟩:=tiOk_info hte
 obtain⟨z,z1,z2,z3,z4⟩:=zOk_rep (g:=g) (H:=H) t5
 unfold zform at hz
 rw[t1,t2] at hz
 simp only[z1] at hz
 refine⟨z,fun w=>by simp[zeroValue,typeInfo,t1,z1],?_⟩
 unfold zeroE
 rw[← t6]
 cases z with
 | agg cs=>
  simp only at hz
  rw[hz]
  simp only[cond_true]
  have:cs=cs.toList.toArray:=by simp
  rw[this]
  simp only[Value.cells] at z2 z3 z4
  exact .agg _ _ z3 z2 z4
 | tuple cs=>simp at hz
 | _=>
  simp only[Bool.not_eq_true'] at hz
  rw[hz]
  simp only[cond_false]
  cases hq:te.zero with
  | nil=>rw[hq] at z2;simp[Value.cells] at z2
  | cons e r=>
   simp only
   exact z4 0 _ e (by simp[Value.cells]) (by rw[hq];rfl)
section
variable {P:Program} {T:Tab} (hT:TabOk P T) {o:Oper} {env:Env} {h:AHp} {K:Kt}
theorem okRes_rep{g:Gh}{H:Hp}{v:Value}{e:EV}(hv:ERep g H v e)(ok b:Bool):ERep g H (if ok then .tuple #[v,.bool b] else v) (okRes ok e b):=by
 cases ok with
 | false=>exact hv
 | true=>
  refine .tup [v,.bool b] [e,ebool b] rfl fun i u x hu hx=>?_
  cases i with
  | zero=>simp at hu hx;subst hu;subst hx;exact hv
  | succ i=>cases i with
   | zero=>simp at hu hx;subst hu;subst hx;exact .p _ _ (.imm _ rfl)
   | succ i=>simp at hu
include hT in
theorem aLookup_good{ty xt kt:Nat}{x k:Operand}{ok:Bool}(ho:o.op=.lookup ty x k ok)(hh:aLookup T ty (opv T env xt x) (opv T env kt k) ok h K):Good P o env h K:=by
 obtain⟨ti,hti,hh⟩:=ogo_out hh
 obtain⟨hk7,hh⟩:=bgo_outT hh
 obtain⟨te,hte,hh⟩:=ogo_out hh
 obtain⟨kx,hkx,hh⟩:=ogo_out hh
 obtain⟨hfit,hh⟩:=bgo_outT hh
 obtain⟨m1,m2,m3,m4⟩:=tiOk_map (hT ty ti hti) (nbt hk7)
 have hxm:x∈o.op.operands.toList:=by simp[ho,Op.operands]
 have hkm:k∈o.op.operands.toList:=by simp[ho,Op.operands]
 have hkey:∀ {g H'} {ρ:Operand→Value},(∀ y∈o.op.operands.toList,∀ ty,ERep g H' (ρ y) (opv T env ty y))→ρ k=kv kx:=fun hr=>(toP_rep hkx (hr k hkm kt)).kv hfit
 have runNil:∀ (ρ:Operand→Value) (w:World) z,(zeroValue ti.elem).run P w=.ok z w→ρ x=.map none→ρ k=kv kx→(execOp ρ o).run P w=.ok (.value (if ok then .tuple #[z,.bool false] else z)) w:=fun ρ w z hz hx hk=>by
  have hc:=run_checkKey_kv (P:=P) w true m3 hfit
  rcases run_findKey_kv (P:=P) w m3 hfit ([]:List MapEntry) [] rfl (by intro j e x he;simp at he) (by simp) with ⟨e1,_⟩ | ⟨j,e,x,_,e2,_⟩
  ·cases ok <;> simp[execOp,ho,Instr.lookup,run_underlying m1,hx,hk,hc,e1,hz]
  ·simp at e2
 have runM:∀ (ρ:Operand→Value) (w:World) (r:Nat) (ents:Array MapEntry) (clk:Nat) (res:Option (Nat×Value)) z,(zeroValue ti.elem).run P w=.ok z w→ρ x=.map (some r)→ρ k=kv kx→w.heap[r]?=some (.map ents clk)→(Instr.findKey ti.mkey (kv kx) ents.toList).run P w=.ok res w →
  (execOp ρ o).run P w=.ok (.value (if ok then .tuple #[(match res with | some (_,v)=>v | none=>z),.bool res.isSome] else (match res with | some (_,v)=>v | none=>z))) w:=fun ρ w r ents clk res z hz hx hk hb hf=>by
  have hc:=run_checkKey_kv (P:=P) w ents.isEmpty m3 hfit
  have hg:=MapKept.run_getObj_map (P:=P) hb
  cases res with
  | none=>cases ok <;> simp[execOp,ho,Instr.lookup,run_underlying m1,hx,hk,hc,hf,hz,hg]
  | some q=>obtain⟨j,v⟩:=q;cases ok <;> simp[execOp,ho,Instr.lookup,run_underlying m1,hx,hk,hc,hf,hz,hg]
 have onMap:∀ (rd:List Nat) (es:List (AV×AV)),(∀ (g:Gh) (H':Hp) (ρ:Operand→Value) (w:World),(∀ y∈o.op.operands.toList,∀ ty,ERep g H' (ρ y) (opv T env ty y))→(∀ k∈rd,H' k=hp h k)→WInv g H' w→∃ r,ρ x=.map (some r)∧MapIs ti.kp g.fz w r es) →
  mgo es kx (fun v=>K (okRes ok (.p v) true) h (rd,[])) (K (okRes ok (zeroE te) false) h (rd,[]))→Good P o env h K:=fun rd es hm hh=>by
  rw[mgo_eq] at hh
  cases hfd:es.find? (fun x=>keyB x.1 kx) with
  | some y=>
   rw[hfd] at hh
   refine Good.look (T:=T) rd hh fun g H' ρ w hr hrd hi=>?_
   obtain⟨r,hx,hM⟩:=hm g H' ρ w hr hrd hi
   obtain⟨z,hz,_⟩:=zero_one (i:=ti) (g:=g) (H:=H') m4 (hT _ te hte)
   obtain⟨ents,clk,hb,hres⟩:=hM.find (A:=fun v=>v=y.2) (B:=False) m3 hfit (by rw[mgo_eq,hfd])
   rcases hres with ⟨j,v,x',hf,hv,rfl⟩ | ⟨_,hF⟩
   ·exact⟨_,runM ρ w r ents clk _ z (hz w) hx (hkey hr) hb hf,okRes_rep (.p _ _ hv) ok true⟩
   ·exact hF.elim
  | none=>
   rw[hfd] at hh
   refine Good.look (T:=T) rd hh fun g H' ρ w hr hrd hi=>?_
   obtain⟨r,hx,hM⟩:=hm g H' ρ w hr hrd hi
   obtain⟨z,hz,hzr⟩:=zero_one (i:=ti) (g:=g) (H:=H') m4 (hT _ te hte)
   obtain⟨ents,clk,hb,hres⟩:=hM.find (A:=fun v=>False) (B:=True) m3 hfit (by rw[mgo_eq,hfd];trivial)
   rcases hres with ⟨j,v,x',hf,hv,hF⟩ | ⟨hf,_⟩
   ·exact hF.elim
   ·exact⟨_,runM ρ w r ents clk none z (hz w) hx (hkey hr) hb hf,okRes_rep hzr ok false⟩
 split at hh
 ·rename_i hx
  refine fun g0 a0 hr0=>Good.look (T:=T) [] hh (fun g H' ρ w hr _ hi=>?_) g0 a0 hr0
  obtain⟨z,hz,hzr⟩:=zero_one (i:=ti) (g:=g) (H:=H') m4 (hT _ te hte)
  have e1:=hr x hxm xt
  rw[hx] at e1
  exact⟨_,runNil ρ w z (hz w) e1.val (hkey hr),okRes_rep hzr ok false⟩
 ·rename_i kp es hx
  obtain⟨hkp,h2⟩:=bgo_outT hh
  clear hh
  obtain rfl:=odt hkp
  have hh:=h2
  refine onMap [] es (fun g H' ρ w hr _ hi=>?_) hh
  have e1:=hr x hxm xt
  rw[hx] at e1
  exact e1.p_inv.mapIs hi.fz
 ·rename_i j hx
  split at hh
  ·rename_i kp es hj
   obtain⟨hkp,h2⟩:=bgo_outT hh
   clear hh
   obtain rfl:=odt hkp
   have hh:=h2
   refine onMap [j] es (fun g H' ρ w hr hrd hi=>?_) hh
   have e1:=hr x hxm xt
   rw[hx] at e1
   have hH:H' j=.map ti.kp es:=(hrd j (by simp)).trans hj
   have hob:=hi.obj j
   rw[hH] at hob
   have hni:ti.kp≠.iter:=fun e=>by rw[e] at m3;simp[kpOk] at m3
   generalize ρ x=v at e1
   cases e1 with
   | mtok _ r hr'=>
    rcases hr' with h0 | ⟨rfl,_⟩
    ·rw[hH] at h0;cases h0
    ·exact⟨_,rfl,hob.1.1 hni⟩
   | itok _ r hr'=>
    rcases hr' with h0 | ⟨rfl,_,h0⟩
    ·rw[hH] at h0;cases h0
    ·rw[hH] at h0;exact absurd (AObj.map.inj h0).1 hni
  ·exact hh.elim
 ·exact hh.elim
theorem WInv.setMap{g H w}(h:WInv g H w){k:Nat}{kp:KP}{es es':List (AV×AV)}(hk:H k=.map kp es)(hni:kp≠.iter){w':World}(hw:∀ b,b≠g.blk k→w'.heap[b]?=w.heap[b]?)(hn:MapIs kp g.fz w' (g.blk k) es'):
 WInv g (upd H k (.map kp es')) w'∧GLe g H g (upd H k (.map kp es')):=by
 have hle:GLe g H g (upd H k (.map kp es')):=by
  refine⟨FzLe.refl _,fun j u ds hj=>.inr ⟨rfl,rfl,ds,?_,rfl⟩,fun j hj=>?_,fun j m hj=>⟨m,?_,Nat.le_refl _,fun _=>⟨rfl,rfl,rfl⟩⟩,fun j kp' es0 hj=>.inr ⟨rfl,?_⟩⟩
  ·by_cases hjk:j=k
   ·subst hjk;rw[hk] at hj;cases hj
   ·rw[upd_ne hjk];exact hj
  ·by_cases hjk:j=k
   ·subst hjk;rw[hk] at hj;cases hj
   ·rw[upd_ne hjk];exact hj
  ·by_cases hjk:j=k
   ·subst hjk;rw[hk] at hj;cases hj
   ·rw[upd_ne hjk];exact hj
  ·by_cases hjk:j=k
   ·subst hjk;rw[hk] at hj;cases hj;exact⟨es',by simp⟩
   ·exact⟨es0,by rw[upd_ne hjk];exact hj⟩
 have hob:=h.obj k
 rw[hk] at hob
 have hB:∀ j b,Bset g j (upd H k (.map kp es') j) b→Bset g j (H j) b:=fun j b hb=>by
  by_cases hjk:j=k
  ·subst hjk;rw[upd_same] at hb;rw[hk];exact hb
  ·rwa [upd_ne hjk] at hb
 refine⟨⟨fun b o v hz=>?_,fun j=>?_,fun i j b h1 h2=>h.inj i j b (hB i b h1) (hB j b h2)⟩,hle⟩
 ·have hne:b≠g.blk k:=fun e=>by rw[e,hob.2] at hz;cases hz
  rw[pk_congr (hw b hne)];exact h.fz b o v hz
 ·by_cases hjk:j=k
  ·subst hjk;rw[upd_same];obtain⟨_,_,_,hx,_⟩:=id hn;exact⟨⟨fun _=>hn,fun e=>absurd e hni,_,hx⟩,hob.2⟩
  ·rw[upd_ne hjk]
   exact(h.obj j).mono hle rfl rfl rfl (fun b hb=>hw b fun e=>hjk (h.inj j k b hb (by rw[hk];exact e))) fun _ _ _=>rfl
theorem Fr.setMap{Γ g H w}(h:Fr Γ g H w){k:Nat}{kp:KP}{es es':List (AV×AV)}(hk:H k=.map kp es){w':World}(hkept:Kept (fun b=>b=g.blk k) w w'):Fr Γ g (upd H k (.map kp es')) w':=by
 refine⟨?_,h.fz,h.low,fun j b hb=>h.own j b ?_,fun j u ds hj=>?_,fun j kp' es0 hj=>?_,fun j m hj=>?_⟩
 ·rcases h.own k (g.blk k) (by rw[hk];exact rfl) with hX | hX
  ·exact h.kept.trans hkept fun i _ e=>e▸hX
  ·exact h.kept.trans hkept fun i hi e=>by omega
 ·by_cases hjk:j=k
  ·subst hjk;rw[upd_same] at hb;rw[hk];exact hb
  ·rwa [upd_ne hjk] at hb
 ·have hjk:∀ {x},H j=x→x≠.map kp es→j≠k:=fun h1 h2 e=>by subst e;exact h2 (h1.symm.trans hk)
  rcases h.box j u ds hj with h0 | ⟨es',h1,h2⟩
  ·exact .inl (by rw[upd_ne (hjk h0 (by simp))];exact h0)
  ·exact .inr ⟨es',by rw[upd_ne (hjk h1 (by simp))];exact h1,h2⟩
 ·rcases h.map j kp' es0 hj with h0 | ⟨es1,h1,h2⟩
  ·have hjk:j≠k:=fun e=>by subst e;rw[hk] at h0;cases h0
   exact .inl (by rw[upd_ne hjk];exact h0)
  ·by_cases hjk:j=k
   ·subst hjk;rw[hk] at h1;cases h1;exact .inr ⟨es',by simp,h2⟩
   ·exact .inr ⟨es1,by rw[upd_ne hjk];exact h1,h2⟩
 ·obtain⟨m',h1,h2⟩:=h.tail j m hj
  have hjk:j≠k:=fun e=>by subst e;rw[hk] at h1;cases h1
  exact⟨m',by rw[upd_ne hjk];exact h1,h2⟩
theorem mset_fit{kp:KP}{es:List (AV×AV)}(h:KeysOk kp es){k v:AV}(hf:kfit kp k=true):KeysOk kp (mset es k v)∧((∀ x∈es,x.1≠k)→mset es k v=es++[(k,v)])∧∀ (j:Nat) (x:AV×AV),es[j]?=some x→x.1=k→mset es k v=es.set j (k,v):=by
 have hb:∀ x∈es,(keyB x.1 k=true↔x.1=k):=fun x hx=>keyB_iff (h.1 x hx) hf
 have e1:(∀ x∈es,x.1≠k)→mset es k v=es++[(k,v)]:=fun hn=>by
  unfold mset
  have:es.any (fun x=>keyB x.1 k)=false:=by
   rw[List.any_eq_false]
   intro x hx e
   exact hn x hx ((hb x hx).1 e)
  rw[this];rfl
 have e2:∀ (j:Nat) (x:AV×AV),es[j]?=some x→x.1=k→mset es k v=es.set j (k,v):=fun j x hj hx=>by
  unfold mset
  have hm:=List.mem_of_getElem? hj
  have:es.any (fun x=>keyB x.1 k)=true:=List.any_eq_true.2 ⟨x,hm,(hb x hm).2 hx⟩
  rw[this]
  simp only[cond_true]
  refine List.ext_getElem? fun i=>?_
  rw[List.getElem?_map,List.getElem?_set]
  by_cases hij:j=i
  ·subst hij
   rw[if_pos rfl,if_pos (List.getElem?_eq_some_iff.1 hj).1,hj]
   simp[(hb x hm).2 hx]
  ·rw[if_neg hij]
   cases hq:es[i]? with
   | none=>rfl
   | some y=>
    have hy:=List.mem_of_getElem? hq
    have hne:keyB y.1 k=false:=by
     cases hc:keyB y.1 k with
     | false=>rfl
     | true=>
      exfalso
      have:y.1=x.1:=((hb y hy).1 hc).trans hx.symm
      have hn:=h.2
      have hn:=List.pairwise_iff_getElem.1 hn
      obtain⟨hl1,he1⟩:=List.getElem?_eq_some_iff.1 hj
      obtain⟨hl2,he2⟩:=List.getElem?_eq_some_iff.1 hq
      rcases Nat.lt_or_gt_of_ne hij with hlt | hlt
      ·exact hn j i (by simpa using hl1) (by simpa using hl2) hlt (by simp[he1,he2,this])
      ·exact hn i j (by simpa using hl2) (by simpa using hl1) hlt (by simp[he1,he2,this])
    simp[hne]
 refine⟨?_,e1,e2⟩
 by_cases hany:∃ x∈es,x.1=k
 ·obtain⟨x,hx,hk⟩:=hany
  obtain⟨j,hj,hjx⟩:=List.mem_iff_getElem.1 hx
  have hj':es[j]?=some x:=by rw[List.getElem?_eq_getElem hj,hjx]
  rw[e2 j x hj' hk]
  refine⟨fun y hy=>?_,?_⟩
  ·rcases List.mem_or_eq_of_mem_set hy with hy | rfl
   ·exact h.1 y hy
   ·exact hf
  ·have:(es.set j (k,v)).map (·.1)=es.map (·.1):=by
    rw[List.map_set]
    refine List.ext_getElem? fun i=>?_
    rw[List.getElem?_set]
    by_cases hij:j=i
    ·subst hij;simp[hj,hj',hk,hjx]
    ·rw[if_neg hij]
   rw[this];exact h.2
 ·have hn:∀ x∈es,x.1≠k:=fun x hx e=>hany ⟨x,hx,e⟩
  rw[e1 hn]
  refine⟨fun y hy=>?_,?_⟩
  ·rcases List.mem_append.1 hy with hy | hy
   ·exact h.1 y hy
   ·simp at hy;subst hy;exact hf
  ·rw[List.map_append,List.nodup_append]
   refine⟨h.2,by simp,fun a ha b hb e=>?_⟩
   simp at hb
   obtain⟨x,hx,rfl⟩:=List.mem_map.1 ha
   exact hn x hx (e.trans hb)
theorem mset_perm{kp:KP}{a b:List (AV×AV)}(h:KeysOk kp a)(hp:a.Perm b)(k v:AV):(mset a k v).Perm (mset b k v):=by
 unfold mset
 have:a.any (fun x=>keyB x.1 k)=b.any (fun x=>keyB x.1 k):=by
  rw[Bool.eq_iff_iff,List.any_eq_true,List.any_eq_true]
  exact⟨fun ⟨x,hx,h⟩=>⟨x,hp.mem_iff.1 hx,h⟩,fun ⟨x,hx,h⟩=>⟨x,hp.mem_iff.2 hx,h⟩⟩
 rw[this]
 cases b.any (fun x=>keyB x.1 k) with
 | true=>exact hp.map _
 | false=>exact hp.append_right _
theorem heap_put{w:World}{r:Nat}{ents:Array MapEntry}{clk:Nat}(hb:w.heap[r]?=some (.map ents clk))(o:Obj):({ w with heap:=w.heap.setIfInBounds r o }:World).heap[r]?=some o∧(∀ b,b≠r→({ w with heap:=w.heap.setIfInBounds r o }:World).heap[b]?=w.heap[b]?)∧Kept (fun b=>b=r) w { w with heap:=w.heap.setIfInBounds r o }:=by
 have hlt:r<w.heap.size:=(Array.getElem?_eq_some_iff.1 hb).1
 refine⟨by simp[hlt],fun b hne=>by simp[Ne.symm hne],⟨rfl,rfl,rfl,by simp,fun k hk hx=>by simp[Ne.symm (show k≠r from hx)]⟩⟩
theorem MapIs.set{P:Program}{kp:KP}{fz:Fz}{w:World}{b:Nat}{es:List (AV×AV)}(h:MapIs kp fz w b es){mt t e:TypeId}(hm:P.underlying mt=some (.map t e))(hk:kpOk P t kp=true){k v:AV}(hf:kfit kp k=true){vk vv:Value}(hvk:vk=kv k)(hvk2:Rep fz vk k)(hvv:Rep fz vv v):
 ∃ w',(Instr.mapUpdate mt (.map (some b)) vk vv).run P w=.ok () w'∧MapIs kp fz w' b (mset es k v)∧(∀ j,j≠b→w'.heap[j]?=w.heap[j]?)∧Kept (fun j=>j=b) w w':=by
 obtain⟨ents,clk,es0,h1,⟨h2,h2'⟩,h3,h4,h5,h6,h7⟩:=h
 subst hvk
 obtain⟨s1,s2,s3⟩:=mset_fit h5 (v:=v) hf
 have hg:=MapKept.run_getObj_map (P:=P) h1
 have hc:=run_checkKey_kv (P:=P) w false hk hf
 rcases run_findKey_kv w hk hf ents.toList es0 (by simpa using h3) (fun j e x he hx=>(h6 j e x (by simpa using he) hx).kv (h5.1 x (List.mem_of_getElem? hx))) h5.1 with ⟨e1,e2⟩ | ⟨j,en,x,e1,e2,e3,e4⟩
 ·obtain⟨p1,p2,p3⟩:=heap_put h1 (.map (ents.push { key:=kv k,val:=vv,born:=clk }) (clk+1))
  have hs:=MapKept.run_setObj_map (P:=P) (.map (ents.push { key:=kv k,val:=vv,born:=clk }) (clk+1)) h1
  refine⟨_,?_,⟨_,_,es0++[(k,v)],p1,⟨fun e he=>?_,?_⟩,by simp[h3],?_,(s2 e2)▸s1,fun i e x he hx=>?_,fun i e x he hx=>?_⟩,p2,p3⟩
  ·simp[Instr.mapUpdate,run_underlying hm,hg,hc,e1,hs]
  ·simp only[Array.toList_push,List.mem_append,List.mem_singleton] at he
   rcases he with he | rfl
   ·have:=h2 e he;omega
   ·simp
  ·simp only[Array.toList_push,List.map_append,List.map_cons,List.map_nil,List.pairwise_append]
   refine⟨h2',by simp,fun a ha c hc=>?_⟩
   simp at hc;subst hc
   obtain⟨e,he,rfl⟩:=List.mem_map.1 ha
   exact h2 e he
  ·rw[← s2 e2];exact mset_perm h5 h4 k v
  ·rw[Array.getElem?_push] at he
   rw[List.getElem?_append] at hx
   rw[← h3] at hx
   split at he
   ·rename_i hi
    cases he
    rw[if_neg (by omega),hi,Nat.sub_self] at hx
    simp at hx;subst hx;exact hvk2
   ·rename_i hi
    have hlt:=(Array.getElem?_eq_some_iff.1 he).1
    rw[if_pos hlt] at hx
    exact h6 i e x he hx
  ·rw[Array.getElem?_push] at he
   rw[List.getElem?_append] at hx
   rw[← h3] at hx
   split at he
   ·rename_i hi
    cases he
    rw[if_neg (by omega),hi,Nat.sub_self] at hx
    simp at hx;subst hx;exact hvv
   ·rename_i hi
    have hlt:=(Array.getElem?_eq_some_iff.1 he).1
    rw[if_pos hlt] at hx
    exact h7 i e x he hx
 ·have hxk:en.key=kv k:=by rw[← e4];exact(h6 j en x (by simpa using e2) e3).kv (h5.1 x (List.mem_of_getElem? e3))
  have hstay:(Instr.keyThatStays (kv k) (kv k)).run P w=.ok (kv k) w:=by simp[Instr.keyThatStays,sameBits_kv hf]
  have hj:ents[j]?=some en:=by simpa using e2
  obtain⟨p1,p2,p3⟩:=heap_put h1 (.map (ents.modify j fun e=>{ e with key:=kv k,val:=vv }) clk)
  have hs:=MapKept.run_setObj_map (P:=P) (.map (ents.modify j fun e=>{ e with key:=kv k,val:=vv }) clk) h1
  have hget:∀ i,(ents.modify j fun e=>{ e with key:=kv k,val:=vv })[i]?=if j=i then some { en with key:=kv k,val:=vv } else ents[i]?:=fun i=>by
   rw[Array.getElem?_modify]
   by_cases hij:j=i
   ·subst hij;simp[hj]
   ·simp[hij]
  have hborn:(ents.modify j fun e=>{ e with key:=kv k,val:=vv }).toList.map (·.born)=ents.toList.map (·.born):=by
   refine List.ext_getElem? fun i=>?_
   rw[List.getElem?_map,List.getElem?_map,Array.getElem?_toList,Array.getElem?_toList,hget]
   by_cases hij:j=i
   ·subst hij;simp[hj]
   ·simp[hij]
  refine⟨_,?_,⟨_,_,es0.set j (k,v),p1,⟨fun e he=>?_,by rw[hborn];exact h2'⟩,by simp[h3],?_,(s3 j x e3 e4)▸s1,fun i e y he hy=>?_,fun i e y he hy=>?_⟩,p2,p3⟩
  ·simp[Instr.mapUpdate,run_underlying hm,hg,hc,e1,hj,hxk,hstay,hs]
  ·have hb:e.born∈ents.toList.map (·.born):=by rw[← hborn];exact List.mem_map.2 ⟨e,he,rfl⟩
   obtain⟨e',he',hee⟩:=List.mem_map.1 hb
   rw[← hee];exact h2 e' he'
  ·rw[← s3 j x e3 e4];exact mset_perm h5 h4 k v
  ·rw[hget] at he
   rw[List.getElem?_set] at hy
   by_cases hij:j=i
   ·subst hij
    rw[if_pos rfl] at he hy
    cases he
    rw[if_pos (List.getElem?_eq_some_iff.1 e3).1] at hy
    cases hy;exact hvk2
   ·rw[if_neg hij] at he hy;exact h6 i e y he hy
  ·rw[hget] at he
   rw[List.getElem?_set] at hy
   by_cases hij:j=i
   ·subst hij
    rw[if_pos rfl] at he hy
    cases he
    rw[if_pos (List.getElem?_eq_some_iff.1 e3).1] at hy
    cases hy;exact hvv
   ·rw[if_neg hij] at he hy;exact h7 i e y he hy
include hT in
theorem aMapSet_good{ty xt kt vt:Nat}{x k v:Operand}(ho:o.op=.mapUpdate ty x k v∨o.op=.insert ty x k v)(hh:aMapSet T ty (opv T env xt x) (opv T env kt k) (opv T env vt v) h K):Good P o env h K:=by
 obtain⟨ti,hti,hh⟩:=ogo_out hh
 obtain⟨hk7,hh⟩:=bgo_outT hh
 obtain⟨kx,hkx,hh⟩:=ogo_out hh
 obtain⟨vx,hvx,hh⟩:=ogo_out hh
 obtain⟨hfit,hh⟩:=bgo_outT hh
 obtain⟨m1,m2,m3,m4⟩:=tiOk_map (hT ty ti hti) (nbt hk7)
 have hops:o.op.operands.toList=[x,k,v]:=by rcases ho with ho | ho <;> simp[ho,Op.operands]
 split at hh
 ·rename_i j hx
  split at hh
  ·rename_i kp es hj
   obtain⟨hkp,h2⟩:=bgo_outT hh
   clear hh
   obtain rfl:=odt hkp
   refine fun _ _ _=>⟨_,_,[],[j],⟨fun i hi=>?_,fun Γ g a w env' H' ht hH hr hi hf next Q hn=>?_⟩,h2⟩
   ·have hjk:i≠j:=by simpa using hi
    rw[hp_cons,if_neg hjk]
   ·have hjj:H' j=.map ti.kp es:=(hH j (.inr (by simp))).trans hj
    have e1:=opv_rep (T:=T) hr ht (y:=x) (by rw[hops];simp) xt
    rw[hx] at e1
    have e2:=toP_rep hkx (opv_rep (T:=T) hr ht (y:=k) (by rw[hops];simp) kt)
    have e3:=toP_rep hvx (opv_rep (T:=T) hr ht (y:=v) (by rw[hops];simp) vt)
    have hob:=hi.obj j
    rw[hjj] at hob
    have hni:ti.kp≠.iter:=fun e=>by rw[e] at m3;simp[kpOk] at m3
    have hxv:a.eval x=.map (some (g.blk j)):=by
     generalize a.eval x=u at e1
     cases e1 with
     | mtok _ r hr'=>
      rcases hr' with h0 | ⟨rfl,_⟩
      ·rw[hjj] at h0;cases h0
      ·rfl
     | itok _ r hr'=>
      rcases hr' with h0 | ⟨rfl,_,h0⟩
      ·rw[hjj] at h0;cases h0
      ·rw[hjj] at h0;exact absurd (AObj.map.inj h0).1 hni
    obtain⟨w',hrun,hM,hoth,hkept⟩:=(hob.1.1 hni).set m1 m3 hfit (e2.kv hfit) e2 e3
    have hH2:ovr [j] (hp ((j,.map ti.kp (mset es kx vx))::h)) H'=upd H' j (.map ti.kp (mset es kx vx)):=by rw[ovr_one,hp_cons,if_pos rfl]
    rw[hH2] at hn
    obtain⟨hw,hle⟩:=hi.setMap hjj hni hoth hM
    have:=hn undef g w' hle hw (hf.setMap hjj hkept) (.tup [] [] rfl (by intro i v x h;simp at h))
    unfold Oper.wp
    have hexec:(execOp a.eval o).run P w=.ok .skip w':=by
     rcases ho with ho | ho <;> simp only[execOp,ho,Sem.run_bind] <;> rw[hxv,hrun] <;> rfl
    rw[hexec]
    exact this
  ·exact hh.elim
 ·exact hh.elim
omit hT in
theorem aMakeMap_good(hT:TabOk P T){ty:Nat}{r:Option Operand}(ho:o.op=.makeMap ty r)(hr0:r=none)(hh:aMakeMap T ty o.dst h K):Good P o env h K:=by
 subst hr0
 obtain⟨ti,hti,hh⟩:=ogo_out hh
 obtain⟨hk7,hh⟩:=bgo_outT hh
 obtain⟨d,hd,hh⟩:=ogo_out hh
 obtain⟨_,_,m3,_⟩:=tiOk_map (hT ty ti hti) (nbt hk7)
 have hni:ti.kp≠.iter:=fun e=>by rw[e] at m3;simp[kpOk] at m3
 split at hh
 ·rename_i hg
  refine fun _ _ _=>⟨_,_,[],[d],⟨fun j hj=>?_,fun Γ g a w env' H' ht hH hr hi hf next Q hn=>?_⟩,hh⟩
  ·have hjk:j≠d:=by simpa using hj
   rw[hp_cons,if_neg hjk]
  ·have hdd:H' d=.gone:=(hH d (.inr (by simp))).trans hg
   have hH2:ovr [d] (hp ((d,.map ti.kp [])::h)) H'=upd H' d (.map ti.kp []):=by rw[ovr_one,hp_cons,if_pos rfl]
   rw[hH2] at hn
   have hgrew:=Grew.alloc w (.map #[] 0)
   have hzero:FzLe g.fz (g.fix w.heap.size fun _=>none).fz:=(hi.le_fix fun _=>none).fz
   have hi1:WInv (g.fix w.heap.size fun _=>none) H' (w.alloc (.map #[] 0)):=by
    refine⟨fun b o v hz=>?_,fun k=>?_,fun k j b h1 h2=>hi.inj k j b ?_ ?_⟩
    ·by_cases hb:b=w.heap.size
     ·subst hb;rw[Gh.fix_eq] at hz;cases hz
     ·rw[Gh.fix_ne hb] at hz
      rw[pk_congr (heap_push hgrew.heap (hi.fz_lt hz))]
      exact hi.fz b o v hz
    ·exact(hi.obj k).mono (hi.le_fix _) rfl rfl rfl (fun b hb=>heap_push hgrew.heap (hi.blk_lt hb)) fun b hb x=>Gh.fix_ne (by have:=hi.blk_lt hb;omega) x
    ·cases hk:H' k <;> rw[hk] at h1 <;> exact h1
    ·cases hk:H' j <;> rw[hk] at h2 <;> exact h2
   have hle2:=GLe.name (g:=g.fix w.heap.size fun _=>none) hdd (.map ti.kp []) w.heap.size 0 0
   have hle:=(hi.le_fix fun _=>none).trans hle2
   have hi2:WInv ((g.fix w.heap.size fun _=>none).name d w.heap.size 0 0) (upd H' d (.map ti.kp [])) (w.alloc (.map #[] 0)):=by
    refine hi1.add hdd ⟨⟨fun _=>⟨#[],0,[],?_,⟨by simp,by simp⟩,rfl,List.Perm.refl _,⟨by simp,by simp⟩,by intro i e x he;simp at he,by intro i e x he;simp at he⟩,fun e=>absurd e hni,_,by rw[Gh.name_blk];exact heap_push_new hgrew.heap⟩,fun o=>?_⟩ fun b hb j hj=>?_
    ·rw[Gh.name_blk];exact heap_push_new hgrew.heap
    ·rw[Gh.name_blk,Gh.name_fz,Gh.fix_eq]
    ·have hb:b=w.heap.size:=by simpa[Bset,Gh.name] using hb
     have:b<w.heap.size:=hi.blk_lt (k:=j) (b:=b) (by cases hk:H' j <;> rw[hk] at hj <;> exact hj)
     omega
   have:=hn (.map (some w.heap.size)) _ _ hle hi2 (hf.newBox hi hdd hgrew (.map ti.kp []) (fun _=>none) 0 0) (.mtok d _ (.inr ⟨(Gh.name_blk ..).symm,ti.kp,[],hni,by simp⟩))
   unfold Oper.wp
   have hexec:(execOp a.eval o).run P w=.ok (.value (.map (some w.heap.size))) (w.alloc (.map #[] 0)):=by
    simp[execOp,ho,Instr.makeMap]
   rw[hexec]
   exact this
 ·exact hh.elim
include hT in
theorem aLenM_good{ty xt:Nat}{x:Operand}{rt:Array TypeId}(ho:o.op=.call { callee:=.builtin .len,args:=#[x],argTypes:=rt })(hrt:rt[0]?=some ty)(hh:aLenM T ty (opv T env xt x) h K):Good P o env h K:=by
 obtain⟨ti,hti,hh⟩:=ogo_out hh
 obtain⟨hk7,hh⟩:=bgo_outT hh
 obtain⟨m1,m2,m3,m4⟩:=tiOk_map (hT ty ti hti) (nbt hk7)
 have hxm:x∈o.op.operands.toList:=by simp[ho,Op.operands,Call.operands]
 have run:∀ (ρ:Operand→Value) (w:World) (n:Nat),(Builtin.len_ rt o.type #[ρ x]).run P w=.ok (goInt n) w→(execOp ρ o).run P w=.ok (.value (goInt n)) w:=fun ρ w n hl=>by
  simp[execOp,ho,resolve,invoke,Go.builtin,hl]
 have ofMap:∀ {fz:Fz} {w:World} {r:Nat} {kp:KP} {es:List (AV×AV)} {ρ:Operand→Value},MapIs kp fz w r es→ρ x=.map (some r)→(execOp ρ o).run P w=.ok (.value (goInt es.length)) w:=fun {fz w r kp es ρ} hM hx=>by
  obtain⟨ents,clk,es0,h1,h2,h3,h4,h5⟩:=hM
  refine run ρ w _ ?_
  have hg:=MapKept.run_getObj_map (P:=P) h1
  simp[Builtin.len_,hrt,hx,run_underlying m1,hg,h3,h4.length_eq]
 split at hh
 ·rename_i hx
  refine Good.look (T:=T) [] hh fun g H' ρ w hr _ _=>⟨_,run ρ w 0 ?_,.p _ _ (.imm _ rfl)⟩
  have e1:=hr x hxm xt
  rw[hx] at e1
  simp[Builtin.len_,hrt,e1.val,run_underlying m1]
 ·rename_i kp es hx
  refine Good.look (T:=T) [] hh fun g H' ρ w hr _ hi=>?_
  have e1:=hr x hxm xt
  rw[hx] at e1
  obtain⟨r,e2,hM⟩:=e1.p_inv.mapIs hi.fz
  exact⟨_,ofMap hM e2,.p _ _ (.imm _ rfl)⟩
 ·rename_i j hx
  split at hh
  ·rename_i kp es hj
   obtain⟨hkp,h2⟩:=bgo_outT hh
   clear hh
   obtain rfl:=odt hkp
   have hni:ti.kp≠.iter:=fun e=>by rw[e] at m3;simp[kpOk] at m3
   refine Good.look (T:=T) [j] h2 fun g H' ρ w hr hrd hi=>?_
   have e1:=hr x hxm xt
   rw[hx] at e1
   have hH:H' j=.map ti.kp es:=(hrd j (by simp)).trans hj
   have hob:=hi.obj j
   rw[hH] at hob
   have hxv:ρ x=.map (some (g.blk j)):=by
    generalize ρ x=u at e1
    cases e1 with
    | mtok _ r hr'=>
     rcases hr' with h0 | ⟨rfl,_⟩
     ·rw[hH] at h0;cases h0
     ·rfl
    | itok _ r hr'=>
     rcases hr' with h0 | ⟨rfl,_,h0⟩
     ·rw[hH] at h0;cases h0
     ·rw[hH] at h0;exact absurd (AObj.map.inj h0).1 hni
   exact⟨_,ofMap (hob.1.1 hni) hxv,.p _ _ (.imm _ rfl)⟩
  ·exact hh.elim
 ·exact hh.elim
include hT in
theorem aRange_good{ty xt:Nat}{x:Operand}(ho:o.op=.range ty x)(hh:aRange T ty (opv T env xt x) o.dst h K):Good P o env h K:=by
 obtain⟨ti,hti,hh⟩:=ogo_out hh
 obtain⟨hk7,hh⟩:=bgo_outT hh
 obtain⟨m1,_,_,_⟩:=tiOk_map (hT ty ti hti) (nbt hk7)
 have hxm:x∈o.op.operands.toList:=by simp[ho,Op.operands]
 split at hh
 ·rename_i kp es hx
  obtain⟨d,hd,hh⟩:=ogo_out hh
  split at hh
  ·rename_i hg
   refine fun _ _ _=>⟨_,_,[],[d],⟨fun j hj=>?_,fun Γ g a w env' H' ht hH hr hi hf next Q hn=>?_⟩,hh⟩
   ·have hjk:j≠d:=by simpa using hj
    rw[hp_cons,if_neg hjk]
   ·have hdd:H' d=.gone:=(hH d (.inr (by simp))).trans hg
    have hH2:ovr [d] (hp ((d,.map .iter [(.mp kp es,.imm (.bool true))])::h)) H'=upd H' d (.map .iter [(.mp kp es,.imm (.bool true))]):=by rw[ovr_one,hp_cons,if_pos rfl]
    rw[hH2] at hn
    have e1:=opv_rep (T:=T) hr ht hxm xt
    rw[hx] at e1
    have e2:=e1.p_inv
    generalize hve:a.eval x=v at e2
    cases e2 with
    | mp _ m ents clk es0 _ z1 hb hl hp hm z2 z3=>
     have hobj:=pk_map (hi.fz _ _ _ z1)
     have hgrew:=Grew.alloc w (.mapIter (some m) clk #[] clk)
     have hi1:WInv (g.fix w.heap.size fun _=>none) H' (w.alloc (.mapIter (some m) clk #[] clk)):=by
      refine⟨fun b o v hz=>?_,fun k=>?_,fun k j b h1 h2=>hi.inj k j b ?_ ?_⟩
      ·by_cases hb:b=w.heap.size
       ·subst hb;rw[Gh.fix_eq] at hz;cases hz
       ·rw[Gh.fix_ne hb] at hz
        rw[pk_congr (heap_push hgrew.heap (hi.fz_lt hz))]
        exact hi.fz b o v hz
      ·exact(hi.obj k).mono (hi.le_fix _) rfl rfl rfl (fun b hb=>heap_push hgrew.heap (hi.blk_lt hb)) fun b hb x=>Gh.fix_ne (by have:=hi.blk_lt hb;omega) x
      ·cases hk:H' k <;> rw[hk] at h1 <;> exact h1
      ·cases hk:H' j <;> rw[hk] at h2 <;> exact h2
     have hle2:=GLe.name (g:=g.fix w.heap.size fun _=>none) hdd (.map .iter [(.mp kp es,.imm (.bool true))]) w.heap.size 0 0
     have hle:=(hi.le_fix fun _=>none).trans hle2
     have hi2:WInv ((g.fix w.heap.size fun _=>none).name d w.heap.size 0 0) (upd H' d (.map .iter [(.mp kp es,.imm (.bool true))])) (w.alloc (.mapIter (some m) clk #[] clk)):=by
      refine hi1.add hdd ⟨⟨fun e=>absurd rfl e,fun _=>⟨kp,es,[],m,ents,clk,es0,#[],rfl,?_,?_,hb,hl,hp,hm,by simp,by simp,by simp,fun i e x a b=>(z2 i e x a b).mono hle.fz,fun i e x a b=>(z3 i e x a b).mono hle.fz⟩,_,by rw[Gh.name_blk];exact heap_push_new hgrew.heap⟩,fun o=>?_⟩ fun b hb j hj=>?_
      ·rw[Gh.name_blk];exact heap_push_new hgrew.heap
      ·exact hle.fz _ _ _ z1
      ·rw[Gh.name_blk,Gh.name_fz,Gh.fix_eq]
      ·have hb:b=w.heap.size:=by simpa[Bset,Gh.name] using hb
       have:b<w.heap.size:=hi.blk_lt (k:=j) (b:=b) (by cases hk:H' j <;> rw[hk] at hj <;> exact hj)
       omega
     have:=hn (.pointer (some ⟨w.heap.size,0,none⟩)) _ _ hle hi2 (hf.newBox hi hdd hgrew (.map .iter [(.mp kp es,.imm (.bool true))]) (fun _=>none) 0 0) (.itok d _ (.inr ⟨(Gh.name_blk ..).symm,_,by simp;rfl⟩))
     unfold Oper.wp
     have hg:=MapKept.run_getObj_map (P:=P) hobj
     have hexec:(execOp a.eval o).run P w=.ok (.value (.pointer (some ⟨w.heap.size,0,none⟩))) (w.alloc (.mapIter (some m) clk #[] clk)):=by
      simp[execOp,ho,Instr.range,run_underlying m1,hve,hg]
     rw[hexec]
     exact this
  ·exact hh.elim
 ·exact hh.elim
omit hT in
theorem aEntry_good{x:Operand}(ho:o.op=.entry x)(hh:aEntry (opv T env 0 x) h K):Good P o env h K:=by
 have hxm:x∈o.op.operands.toList:=by simp[ho,Op.operands]
 unfold aEntry at hh
 split at hh
 ·rename_i j hx
  split at hh
  ·rename_i x0 y r hj
   refine Good.look (T:=T) [j] hh fun g H' ρ w hr hrd hi=>?_
   have e1:=hr x hxm 0
   rw[hx] at e1
   have hH:H' j=.map .iter (x0::y::r):=(hrd j (by simp)).trans hj
   have hob:=hi.obj j
   rw[hH] at hob
   obtain⟨kp,tot,idxs,m,ents,clk,es0,seen,a1,a2,a3,⟨b1,b2⟩,a5,a6,a7,a8,a9,c1,c2,c3⟩:=hob.1.2.1 rfl
   have hxv:ρ x=.pointer (some ⟨g.blk j,0,none⟩):=by
    generalize ρ x=u at e1
    cases e1 with
    | mtok _ r' hr'=>
     rcases hr' with h0 | ⟨rfl,kp',_,hn,h0⟩
     ·rw[hH] at h0;cases h0
     ·rw[hH] at h0;exact absurd (AObj.map.inj h0).1.symm hn
    | itok _ r' hr'=>
     rcases hr' with h0 | ⟨rfl,_,_⟩
     ·rw[hH] at h0;cases h0
     ·rfl
   have hobj:=pk_map (hi.fz _ _ _ a3)
   cases idxs with
   | nil=>simp at a1
   | cons i is=>
    simp only[List.map_cons,List.cons.injEq] at a1 c1
    obtain⟨_,rfl,rfl⟩:=a1
    have hlt:i<es0.length:=a9 i (by simp)
    have hlt2:i<ents.size:=by omega
    have hsn:seen=(is.map (fun i=>(ents.toList.map (·.born)).getD i 0)).reverse.toArray.push ents[i].born:=by
     apply Array.ext'
     have:=congrArg List.reverse c1
     rw[List.reverse_reverse,List.reverse_cons] at this
     rw[this]
     simp[hlt2]
    rw[hsn] at a2
    have hnd:(ents.toList.map (·.born)).Nodup:=b2.imp fun h=>Nat.ne_of_lt h
    have hrun:=run_entry_at (P:=P) w (g.blk j) m clk _ ents clk ents[i] a2 hobj (by simp) hnd
    have hg0:es0.getD i (.imm (.bool true),.imm (.bool true))=es0[i]:=by simp[hlt]
    refine⟨.tuple #[ents[i].key,ents[i].val],?_,?_⟩
    ·simp only[execOp,ho,Sem.run_bind,hxv,hrun];rfl
    ·rw[hg0]
     refine .tup [ents[i].key,ents[i].val] _ rfl fun q u z hu hz=>?_
     cases q with
     | zero=>simp at hu hz;subst hu;subst hz;exact .p _ _ (c2 i _ _ (by simp[hlt2]) (by simp[hlt]))
     | succ q=>cases q with
      | zero=>simp at hu hz;subst hu;subst hz;exact .p _ _ (c3 i _ _ (by simp[hlt2]) (by simp[hlt]))
      | succ q=>simp at hu
  ·exact hh.elim
 ·exact hh.elim
end
def isImm(e:EV)(A B:Prop):Prop:=match e with | .p (.imm _)=>A | _=>B
def u8s:List AV→Option (List Int)
 | []=>some []
 | .imm (.int .u8 n)::r=>match u8s r with | some l=>some (n::l) | none=>none
 | _=>none
theorem u8s_at:∀ {es:List AV} {xs:List Int},u8s es=some xs→es=xs.map fun n=>.imm (.int .u8 n)
 | [],xs,h=>by cases h;rfl
 | e::r,xs,h=>by
  unfold u8s at h
  split at h
  ·rename_i heq;cases heq
  ·rename_i n r' heq
   cases heq
   split at h
   ·rename_i l hl
    cases h
    rw[u8s_at hl];rfl
   ·cases h
  ·cases h
section
variable {P:Program} {T:Tab} (hT:TabOk P T) {o:Oper} {env:Env} {h:AHp} {K:Kt}
def aConvB(T:Tab)(src dst:Nat)(x:EV)(h:AHp)(K:Kt):Prop:=
 ogo (T.get src) fun ts=>ogo (T.get dst) fun td=>ogo (T.get ts.elem) fun te=>ogo2 (slOf x) fun sz es=>
  bgo (Nat.beq ts.kind 3&&(Nat.beq td.kind 4&&(Nat.beq te.kind 6&&(decide (te.ik=.u8)&&Nat.beq sz 1)))) (ogo (u8s es) fun xs=>K (estr (strOfNums xs)) h nofp) False
include hT in
theorem aConvB_good{src dst:Nat}{x:Operand}(ho:o.op=.convert src dst x)(hh:aConvB T src dst (opv T env src x) h K):Good P o env h K:=by
 replace hh:=ogo_out hh
 obtain⟨ts,hts,hh⟩:=hh
 replace hh:=ogo_out hh
 obtain⟨td,htd,hh⟩:=hh
 replace hh:=ogo_out hh
 obtain⟨te,hte,hh⟩:=hh
 replace hh:=ogo2_out hh
 obtain⟨⟨sz,es⟩,hsl,hh⟩:=hh
 obtain⟨hk,hh1⟩:=bgo_outT hh
 obtain⟨xs,hxs,hK⟩:=ogo_out hh1
 dsimp only at hk hxs hsl
 simp only[Bool.and_eq_true,decide_eq_true_eq] at hk
 obtain⟨k1,k2,k3,k4,k5⟩:=hk
 obtain rfl:=nbt k5
 obtain⟨_,d1,_,s2,_,_,_,_,_,_,s3,_⟩:=tiOk_info (hT src ts hts)
 obtain⟨_,d2,_,t2,_,_,_,_,_,_,_,t4,_⟩:=tiOk_info (hT dst td htd)
 obtain⟨_,d3,_,e2,_,_,_,_,_,_,_,_,_,e4,_⟩:=tiOk_info (hT ts.elem te hte)
 obtain⟨rfl,_,_⟩:=s3 (nbt k1)
 have t4:=t4 (nbt k2)
 have e4:=e4 (nbt k3)
 subst t4;subst e4
 rw[k4] at e2
 have hes:=u8s_at hxs
 refine Good.look (T:=T) [] hK fun g H' ρ w hr _ hi=>⟨.string (strOfNums xs),?_,.p _ _ (.imm _ rfl)⟩
 have hv:=hr x (by simp[ho,Op.operands]) src
 obtain⟨p,n,cap,e1,hn,hrep⟩:=hv.slOf hsl
 have hlen:xs.length=n:=by rw[hn,hes];simp
 simp only[execOp,ho,e1,Sem.run_bind]
 cases hrep with
 | slice _ _ _ _ _ vs hn0 hc hm hs h1 hr0 hl h=>
  have hfl:flat es=es:=by
   rw[hes]
   have:∀ l:List Int,flat (l.map fun n=>AV.imm (.int .u8 n))=l.map fun n=>AV.imm (.int .u8 n):=by
    intro l
    induction l with
    | nil=>rfl
    | cons a r ih=>simp only[List.map_cons,flat,AV.cells,ih,List.singleton_append]
   exact this xs
  have hvl:vs.length=n:=by rw[hl,hfl,hn]
  have hvat:∀ i (hi':i<vs.length),vs[i]=.int .u8 (xs.getD i 0):=fun i hi'=>by
   have hx:(flat es)[i]?=some (.imm (.int .u8 (xs.getD i 0))):=by
    rw[hfl,hes,List.getElem?_map,List.getElem?_eq_getElem (by omega)]
    simp[List.getD,List.getElem?_eq_getElem (show i<xs.length by omega)]
   exact(h i _ _ (List.getElem?_eq_getElem hi') hx).val
  cases n with
  | zero=>
   have hx0:xs=[]:=List.eq_nil_of_length_eq_zero hlen
   subst hx0
   cases p with
   | none=>rw[run_convert_bytes_nil w src _ s2 e2 0 cap dst t2];rfl
   | some a=>
    rw[run_convert_bytes_string w src dst _ _ 0 cap s2 e2 t2,run_bytesToString w a 0 cap [] (by
     have:=run_loadCells_list (P:=P) w a [] (fun j v hj=>by simp at hj)
     simpa using this)]
    rfl
  | succ n=>
   obtain⟨b,off,rfl,_⟩:=hr0 0 _ (List.getElem?_eq_getElem (by omega))
   rw[run_convert_bytes_arg w src _ s2 e2 b off (n+1) cap xs hlen (fun i hi'=>?_) dst t2]
   ·rfl
   ·have hi2:i<vs.length:=by omega
    obtain⟨b',o',e',hz⟩:=hr0 i _ (List.getElem?_eq_getElem hi2)
    cases e'
    have hz:=pk_cell (hi.fz _ _ _ hz) (h1 _ (List.getElem_mem hi2))
    rw[hvat i hi2] at hz
    exact hz
end
def kindsOf:List AV→Option (List IntKind)
 | []=>some []
 | .imm (.int k _)::r=>match kindsOf r with | some l=>some (k::l) | none=>none
 | _=>none
theorem kindsOf_fit:∀ {xs:List AV} {ks:List IntKind},kindsOf xs=some ks→kfitL ks xs=true
 | [],ks,h=>by cases h;rfl
 | e::r,ks,h=>by
  unfold kindsOf at h
  split at h
  ·rename_i heq;cases heq
  ·rename_i k n r' heq
   cases heq
   split at h
   ·rename_i l hl
    cases h
    simp[kfitL,kindsOf_fit hl]
   ·cases h
  ·cases h
def isAgg2(x y:EV)(A B:Prop):Prop:=match x,y with | .agg _,_=>A | _,.agg _=>A | .p (.agg _),_=>A | _,_=>B
section
variable {P:Program} {T:Tab} {o:Oper} {env:Env} {h:AHp} {K:Kt}
def aEqS(P:Program)(op:BinOp)(t:Nat)(x y:EV)(h:AHp)(K:Kt):Prop:=
 ogo (toP x) fun a=>ogo (toP y) fun b=>match a,b with
  | .agg xs,.agg ys=>ogo (kindsOf xs) fun ks=>bgo (kfitL ks ys) ((kpOk P t (.ints ks)=true∧P.eqGuardType P.depth t=false)∧(match op with
   | .eql=>K (ebool (keyB.keyL xs ys)) h nofp
   | .neq=>K (ebool !(keyB.keyL xs ys)) h nofp
   | _=>False)) False
  | _,_=>False
theorem aEqS_good{op:BinOp}{xt yt:Nat}{x y:Operand}(ho:o.op=.binOp op xt x y yt)(hh:aEqS P op xt (opv T env xt x) (opv T env yt y) h K):Good P o env h K:=by
 replace hh:=ogo_out hh
 obtain⟨a,ha,hh⟩:=hh
 replace hh:=ogo_out hh
 obtain⟨b,hb,hh⟩:=hh
 split at hh
 ·rename_i xs ys
  obtain⟨ks,hks,hh1⟩:=ogo_out hh
  obtain⟨hfit,hh2⟩:=bgo_outT hh1
  obtain⟨⟨h1,h2⟩,hK⟩:=hh2
  have hf1:kfit (.ints ks) (.agg xs)=true:=kindsOf_fit hks
  have hf2:kfit (.ints ks) (.agg ys)=true:=hfit
  have vals:∀ (g:Gh) (H':Hp) (ρ:Operand→Value) (w:World),(∀ y∈o.op.operands.toList,∀ ty,ERep g H' (ρ y) (opv T env ty y))→ρ x=kv (.agg xs)∧ρ y=kv (.agg ys):=fun g H' ρ w hr=>
   ⟨(toP_rep ha (hr x (by simp[ho,Op.operands]) xt)).kv hf1,(toP_rep hb (hr y (by simp[ho,Op.operands]) yt)).kv hf2⟩
  have hv:∀ zs,kv (.agg zs)=.agg (zs.map kv1).toArray:=fun zs=>rfl
  cases op
  case eql=>
   refine Good.look (T:=T) [] hK fun g H' ρ w hr _ _=>⟨.bool (keyB.keyL xs ys),?_,.p _ _ (.imm _ rfl)⟩
   obtain⟨e1,e2⟩:=vals g H' ρ w hr
   have hq:=run_equal_key (P:=P) w h1 hf1 hf2
   simp only[execOp,ho,e1,e2,Sem.run_bind]
   rw[hv,hv] at hq ⊢
   rw[run_eqGuard_agg w .eql xt x y _ _ h2,Result.andThen_ok,run_eql_struct]
   have:(Op.equalIn 10000 xt (.agg (xs.map kv1).toArray) (.agg (ys.map kv1).toArray)).run P w=.ok (keyB (.agg xs) (.agg ys)) w:=hq
   rw[this];rfl
  case neq=>
   refine Good.look (T:=T) [] hK fun g H' ρ w hr _ _=>⟨.bool !(keyB.keyL xs ys),?_,.p _ _ (.imm _ rfl)⟩
   obtain⟨e1,e2⟩:=vals g H' ρ w hr
   have hq:=run_equal_key (P:=P) w h1 hf1 hf2
   simp only[execOp,ho,e1,e2,Sem.run_bind]
   rw[hv,hv] at hq ⊢
   rw[run_eqGuard_agg w .neq xt x y _ _ h2,Result.andThen_ok,run_neq_struct]
   have:(Op.equalIn 10000 xt (.agg (xs.map kv1).toArray) (.agg (ys.map kv1).toArray)).run P w=.ok (keyB (.agg xs) (.agg ys)) w:=hq
   rw[this];rfl
  all_goals exact hK.elim
 ·exact hh.elim
end
def isPtr(e:EV)(A B:Prop):Prop:=match e with | .loc _ _=>A | .p (.ref _)=>A | _=>B
def oneA:AV→Bool
 | .agg _=>false
 | _=>true
theorem oneA_cells{x:AV}(h:oneA x=true):x.cells=[x]:=by
 cases x <;> first | rfl | (simp[oneA] at h)
theorem flat_ones{l:List AV}(h:l.all oneA=true):flat l=l:=by
 induction l with
 | nil=>rfl
 | cons x r ih=>
  rw[List.all_cons,Bool.and_eq_true] at h
  simp only[flat,oneA_cells h.1,ih h.2,List.singleton_append]
def aSliceA(T:Tab)(ty:Nat)(e:EV)(lo hi mx:Option EV)(h:AHp)(K:Kt):Prop:=
 ogo (T.get ty) fun ti=>bgo (Nat.beq ti.kind 2&&Nat.blt 0 ti.esz) (mx=none∧∃ l u:Nat,natOf lo 0 l∧natOf hi ti.len u∧l≤u∧u≤ti.len∧l<ti.len ∧
  match e with
  | .loc k off=>(match hp h k with | .box t cs=>ti.len≤9223372036854775807∧off+ti.len*ti.esz≤cs.length∧K (.arr ti.esz k (off+l*ti.esz) (u - l)) h ([k],[]) | _=>False)
  | .p (.ref cs)=>bgo (Nat.beq ti.esz 1&&cs.all oneA) (ti.len≤cs.length∧ti.len≤9223372036854775807∧K (.p (.slice 1 ((cs.drop l).take (u - l)))) h nofp) False
  | _=>False) False
section
variable {P:Program} {T:Tab} (hT:TabOk P T) {o:Oper} {env:Env} {h:AHp} {K:Kt}
include hT in
theorem aSliceA_good{ty it:Nat}{x:Operand}{lo hi mx:Option Operand}(ho:o.op=.slice ty x lo hi mx)(hh:aSliceA T ty (opv T env ty x) (lo.map (opv T env it)) (hi.map (opv T env it)) (mx.map (opv T env it)) h K):Good P o env h K:=by
 replace hh:=ogo_out hh
 obtain⟨ti,hti,hh⟩:=hh
 obtain⟨inf,d,t1,t2,_,_,_,_,_,ta,_⟩:=tiOk_info (hT ty ti hti)
 replace hh:=bgo_outT hh
 obtain⟨hk,hm,l,u,hl,hu,hlu,hun,hln,hh⟩:=hh
 rw[Bool.and_eq_true] at hk
 obtain⟨rfl,he⟩:=ta (nbt hk.1)
 have hpos:0<ti.esz:=by have:=hk.2;simp[Nat.blt] at this;omega
 obtain⟨ie,u1,u2,_⟩:=elemOk_info he
 have hmx:mx=none:=by cases mx with | none=>rfl | some q=>simp at hm
 subst hmx
 have hops:∀ {g:Gh} {H':Hp} {ρ:Operand→Value},(∀ y∈o.op.operands.toList,∀ ty,ERep g H' (ρ y) (opv T env ty y))→ERep g H' (ρ x) (opv T env ty x)∧(∀ q∈lo,ERep g H' (ρ q) (opv T env it q))∧(∀ q∈hi,ERep g H' (ρ q) (opv T env it q)):=fun hr=>by
  refine⟨hr x (by simp[ho,Op.operands]) ty,fun q hq=>hr q ?_ it,fun q hq=>hr q ?_ it⟩ <;> (simp[ho,Op.operands];simp at hq;subst hq;simp)
 have hopt:∀ {g:Gh} {H':Hp} {ρ:Operand→Value} (a:Option Operand),(∀ q∈a,ERep g H' (ρ q) (opv T env it q))→∀ x y,a.map ρ=some x→a.map (opv T env it)=some y→ERep g H' x y:=fun a ha x y hx hy=>by
  cases a with
  | none=>cases hx
  | some q=>cases hx;cases hy;exact ha q rfl
 have bound:∀ (w:World) (k:IntKind) (y:Nat) (v:Nat) (c:BoundsCode),v≤y→(Instr.sliceBound (.int k (v:Int)) y c).run P w=.ok v w:=fun w k y v c hvy=>by
  have:(0:Int)≤v∧(v:Int)≤y:=by omega
  simp[Instr.sliceBound,asIntOf,this]
 have hrun:∀ (g:Gh) (H':Hp) (ρ:Operand→Value) (w:World) (b q:Nat),(∀ y∈o.op.operands.toList,∀ ty,ERep g H' (ρ y) (opv T env ty y))→ρ x=.pointer (some ⟨b,q,none⟩) →
  (execOp ρ o).run P w=.ok (.value (.slice (some ⟨b,q+l*ti.esz,none⟩) (u - l) (ti.len - l))) w:=fun g H' ρ w b q hr e=>by
  obtain⟨_,r2,r3⟩:=hops hr
  have hb:(Instr.sliceBounds false ti.len ti.len (lo.map ρ) (hi.map ρ) none).run P w=.ok (l,u,ti.len) w:=by
   rcases natOf_val hl (hopt lo r2) (by simp) with ⟨_,e1,rfl⟩ | ⟨k1,e1⟩ <;> rcases natOf_val hu (hopt hi r3) (by simp) with ⟨_,e2,rfl⟩ | ⟨k2,e2⟩
   ·simp[Instr.sliceBounds,e1,e2]
   ·simp[Instr.sliceBounds,e1,e2,bound w k2 ti.len u _ (by omega)]
   ·simp[Instr.sliceBounds,e1,e2,bound w k1 ti.len l _ hlu]
   ·simp[Instr.sliceBounds,e1,e2,bound w k2 ti.len u _ (by omega),bound w k1 u l _ hlu]
  have hne:ti.len≠l:=by omega
  simp[execOp,ho,Instr.sliceAt,e,run_underlying t2,Instr.sureAddr,hb,sizeOf,typeInfo,u1,u2,hne,Addr.add_mid]
 split at hh
 ·rename_i k off hx
  split at hh
  ·rename_i t cs hk'
   obtain⟨hn63,hfit,hK⟩:=hh
   refine Good.look (T:=T) [k] hK fun g H' ρ w hr hrd hi'=>?_
   have hkk:H' k=.box t cs:=(hrd k (by simp)).trans hk'
   have e1:=(hops hr).1
   rw[hx] at e1
   have e:=e1.loc_at hkk
   have hob:=hi'.obj k
   rw[hkk] at hob
   have hlen:ti.len≤ti.len*ti.esz:=Nat.le_mul_of_pos_right _ hpos
   have hlt:0<g.hi k:=by
    rcases Nat.eq_zero_or_pos (g.hi k) with h0 | h0
    ·have:=hob.1 h0
     subst this
     simp at hfit
     omega
    ·exact h0
   obtain⟨vs,q1,⟨q2,q2'⟩,q3,q4,q5⟩:=hob.2 hlt
   have m1:l*ti.esz+(u - l)*ti.esz≤ti.len*ti.esz:=by rw[← Nat.add_mul];exact Nat.mul_le_mul_right _ (by omega)
   have m2:l*ti.esz+(ti.len - l)*ti.esz≤ti.len*ti.esz:=by rw[← Nat.add_mul];exact Nat.mul_le_mul_right _ (by omega)
   refine⟨_,hrun g H' ρ w _ _ hr e,.arr _ _ _ _ _ _ (by omega) (by omega) (fun _=>⟨_,rfl⟩) (.inr ⟨t,cs,hkk,by omega,.inl ⟨hlt,rfl,by omega⟩⟩)⟩
  ·exact hh.elim
 ·rename_i cs hx
  replace hh:=bgo_outT hh
  obtain⟨hb,hn1,hn2,hK⟩:=hh
  rw[Bool.and_eq_true] at hb
  have hsz:ti.esz=1:=nbt hb.1
  refine Good.look (T:=T) [] hK fun g H' ρ w hr _ _=>?_
  have e1:=(hops hr).1
  rw[hx] at e1
  generalize hv:ρ x=v at e1
  have h1:=e1.p_inv
  cases h1 with
  | ref b q _ vs h1 hr' hl' h'=>
   refine⟨_,hrun g H' ρ w _ _ hr hv,.p _ _ ?_⟩
   have hall:((cs.drop l).take (u - l)).all oneA=true:=by
    rw[List.all_eq_true] at hb ⊢
    exact fun y hy=>hb.2 y (List.mem_of_mem_drop (List.mem_of_mem_take hy))
   have hflat:=flat_ones hall
   have hlen:((cs.drop l).take (u - l)).length=u - l:=by rw[List.length_take,List.length_drop];omega
   refine .slice _ _ _ 1 _ ((vs.drop l).take (u - l)) hlen.symm (by omega) (by omega) (fun y hy=>?_) (fun v hv=>h1 v (List.mem_of_mem_drop (List.mem_of_mem_take hv))) (fun i v hv=>?_) ?_ (fun i v y hv hy=>?_)
   ·rw[oneA_cells (List.all_eq_true.1 hall y hy)];rfl
   ·rw[List.getElem?_take] at hv
    split at hv
    ·rw[List.getElem?_drop] at hv
     obtain⟨b',o',e,hz⟩:=hr' _ _ hv
     cases e
     exact⟨b,q+l*ti.esz,rfl,by rw[hsz,Nat.mul_one,Nat.add_assoc];exact hz⟩
    ·cases hv
   ·rw[hflat,hlen,List.length_take,List.length_drop];omega
   ·rw[hflat,List.getElem?_take] at hy
    rw[List.getElem?_take] at hv
    split at hv
    ·rename_i hi1
     rw[if_pos hi1,List.getElem?_drop] at hy
     rw[List.getElem?_drop] at hv
     exact h' _ _ _ hv hy
    ·cases hv
 ·exact hh.elim
def aCopy(T:Tab)(t0 t1:Nat)(s x:EV)(h:AHp)(K:Kt):Prop:=
 ogo (T.get t0) fun ti=>bgo (Nat.beq ti.kind 3&&Nat.beq ti.esz 1) (ogo2 (slOf x) fun xz xl=>bgo (Nat.beq xz 1)
  (match s with
   | .arr sz k off n=>(match hp h k with
    | .box t cs=>bgo (Nat.beq sz 1) (0<n∧off+n≤cs.length∧K (eint .i64 (Nat.min xl.length n:Nat)) ((k,.box t (setSeg cs off (((flat xl).take n).map .p)))::h) ([],[k])) False
    | _=>False)
   | _=>False) False) False
include hT in
theorem aCopy_good{t0 t1:Nat}{s x:Operand}(ho:o.op=.call { callee:=.builtin .copy,args:=#[s,x],argTypes:=#[t0,t1] })
 (hh:aCopy T t0 t1 (opv T env t0 s) (opv T env t1 x) h K):Good P o env h K:=by
 replace hh:=ogo_out hh
 obtain⟨ti,hti,hh⟩:=hh
 obtain⟨inf,d,t1',t2,_,_,_,_,_,_,ts,_⟩:=tiOk_info (hT t0 ti hti)
 replace hh:=bgo_outT hh
 obtain⟨hk0,hh⟩:=hh
 rw[Bool.and_eq_true] at hk0
 obtain⟨rfl,he,_⟩:=ts (nbt hk0.1)
 have hesz:ti.esz=1:=nbt hk0.2
 obtain⟨ie,u1,u2,_⟩:=elemOk_info he
 replace hh:=ogo2_out hh
 obtain⟨⟨xz,xl⟩,hsl,hh⟩:=hh
 replace hh:=bgo_outT hh
 obtain⟨hxz,hh⟩:=hh
 obtain rfl:xz=1:=nbt hxz
 dsimp only at hh
 split at hh
 ·rename_i sz k off n hs
  split at hh
  ·rename_i t cs hk
   replace hh:=bgo_outT hh
   obtain⟨hsz,hn0,hfit,hK⟩:=hh
   obtain rfl:sz=1:=nbt hsz
   refine fun _ _ _=>⟨_,_,[],[k],⟨fun j hj=>?_,fun Γ g a w env' H' ht hH hr hi hf next Q hn=>?_⟩,hK⟩
   ·have hjk:j≠k:=by simpa using hj
    rw[hp_cons,if_neg hjk]
   ·have hkk:H' k=.box t cs:=(hH k (.inr (by simp))).trans hk
    have hv:=opv_rep (T:=T) hr ht (y:=s) (by simp[ho,Op.operands,Call.operands]) t0
    rw[hs] at hv
    obtain⟨p,cap,e,hcap,hm63,_,hc⟩:=hv.arr_inv
    have hy:=opv_rep (T:=T) hr ht (y:=x) (by simp[ho,Op.operands,Call.operands]) t1
    obtain⟨px,nx,cx,ex,hnx,rx⟩:=hy.slOf hsl
    obtain⟨hlt,rfl⟩:0<g.hi k∧p=some ⟨g.blk k,off,none⟩:=by
     rcases hc with hc | ⟨t',cs',hc,_,⟨h0,hb,_⟩ | ⟨_,h0⟩⟩
     ·rw[hkk] at hc;cases hc
     ·exact⟨h0,hb⟩
     ·omega
    have hob:=hi.obj k
    rw[hkk] at hob
    obtain⟨old,q1,⟨q2,q2'⟩,q3,q4,q5⟩:=hob.2 hlt
    cases rx with
    | slice _ _ _ _ _ vs hn' hc' hm' hs' h1' hr' hl' h'=>
     have hfl:(flat xl).length=nx:=by rw[flat_length hs',hnx,Nat.mul_one]
     have hcl:(vs.take n).length=Nat.min nx n:=by rw[List.length_take,hl',hfl];exact Nat.min_comm _ _
     have hle:Nat.min nx n≤n:=Nat.min_le_right _ _
     have hrun:(Builtin.copy_ #[t0,t1] o.type #[.slice (some ⟨g.blk k,off,none⟩) n cap,.slice px nx cx]).run P w=.ok (goInt (vs.take n).length) (w.setRow (g.blk k) (old.take off++vs.take n++old.drop (off+(vs.take n).length)).toArray):=by
      cases px with
      | some ad=>
       exact run_copy_row (P:=P) w t0 t1 o.type ti.elem (g.blk k) off n cap ad nx cx old.toArray t (vs.take n) t2 (by rw[u1];simp only[Option.map_some,u2,hesz]) q1 hcl
        (fun j v hj=>by
         rw[List.getElem?_take] at hj
         split at hj
         ·obtain⟨b,q,e,hz⟩:=hr' j v hj
          cases e
          have:=hi.fz _ _ _ hz
          rw[Addr.add_lit]
          exact pk_cell this (h1' v (List.mem_of_getElem? hj))
         ·cases hj) (by simp only[List.size_toArray];omega) (fun v hv=>h1' v (List.mem_of_mem_take hv))
      | none=>
       have h0:vs=[]:=by
        cases vs with
        | nil=>rfl
        | cons a r=>obtain⟨b,q,e,_⟩:=hr' 0 a rfl;cases e
       subst h0
       have hnx0:nx=0:=by rw[← hfl,← hl'];rfl
       subst hnx0
       have hsame:w.setRow (g.blk k) (old.take off++List.take n []++old.drop (off+(List.take n ([]:List Value)).length)).toArray=w:=by
        simp only[List.take_nil,List.append_nil,List.length_nil,Nat.add_zero,List.take_append_drop]
        exact setRow_self _ _ _ _ _ q1
       rw[hsame]
       simp[Builtin.copy_,run_underlying t2,Builtin.lenOf,Builtin.firstCells,sizeOf,typeInfo,u1,storeCells]
     have hH2:ovr [k] (hp ((k,.box t (setSeg cs off (((flat xl).take n).map .p)))::h)) H'=upd H' k (.box t (setSeg cs off (((flat xl).take n).map .p))):=by rw[ovr_one,hp_cons,if_pos rfl]
     rw[hH2] at hn
     have hnl:(((flat xl).take n).map EV.p).length=(vs.take n).length:=by rw[List.length_map,List.length_take,List.length_take,hl']
     have hseg:=setSeg_eq (((flat xl).take n).map EV.p) cs off (by omega)
     have hnew:∀ (i:Nat) v z,(old.take off++vs.take n++old.drop (off+(vs.take n).length))[i]?=some v→(setSeg cs off (((flat xl).take n).map .p))[i]?=some z→ERep g H' v z:=fun i v z hv hz=>by
      rw[hseg,seg_get (by omega)] at hz
      rw[seg_get (by omega)] at hv
      split at hz
      ·rename_i h1
       rw[if_pos (by omega)] at hv
       rw[List.getElem?_map,List.getElem?_take] at hz
       rw[List.getElem?_take] at hv
       split at hv
       ·rename_i h2
        rw[if_pos h2] at hz
        cases hq:(flat xl)[i - off]? with
        | none=>rw[hq] at hz;cases hz
        | some y=>rw[hq] at hz;cases hz;exact .p _ _ (h' _ _ _ hv hq)
       ·cases hv
      ·rename_i h1
       rw[if_neg (by omega)] at hv
       exact q4 _ _ _ hv hz
     have hw:=hi.setBox (cs':=setSeg cs off (((flat xl).take n).map .p)) hkk hlt (setSeg_length _ _ _) (vs:=old.take off++vs.take n++old.drop (off+(vs.take n).length)) (by simp only[List.length_append,List.length_take,List.length_drop] at *;omega)
      (fun v hv=>by
       rcases List.mem_append.1 hv with hv | hv
       ·rcases List.mem_append.1 hv with hv | hv
        ·exact q3 v (List.mem_of_mem_take hv)
        ·exact h1' v (List.mem_of_mem_take hv)
       ·exact q3 v (List.mem_of_mem_drop hv)) hnew
     have hres:ERep g (upd H' k (.box t (setSeg cs off (((flat xl).take n).map .p)))) (goInt (vs.take n).length) (eint .i64 (Nat.min xl.length n:Nat)):=by
      rw[hcl,hnx];exact .p _ _ (.imm _ rfl)
     have:=hn (goInt (vs.take n).length) g _ (GLe.of_box hkk (setSeg_length _ _ _)) hw (hf.setBox hkk hlt (setSeg_length _ _ _) _) hres
     unfold Oper.wp
     have e1:(execOp a.eval o).run P w=.ok (.value (goInt (vs.take n).length)) (w.setRow (g.blk k) (old.take off++vs.take n++old.drop (off+(vs.take n).length)).toArray):=by
      unfold execOp
      simp only[ho,resolve,invoke,builtin,Sem.run_bind,Sem.run_pure,Result.andThen_ok,List.map_toArray,List.map_cons,List.map_nil,e,ex,hrun]
     rw[e1]
     exact this
  ·exact hh.elim
 ·exact hh.elim
def aSliceR(T:Tab)(ty:Nat)(e:EV)(lo hi mx:Option EV)(h:AHp)(K:Kt):Prop:=
 match e with
 | .arr sz k off n=>ogo (T.get ty) fun ti=>bgo (Nat.beq ti.kind 3&&Nat.beq sz ti.esz) (mx=none∧∃ l u:Nat,natOf lo 0 l∧natOf hi n u∧l≤u∧u≤n∧l<n∧K (.arr sz k (off+l*sz) (u - l)) h nofp) False
 | _=>False
include hT in
theorem aSliceR_good{ty it:Nat}{x:Operand}{lo hi mx:Option Operand}(ho:o.op=.slice ty x lo hi mx)(hh:aSliceR T ty (opv T env ty x) (lo.map (opv T env it)) (hi.map (opv T env it)) (mx.map (opv T env it)) h K):Good P o env h K:=by
 unfold aSliceR at hh
 split at hh
 ·rename_i sz k off n hx
  replace hh:=ogo_out hh
  obtain⟨ti,hti,hh⟩:=hh
  obtain⟨inf,d,t1,t2,_,_,_,_,_,_,ts,_⟩:=tiOk_info (hT ty ti hti)
  replace hh:=bgo_outT hh
  obtain⟨hk,hm,l,u,hl,hu,hlu,hun,hln,hh⟩:=hh
  rw[Bool.and_eq_true] at hk
  obtain⟨rfl,he,_⟩:=ts (nbt hk.1)
  have hsz:sz=ti.esz:=nbt hk.2
  obtain⟨ie,u1,u2,_⟩:=elemOk_info he
  have hmx:mx=none:=by cases mx with | none=>rfl | some q=>simp at hm
  subst hmx
  have hops:∀ {g:Gh} {H':Hp} {ρ:Operand→Value},(∀ y∈o.op.operands.toList,∀ ty,ERep g H' (ρ y) (opv T env ty y))→ERep g H' (ρ x) (opv T env ty x)∧(∀ q∈lo,ERep g H' (ρ q) (opv T env it q))∧(∀ q∈hi,ERep g H' (ρ q) (opv T env it q)):=fun hr=>by
   refine⟨hr x (by simp[ho,Op.operands]) ty,fun q hq=>hr q ?_ it,fun q hq=>hr q ?_ it⟩ <;> (simp[ho,Op.operands];simp at hq;subst hq;simp)
  have hopt:∀ {g:Gh} {H':Hp} {ρ:Operand→Value} (a:Option Operand),(∀ q∈a,ERep g H' (ρ q) (opv T env it q))→∀ x y,a.map ρ=some x→a.map (opv T env it)=some y→ERep g H' x y:=fun a ha x y hx hy=>by
   cases a with
   | none=>cases hx
   | some q=>cases hx;cases hy;exact ha q rfl
  have bound:∀ (w:World) (k:IntKind) (y:Nat) (v:Nat) (c:BoundsCode),v≤y→(Instr.sliceBound (.int k (v:Int)) y c).run P w=.ok v w:=fun w k y v c hvy=>by
   have:(0:Int)≤v∧(v:Int)≤y:=by omega
   simp[Instr.sliceBound,asIntOf,this]
  refine Good.look (T:=T) [] hh fun g H' ρ w hr _ _=>?_
  obtain⟨r1,r2,r3⟩:=hops hr
  rw[hx] at r1
  obtain⟨p,cap,e,hcap,hm63,hp,hc⟩:=r1.arr_inv
  obtain⟨b,rfl⟩:=hp (by omega)
  have hb:(Instr.sliceBounds true n cap (lo.map ρ) (hi.map ρ) none).run P w=.ok (l,u,cap) w:=by
   rcases natOf_val hl (hopt lo r2) (by simp) with ⟨_,e1,rfl⟩ | ⟨k1,e1⟩ <;> rcases natOf_val hu (hopt hi r3) (by simp) with ⟨_,e2,rfl⟩ | ⟨k2,e2⟩
   ·simp[Instr.sliceBounds,e1,e2]
   ·simp[Instr.sliceBounds,e1,e2,bound w k2 cap u _ (by omega)]
   ·simp[Instr.sliceBounds,e1,e2,bound w k1 u l _ hlu]
   ·simp[Instr.sliceBounds,e1,e2,bound w k2 cap u _ (by omega),bound w k1 u l _ hlu]
  have hne:cap≠l:=by omega
  have m1:l*sz+(u - l)*sz≤n*sz:=by rw[← Nat.add_mul];exact Nat.mul_le_mul_right _ (by omega)
  have m2:l*sz+(cap - l)*sz=cap*sz:=by rw[← Nat.add_mul];congr 1;omega
  refine⟨.slice (some ⟨b,off+l*sz,none⟩) (u - l) (cap - l),?_,.arr _ _ _ _ _ _ (by omega) (by omega) (fun _=>⟨_,rfl⟩) ?_⟩
  ·simp[execOp,ho,Instr.sliceAt,Instr.slice,e,run_underlying t2,hb,sizeOf,typeInfo,u1,u2,hsz,hne,Addr.add_mid]
  ·rcases hc with hc | ⟨t,cs,hc,hle,⟨h0,hb2,hfit⟩ | ⟨h0,hc0⟩⟩
   ·exact .inl hc
   ·cases hb2
    exact .inr ⟨t,cs,hc,by omega,.inl ⟨h0,rfl,by omega⟩⟩
   ·omega
 ·exact hh.elim
def aCopyR(T:Tab)(t0 t1:Nat)(s x:EV)(h:AHp)(K:Kt):Prop:=
 match s,x with
 | .arr sz k off n,.arr xz k2 off2 n2=>ogo (T.get t0) fun ti=>bgo (Nat.beq ti.kind 3&&Nat.beq ti.esz 1&&(Nat.beq sz 1&&Nat.beq xz 1)) (match hp h k,hp h k2 with
  | .box t cs,.box _ cs2=>0<n∧0<n2∧off+n≤cs.length∧off2+n2≤cs2.length∧K (eint .i64 (Nat.min n2 n:Nat)) ((k,.box t (setSeg cs off ((cs2.drop off2).take (Nat.min n2 n))))::h) ([k2],[k])
  | _,_=>False) False
 | _,_=>False
include hT in
theorem aCopyR_good{t0 t1:Nat}{s x:Operand}(ho:o.op=.call { callee:=.builtin .copy,args:=#[s,x],argTypes:=#[t0,t1] })
 (hh:aCopyR T t0 t1 (opv T env t0 s) (opv T env t1 x) h K):Good P o env h K:=by
 unfold aCopyR at hh
 split at hh
 ·rename_i sz k off n xz k2 off2 n2 hs hx
  replace hh:=ogo_out hh
  obtain⟨ti,hti,hh⟩:=hh
  obtain⟨inf,d,t1',t2,_,_,_,_,_,_,ts,_⟩:=tiOk_info (hT t0 ti hti)
  replace hh:=bgo_outT hh
  obtain⟨hk0,hh⟩:=hh
  simp only[Bool.and_eq_true] at hk0
  obtain⟨⟨hk0,hk1⟩,hk2,hk3⟩:=hk0
  obtain⟨rfl,he,_⟩:=ts (nbt hk0)
  have hesz:ti.esz=1:=nbt hk1
  obtain rfl:sz=1:=nbt hk2
  obtain rfl:xz=1:=nbt hk3
  obtain⟨ie,u1,u2,_⟩:=elemOk_info he
  split at hh
  ·rename_i t cs t' cs2 hkA hkB
   obtain⟨hn0,hn20,hfit,hfit2,hK⟩:=hh
   refine fun _ _ _=>⟨_,_,[k2],[k],⟨fun j hj=>?_,fun Γ g a w env' H' ht hH hr hi hf next Q hn=>?_⟩,hK⟩
   ·have hjk:j≠k:=by simpa using hj
    rw[hp_cons,if_neg hjk]
   ·have hkk:H' k=.box t cs:=(hH k (.inr (by simp))).trans hkA
    have hkk2:H' k2=.box t' cs2:=(hH k2 (.inl (by simp))).trans hkB
    have hv:=opv_rep (T:=T) hr ht (y:=s) (by simp[ho,Op.operands,Call.operands]) t0
    rw[hs] at hv
    obtain⟨p,cap,e,hcap,hm63,_,hc⟩:=hv.arr_inv
    have hy:=opv_rep (T:=T) hr ht (y:=x) (by simp[ho,Op.operands,Call.operands]) t1
    rw[hx] at hy
    obtain⟨px,cx,ex,hcapx,hm63x,_,hcx⟩:=hy.arr_inv
    obtain⟨hlt,rfl⟩:0<g.hi k∧p=some ⟨g.blk k,off,none⟩:=by
     rcases hc with hc | ⟨t',cs',hc,_,⟨h0,hb,_⟩ | ⟨_,h0⟩⟩
     ·rw[hkk] at hc;cases hc
     ·exact⟨h0,hb⟩
     ·omega
    obtain⟨hlt2,rfl⟩:0<g.hi k2∧px=some ⟨g.blk k2,off2,none⟩:=by
     rcases hcx with hc | ⟨t',cs',hc,_,⟨h0,hb,_⟩ | ⟨_,h0⟩⟩
     ·rw[hkk2] at hc;cases hc
     ·exact⟨h0,hb⟩
     ·omega
    have hob:=hi.obj k
    rw[hkk] at hob
    obtain⟨old,q1,⟨q2,q2'⟩,q3,q4,q5⟩:=hob.2 hlt
    have hob2:=hi.obj k2
    rw[hkk2] at hob2
    obtain⟨src,s1,⟨s2,s2'⟩,s3,s4,s5⟩:=hob2.2 hlt2
    obtain⟨j,hj⟩:∃ j,Nat.min n2 n=j:=⟨_,rfl⟩
    have hj1:j≤n:=hj▸Nat.min_le_right _ _
    have hj2:j≤n2:=hj▸Nat.min_le_left _ _
    rw[hj] at hn
    obtain⟨vs,hvs⟩:∃ vs,(src.drop off2).take j=vs:=⟨_,rfl⟩
    have hvl:vs.length=j:=by rw[← hvs,List.length_take,List.length_drop];omega
    have hv1:∀ v∈vs,v.oneCell'=true:=fun v hv=>by
     rw[← hvs] at hv
     exact s3 v (List.mem_of_mem_drop (List.mem_of_mem_take hv))
    have hrun:(Builtin.copy_ #[t0,t1] o.type #[.slice (some ⟨g.blk k,off,none⟩) n cap,.slice (some ⟨g.blk k2,off2,none⟩) n2 cx]).run P w=.ok (goInt vs.length) (w.setRow (g.blk k) (old.take off++vs++old.drop (off+vs.length)).toArray):=by
     refine run_copy_row (P:=P) w t0 t1 o.type ti.elem (g.blk k) off n cap ⟨g.blk k2,off2,none⟩ n2 cx old.toArray t vs t2 (by rw[u1];simp only[Option.map_some,u2,hesz]) q1 (by rw[hvl,hj])
      (fun i v hv=>?_) (by simp only[List.size_toArray];omega) hv1
     rw[← hvs,List.getElem?_take] at hv
     split at hv
     ·rw[List.getElem?_drop] at hv
      rw[Addr.add_lit]
      simp only[World.cell?,s1]
      simp only[Option.isSome_none,Bool.false_eq_true,if_false]
      simpa using hv
     ·cases hv
    obtain⟨seg,hseg0⟩:∃ seg,(cs2.drop off2).take j=seg:=⟨_,rfl⟩
    rw[hseg0] at hn
    have hsl:seg.length=vs.length:=by rw[hvl,← hseg0,List.length_take,List.length_drop];omega
    have hH2:ovr [k] (hp ((k,.box t (setSeg cs off seg))::h)) H'=upd H' k (.box t (setSeg cs off seg)):=by rw[ovr_one,hp_cons,if_pos rfl]
    rw[hH2] at hn
    have hseg:=setSeg_eq seg cs off (by omega)
    have hnew:∀ (i:Nat) v z,(old.take off++vs++old.drop (off+vs.length))[i]?=some v→(setSeg cs off seg)[i]?=some z→ERep g H' v z:=fun i v z hv hz=>by
     rw[hseg,seg_get (by omega)] at hz
     rw[seg_get (by omega)] at hv
     split at hz
     ·rename_i h1
      rw[if_pos (by omega)] at hv
      rw[← hseg0,List.getElem?_take] at hz
      rw[← hvs,List.getElem?_take] at hv
      split at hv
      ·rename_i h2
       rw[if_pos h2,List.getElem?_drop] at hz
       rw[List.getElem?_drop] at hv
       exact s4 _ _ _ hv hz
      ·cases hv
     ·rename_i h1
      rw[if_neg (by omega)] at hv
      exact q4 _ _ _ hv hz
    have hw:=hi.setBox (cs':=setSeg cs off seg) hkk hlt (setSeg_length _ _ _) (vs:=old.take off++vs++old.drop (off+vs.length)) (by simp only[List.length_append,List.length_take,List.length_drop] at *;omega)
     (fun v hv=>by
      rcases List.mem_append.1 hv with hv | hv
      ·rcases List.mem_append.1 hv with hv | hv
       ·exact q3 v (List.mem_of_mem_take hv)
       ·exact hv1 v hv
      ·exact q3 v (List.mem_of_mem_drop hv)) hnew
    have hres:ERep g (upd H' k (.box t (setSeg cs off seg))) (goInt vs.length) (eint .i64 (j:Nat)):=by
     rw[hvl];exact .p _ _ (.imm _ rfl)
    have:=hn (goInt vs.length) g _ (GLe.of_box hkk (setSeg_length _ _ _)) hw (hf.setBox hkk hlt (setSeg_length _ _ _) _) hres
    unfold Oper.wp
    have e1:(execOp a.eval o).run P w=.ok (.value (goInt vs.length)) (w.setRow (g.blk k) (old.take off++vs++old.drop (off+vs.length)).toArray):=by
     unfold execOp
     simp only[ho,resolve,invoke,builtin,Sem.run_bind,Sem.run_pure,Result.andThen_ok,List.map_toArray,List.map_cons,List.map_nil,e,ex,hrun]
    rw[e1]
    exact this
  ·exact hh.elim
 ·exact hh.elim
def nilEq(x:EV)(y:Operand):Option Bool:=
 match y with
 | .const (.slice none 0 0)=>(match x with
  | .p (.imm (.slice p _ _))=>some p.isNone
  | x=>(match slOf x with | some (_+1,_::_)=>some false | _=>none))
 | .const (.pointer none)=>(match x with
  | .p (.imm (.pointer none))=>some true
  | .p (.ref _)=>some false
  | .loc _ _=>some false
  | .eptr _ _=>some false
  | _=>none)
 | _=>none
def nilT(P:Program)(t:Nat)(y:Operand):Bool:=match P.underlying t,y with | some (.pointer _),.const (.pointer _)=>true | some (.slice _),.const (.slice _ _ _)=>true | _,_=>false
def aNilEq(P:Program)(op:BinOp)(xt:Nat)(x:EV)(y:Operand)(h:AHp)(K:Kt)(A:Prop):Prop:=
 match nilEq x y with
 | some b=>bgo (nilT P xt y) (match op with | .eql=>K (ebool b) h nofp | .neq=>K (ebool !b) h nofp | _=>False) False
 | none=>A
def isNilP:Value→Bool
 | .pointer none=>true
 | .slice none _ _=>true
 | _=>false
theorem run_eq_nil{t:TypeId}{w:World}{v u:Value}(hc:(∃ a n c e,v=.slice a n c∧u=.slice none 0 0∧P.underlying t=some (.slice e))∨(∃ p e,v=.pointer p∧u=.pointer none∧P.underlying t=some (.pointer e))){b:Bool}
 (hb:b=isNilP v)(x y:Operand):(do eqGuard .eql t x y v u;Go.binOp .eql t v u:Sem Value).run P w=.ok (.bool b) w∧(do eqGuard .neq t x y v u;Go.binOp .neq t v u:Sem Value).run P w=.ok (.bool !b) w:=by
 rcases hc with ⟨a,n,c,e,rfl,rfl,he⟩ | ⟨p,e,rfl,rfl,he⟩
 ·have h0:∀ d,(Op.equalIn (d+1) t (.slice a n c) (.slice none 0 0)).run P w=.ok a.isNone w:=fun d=>by cases a <;> simp[Op.equalIn,run_underlying he]
  have h1:(Op.equal t (.slice a n c) (.slice none 0 0)).run P w=.ok a.isNone w:=h0 9999
  have hb':b=a.isNone:=by rw[hb];cases a <;> rfl
  subst hb'
  refine⟨?_,?_⟩ <;> simp[eqGuard,Go.binOp,h1]
 ·cases p with
  | none=>
   subst hb
   have h0:∀ d,(Op.equalIn (d+1) t (.pointer none) (.pointer none)).run P w=.ok true w:=fun d=>by simp[Op.equalIn,run_underlying he]
   have h1:(Op.equal t (.pointer none) (.pointer none)).run P w=.ok true w:=h0 9999
   refine⟨?_,?_⟩ <;> simp[eqGuard,Go.binOp,h1,isNilP]
  | some a=>
   subst hb
   have h0:∀ d,(Op.equalIn (d+1) t (.pointer (some a)) (.pointer none)).run P w=.ok false w:=fun d=>by simp[Op.equalIn,run_underlying he]
   have h1:(Op.equal t (.pointer (some a)) (.pointer none)).run P w=.ok false w:=h0 9999
   refine⟨?_,?_⟩ <;> simp[eqGuard,Go.binOp,h1,isNilP]
theorem nilEq_val{g H v}{x:EV}{y:Operand}{b:Bool}(hx:ERep g H v x)(hn:nilEq x y=some b){t:Nat}(ht:nilT P t y=true):∃ u,y=.const u∧((∃ a n c e,v=.slice a n c∧u=.slice none 0 0∧P.underlying t=some (.slice e))∨(∃ p e,v=.pointer p∧u=.pointer none∧P.underlying t=some (.pointer e))) ∧
 b=isNilP v:=by
 unfold nilEq at hn
 unfold nilT at ht
 split at hn
 ·have ht':∃ e,P.underlying t=some (.slice e):=by
   split at ht
   ·rename_i heq;cases heq
   ·rename_i heq _;exact⟨_,heq⟩
   ·cases ht
  obtain⟨e',he⟩:=ht'
  split at hn
  ·cases hn
   have hv:=hx.val
   refine⟨_,rfl,.inl ⟨_,_,_,e',hv,rfl,he⟩,?_⟩
   rw[hv]
   rename_i p _ _
   cases p <;> rfl
  ·split at hn
   ·rename_i sz e es hs
    cases hn
    obtain⟨p,n,c,rfl,hn,hrep⟩:=hx.slOf hs
    cases p with
    | none=>
     cases hrep with
     | slice _ _ _ _ _ vs hn' hc hm hs' h1 hr hl h=>
      have h0:=hs' e (by simp)
      have hlen:vs.length≠0:=by rw[hl,flat_length hs'];simp
      cases vs with
      | nil=>exact absurd rfl hlen
      | cons a r=>obtain⟨b,q,e,_⟩:=hr 0 a rfl;cases e
    | some a=>exact⟨_,rfl,.inl ⟨some a,n,c,e',rfl,rfl,he⟩,rfl⟩
   ·cases hn
 ·have ht':∃ e,P.underlying t=some (.pointer e):=by
   split at ht
   ·rename_i heq _;exact⟨_,heq⟩
   ·rename_i heq;cases heq
   ·cases ht
  obtain⟨e',he⟩:=ht'
  have fin:∀ p,v=.pointer p→(b=isNilP v)→∃ u,Operand.const (.pointer none)=.const u∧((∃ a n c e,v=.slice a n c∧u=.slice none 0 0∧P.underlying t=some (.slice e))∨(∃ p e,v=.pointer p∧u=.pointer none∧P.underlying t=some (.pointer e))) ∧
   b=isNilP v:=fun p hp hb=>⟨_,rfl,.inr ⟨p,e',hp,rfl,he⟩,hb⟩
  split at hn
  ·cases hn
   have hv:=hx.val
   exact fin none hv (by rw[hv];rfl)
  ·cases hn
   obtain⟨b,q,hv⟩:=hx.p_inv.ref_inv
   exact fin _ hv (by rw[hv];rfl)
  ·cases hn
   obtain⟨b,hv,_⟩:=hx.loc_inv
   exact fin _ hv (by rw[hv];rfl)
  ·cases hn
   cases hx with
   | eptr b q _ _ hs h=>exact fin _ rfl rfl
  ·cases hn
 ·cases hn
theorem aNilEq_good{op:BinOp}{xt yt:Nat}{x y:Operand}(ho:o.op=.binOp op xt x y yt){A:Prop}(hh:aNilEq P op xt (opv T env xt x) y h K A):Good P o env h K∨A:=by
 have hx':∀ {g:Gh} {H':Hp} {ρ:Operand→Value},(∀ y∈o.op.operands.toList,∀ ty,ERep g H' (ρ y) (opv T env ty y))→ERep g H' (ρ x) (opv T env xt x):=fun hr=>hr x (by simp[ho,Op.operands]) xt
 unfold aNilEq at hh
 split at hh
 ·left
  rename_i b hn
  replace hh:=bgo_outT hh
  obtain⟨ht,hh⟩:=hh
  obtain⟨u,rfl⟩:∃ u,y=.const u:=by
   unfold nilEq at hn
   split at hn
   ·exact⟨_,rfl⟩
   ·exact⟨_,rfl⟩
   ·cases hn
  have fin:∀ (r:Bool),K (ebool r) h nofp→(∀ (g:Gh) (H':Hp) (v:Value) (w:World),ERep g H' v (opv T env xt x)→(do eqGuard op xt x (.const u) v u;Go.binOp op xt v u:Sem Value).run P w=.ok (.bool r) w)→Good P o env h K:=fun r hk hrun _ _ _=>by
   refine⟨ebool r,h,[],[],⟨fun _ _=>rfl,fun Γ g a w env' H' ht' hk' hr hi hf next Q hn'=>?_⟩,hk⟩
   have hv:=opv_rep (T:=T) hr ht' (y:=x) (by simp[ho,Op.operands]) xt
   have hw:=hrun g H' _ w hv
   rw[ovr_nil] at hn'
   unfold Oper.wp
   have e1:(execOp a.eval o).run P w=.ok (.value (.bool r)) w:=by
    have e0:a.eval (.const u)=u:=rfl
    simp only[execOp,ho,e0,Sem.run_bind] at hw ⊢
    rw[hw];rfl
   rw[e1]
   exact hn' _ g w (GLe.refl _ _) hi hf (.p _ _ (.imm _ rfl))
  split at hh
  ·refine fin b hh fun g H' v w hv=>?_
   obtain⟨u',e,hc,hb⟩:=nilEq_val hv hn ht
   cases e
   exact(run_eq_nil hc hb _ _).1
  ·refine fin (!b) hh fun g H' v w hv=>?_
   obtain⟨u',e,hc,hb⟩:=nilEq_val hv hn ht
   cases e
   exact(run_eq_nil hc hb _ _).2
  ·exact hh.elim
 ·exact .inr hh
end
def fenceOf(rd:Option Nat):Fence:={ Fence.wide with round:=rd }
def Ctx.F(Γ:Ctx):Fence:=fenceOf Γ.rd
theorem toIn{P:Program}{rd:Option Nat}{n:Nat}{o:Oper}{a:Act}{w:World}{next:Act→World→Prop}{Q:Exit→Act→World→Prop}(hnd:∀ c,o.op≠.defer c)(h:o.wp P a w next Q):o.wpIn (fenceOf rd) n P a w next Q:=by
 refine⟨fun _ _=>trivial,?_⟩
 rw[Oper.semAt_eq _ _ _ hnd]
 unfold Oper.wp at h
 generalize (execOp a.eval o).run P w=r at h ⊢
 cases r with
 | ok x w'=>
  cases x <;> simp only[Oper.upon,Oper.uponIn] at h ⊢ <;> first | exact h | skip
  case enter f args=>exact⟨fun e=>by simp[fenceOf,Fence.wide] at e,(callsIn_wide (n:=n - 1)).2 h⟩
  case row row args=>
   refine⟨fun e=>by simp[fenceOf,Fence.wide] at e,fun c cs _=>?_⟩
   obtain⟨v,w'',h1,h2⟩:=h c cs
   exact⟨v,w'',h1,stepsIn_wide.2 h2⟩
 | halt x w'=>cases x <;> simp only[Oper.upon,Oper.uponIn] at h ⊢ <;> exact h
theorem Fr.start(g:Gh)(H:Hp)(w:World)(n:Nat)(ds:List Deferred)(ro:Option Nat):Fr ⟨w,g,H,n,ds,ro⟩ g H w:=
 ⟨Kept.refl _ _,FzLe.refl _,fun _ _ _=>rfl,fun k b hb=>.inl ⟨k,hb⟩,fun k t cs hk=>.inr ⟨cs,hk,rfl,rfl,rfl⟩,fun k kp es hk=>.inr ⟨es,hk,rfl⟩,fun k m hk=>⟨m,hk,Nat.le_refl _,fun _=>⟨rfl,rfl,rfl⟩⟩⟩
theorem Fr.trans{Γ:Ctx}{g H w g' H' w'}{n ds ro}(hf:Fr Γ g H w)(hr:Fr ⟨w,g,H,n,ds,ro⟩ g' H' w')(hl:∀ k,H k=.lost→H' k=.lost):Fr Γ g' H' w':=by
 have hX:∀ b,b<Γ.w0.heap.size→¬ Γ.X b→¬ Ctx.X ⟨w,g,H,n,ds,ro⟩ b:=fun b hb hx h0=>by
  obtain⟨k,hk⟩:=h0
  rcases hf.own k b hk with h | h
  ·exact hx h
  ·omega
 refine⟨?_,hf.fz.trans hr.fz,fun b hb hx=>?_,fun k b hb=>?_,fun k t cs hk=>?_,fun k kp es hk=>?_,fun k m hk=>?_⟩
 ·refine⟨hr.kept.os.trans hf.kept.os,hr.kept.tape.trans hf.kept.tape,hr.kept.output.trans hf.kept.output,Nat.le_trans hf.kept.size hr.kept.size,fun k hk hx=>?_⟩
  exact(hr.kept.block k (Nat.lt_of_lt_of_le hk hf.kept.size) (hX k hk hx)).trans (hf.kept.block k hk hx)
 ·rw[hr.low b (Nat.lt_of_lt_of_le hb hf.kept.size) (hX b hb hx)]
  exact hf.low b hb hx
 ·rcases hr.own k b hb with ⟨j,hj⟩ | h
  ·exact hf.own j b hj
  ·exact .inr (Nat.le_trans hf.kept.size h)
 ·rcases hf.box k t cs hk with h | ⟨cs',h2,h3,h4,h5⟩
  ·exact .inl (hl k h)
  ·rcases hr.box k t cs' h2 with h | ⟨cs'',k2,k3,k4,k5⟩
   ·exact .inl h
   ·exact .inr ⟨cs'',k2,k3.trans h3,k4.trans h4,k5.trans h5⟩
 ·rcases hf.map k kp es hk with h | ⟨es',h2,h3⟩
  ·exact .inl (hl k h)
  ·rcases hr.map k kp es' h2 with h | ⟨es'',k2,k3⟩
   ·exact .inl h
   ·exact .inr ⟨es'',k2,k3.trans h3⟩
 ·obtain⟨m1,h1,h2,h3⟩:=hf.tail k m hk
  obtain⟨m2,k1,k2,k3⟩:=hr.tail k m1 h1
  refine⟨m2,k1,Nat.le_trans h2 k2,fun e=>?_⟩
  obtain⟨a1,a2,a3⟩:=h3 (by omega)
  obtain⟨b1,b2,b3⟩:=k3 (by omega)
  exact⟨b1.trans a1,b2.trans a2,b3.trans a3⟩
def OpOkI(P:Program)(o:Oper)(env:Nat→EV)(H:Hp)(x:EV)(H1:Hp)(rd wr:List Nat):Prop:=
 (∀ k,k∉wr→H1 k=H k)∧(∀ c,o.op≠.defer c) ∧
 ∀ (ro:Option Nat) (g:Gh) (a:Act) (w:World) (env':Nat→EV) (H':Hp),
  (∀ t∈opTmps o.op,env' t=env t)→(∀ k,k∈rd∨k∈wr→H' k=H k)→(∀ t,ERep g H' (a.tmps.getD t undef) (env' t))→WInv g H' w →
  ∀ (n:Nat) (next:Act→World→Prop) (Q:Exit→Act→World→Prop),
   (∀ v g' w',GLe g H' g' (ovr wr H1 H')→WInv g' (ovr wr H1 H') w'→Fr ⟨w,g,H',0,[],ro⟩ g' (ovr wr H1 H') w'→ERep g' (ovr wr H1 H') v x→next (a.put o.dst v) w')→o.wpIn (fenceOf ro) n P a w next Q
theorem OpOk.toI{P o env H x H1 rd wr}(h:OpOk P o env H x H1 rd wr)(hd:∀ c,o.op≠.defer c):OpOkI P o env H x H1 rd wr:=
 ⟨h.1,hd,fun ro g a w env' H' h1 h2 h3 h4 n next Q hn=>toIn hd (h.2 ⟨w,g,H',0,[],ro⟩ g a w env' H' h1 h2 h3 h4 (Fr.start g H' w 0 [] ro) next Q hn)⟩
def GoodI(P:Program)(o:Oper)(env:Env)(h:AHp)(K:Kt):Prop:=
 ∀ (g:Gh) (a:Act),(∀ t,ERep g (hp h) (a.tmps.getD t undef) (lk env t))→∃ x h' rd wr,OpOkI P o (lk env) (hp h) x (hp h') rd wr∧K x h' (rd,wr)
theorem Good.toI{P o env h K}(hh:Good P o env h K)(hd:∀ c,o.op≠.defer c):GoodI P o env h K:=fun g a hr=>let ⟨x,h',rd,wr,h1,h2⟩:=hh g a hr;⟨x,h',rd,wr,h1.toI hd,h2⟩
def callable(P : Program)(f : FuncId): Prop := ∃ fn, P.funcs[f]? = some fn ∧ (fn.name == "runtime.NumGoroutine") = false ∧ fn.body.isNone = false
theorem run_callFunc{P:Program}{f:FuncId}(h:callable P f)(args:Array Value)(w:World):(callFunc f args).run P w=.ok (.enter f args) w:=by
 obtain⟨fn,h1,h2,h3⟩:=h
 unfold callFunc
 simp only[Sem.run_bind,run_program,Result.andThen_ok,h1,h2,h3,Bool.false_eq_true,if_false]
 rfl
def FzOk(fz:Fz)(w:World):Prop:=∀ b o v,fz b o=some v→w.pk b o=some v
structure FzStep(N:Nat)(fz fz':Fz):Prop where
 le:FzLe fz fz'
 low:∀ b,b<N→fz' b=fz b
theorem FzStep.refl(N:Nat)(fz:Fz):FzStep N fz fz:=⟨FzLe.refl _,fun _ _=>rfl⟩
def RepsL(fz:Fz)(vs:List Value)(ys:List AV):Prop:=vs.length=ys.length∧∀ (i:Nat) v x,vs[i]?=some v→ys[i]?=some x→Rep fz v x
def noH:Hp:=fun _=>.gone
def AFun(P:Program)(f:FuncId)(ys:List AV)(y:EV):Prop:=
 callable P f∧∀ (fz:Fz) (w:World) (vs:List Value),FzOk fz w→RepsL fz vs ys →
  Calls P f vs.toArray w fun e w'=>∃ v fz',e=.returned v∧Kept (fun _=>False) w w'∧FzStep w.heap.size fz fz'∧FzOk fz' w'∧∀ g:Gh,g.fz=fz'→ERep g noH v y
def OwnRes(fz':Fz)(N:Nat)(w':World)(v:Value)(sz:Nat)(es:List AV):Prop:=
 ∃ p cap,v=.slice p es.length cap∧Rep fz' (.slice p es.length cap) (.slice sz es)∧(cap=es.length∨∃ b o,p=some ⟨b,o,none⟩∧N≤b ∧
  (∃ (vs:Array Value) (t:TypeId),w'.heap[b]?=some (.cells vs t (0,0))∧o+cap*sz≤vs.size)∧∀ q,o+es.length*sz≤q→q<o+cap*sz→fz' b q=none)
def AFunO(P:Program)(f:FuncId)(ys:List AV)(sz:Nat)(es:List AV):Prop:=
 callable P f∧∀ (fz:Fz) (w:World) (vs:List Value),FzOk fz w→RepsL fz vs ys →
  Calls P f vs.toArray w fun e w'=>∃ v fz',e=.returned v∧Kept (fun _=>False) w w'∧FzStep w.heap.size fz fz'∧FzOk fz' w'∧OwnRes fz' w.heap.size w' v sz es
def VecRes(fz':Fz)(N:Nat)(w':World)(v:Value)(sz:Nat)(t:TypeId)(n:Nat)(cs:List AV):Prop:=
 ∃ p cap,v=.slice p n cap∧n≤cap∧n≤9223372036854775807∧n*sz=cs.length∧((cap=0∧cs=[])∨∃ (b:Nat) (vs:List Value),p=some ⟨b,0,none⟩∧N≤b∧w'.heap[b]?=some (.cells vs.toArray t (0,0))∧0<vs.length∧cap*sz≤vs.length ∧
  cs.length≤vs.length∧Ones vs∧(∀ (i:Nat) v x,vs[i]?=some v→cs[i]?=some x→Rep fz' v x)∧∀ o,fz' b o=none)
def AFunV(P:Program)(f:FuncId)(ys:List AV)(sz:Nat)(t:TypeId)(n:Nat)(cs:List AV):Prop:=
 callable P f∧∀ (fz:Fz) (w:World) (vs:List Value),FzOk fz w→RepsL fz vs ys →
  Calls P f vs.toArray w fun e w'=>∃ v fz',e=.returned v∧Kept (fun _=>False) w w'∧FzStep w.heap.size fz fz'∧FzOk fz' w'∧VecRes fz' w.heap.size w' v sz t n cs
def keys(h:AHp):List Nat:=h.map (·.1)
theorem keys_of{h:AHp}{k:Nat}(hk:hp h k≠.gone):k∈keys h:=by
 induction h with
 | nil=>exact absurd rfl hk
 | cons x r ih=>
  obtain⟨j,o⟩:=x
  by_cases hj:k=j
  ·subst hj;simp[keys]
  ·rw[hp_cons,if_neg hj] at hk
   have:=ih hk
   simp only[keys,List.map_cons,List.mem_cons] at this ⊢
   exact .inr this
theorem hp_append{a b:AHp}{k:Nat}(hk:k∈keys a):hp (a++b) k=hp a k:=by
 induction a with
 | nil=>simp[keys] at hk
 | cons x r ih=>
  obtain⟨j,o⟩:=x
  rw[List.cons_append,hp_cons,hp_cons]
  by_cases hj:k=j
  ·rw[if_pos hj,if_pos hj]
  ·rw[if_neg hj,if_neg hj]
   refine ih ?_
   simp only[keys,List.map_cons,List.mem_cons] at hk ⊢
   rcases hk with hk | hk
   ·exact absurd hk hj
   ·exact hk
theorem hp_append_not{a b:AHp}{k:Nat}(hk:k∉keys a):hp (a++b) k=hp b k:=by
 induction a with
 | nil=>rfl
 | cons x r ih=>
  obtain⟨j,o⟩:=x
  simp only[keys,List.map_cons,List.mem_cons,not_or] at hk
  rw[List.cons_append,hp_cons,if_neg hk.1]
  exact ih hk.2
def EFun(P:Program)(f:FuncId)(args:List EV)(h0:AHp)(y:EV)(h1:AHp):Prop:=
 callable P f∧∀ (g:Gh) (w:World) (vs:List Value),WInv g (hp h0) w→vs.length=args.length→(∀ (i:Nat) v x,vs[i]?=some v→args[i]?=some x→ERep g (hp h0) v x) →
  Calls P f vs.toArray w fun e w'=>∃ v g',e=.returned v∧GLe g (hp h0) g' (hp h1)∧WInv g' (hp h1) w'∧Fr ⟨w,g,hp h0,0,[],none⟩ g' (hp h1) w'∧ERep g' (hp h1) v y
def RFun(P:Program)(f:FuncId)(args:List EV)(h0:AHp)(y:EV):Prop:=
 callable P f∧∀ (g:Gh) (w:World) (vs:List Value),WInv g (hp h0) w→vs.length=args.length→(∀ (i:Nat) v x,vs[i]?=some v→args[i]?=some x→ERep g (hp h0) v x) →
  Calls P f vs.toArray w fun e w'=>∃ v fz',e=.returned v∧Kept (fun _=>False) w w'∧FzStep w.heap.size g.fz fz'∧FzOk fz' w'∧∀ g':Gh,g'.fz=fz'→ERep g' noH v y
theorem ERep.only{g:Gh}{H':Hp}{h0:AHp}(hin:∀ k,hp h0 k≠.gone→H' k=hp h0 k){v:Value}{x:EV}(hv:ERep g H' v x)(ho:okE h0 x=true):ERep g (hp h0) v x:=by
 induction hv with
 | dead v=>exact .dead v
 | p v x h=>exact .p v x h
 | loc k off b hk=>
  simp only[okE] at ho
  have hne:hp h0 k≠.gone:=fun e=>by rw[e] at ho;simp at ho
  rw[hin k hne] at hk
  exact .loc k off b hk
 | own p n cap sz es k m h1 hk hm hr=>
  simp only[okE] at ho
  have hne:hp h0 k≠.gone:=fun e=>by rw[e] at ho;simp at ho
  rw[hin k hne] at hk
  exact .own p n cap sz es k m h1 hk hm hr
 | full p n sz es h=>exact .full p n sz es h
 | eptr b o sz x hs h=>exact .eptr b o sz x hs h
 | arr p sz k off n cap hc hm hn hk=>
  simp only[okE] at ho
  have hne:hp h0 k≠.gone:=fun e=>by rw[e] at ho;simp at ho
  rw[hin k hne] at hk
  exact .arr p sz k off n cap hc hm hn hk
 | agg vs cs h1 hl _ ih=>exact .agg vs cs h1 hl fun i v x hv hx=>ih i v x hv hx (okL_mem (by simpa[okE] using ho) x (List.mem_of_getElem? hx))
 | fn f vf vc first caps h1 h2 _ _ ih1 ih2=>
  simp only[okE,Bool.and_eq_true] at ho
  exact .fn f vf vc first caps h1 h2 (fun i v x hv hx=>ih1 i v x hv hx (okL_mem ho.1 x (List.mem_of_getElem? hx))) fun i v x hv hx=>ih2 i v x hv hx (okL_mem ho.2 x (List.mem_of_getElem? hx))
 | tup vs xs h1 _ ih=>exact .tup vs xs h1 fun i v x hv hx=>ih i v x hv hx (okL_mem (by simpa[okE] using ho) x (List.mem_of_getElem? hx))
 | mtok k r hk=>
  simp only[okE] at ho
  have hne:hp h0 k≠.gone:=fun e=>by rw[e] at ho;simp at ho
  rw[hin k hne] at hk
  exact .mtok k r hk
 | itok k r hk=>
  simp only[okE] at ho
  have hne:hp h0 k≠.gone:=fun e=>by rw[e] at ho;simp at ho
  rw[hin k hne] at hk
  exact .itok k r hk
def okH(h0:AHp):AHp→Bool
 | []=>true
 | (_,.box _ cs)::r=>okE.okL h0 cs&&okH h0 r
 | _::r=>okH h0 r
theorem okH_at{h0:AHp}:∀ {l:AHp},okH h0 l=true→∀ k t cs,hp l k=.box t cs→okE.okL h0 cs=true
 | [],_,k,t,cs,h=>by cases h
 | (j,o)::r,hl,k,t,cs,h=>by
  rw[hp_cons] at h
  by_cases hj:k=j
  ·rw[if_pos hj] at h
   subst h
   simp only[okH,Bool.and_eq_true] at hl
   exact hl.1
  ·rw[if_neg hj] at h
   refine okH_at (l:=r) ?_ k t cs h
   cases o <;> simp only[okH,Bool.and_eq_true] at hl <;> first | exact hl | exact hl.2
theorem WInv.only{g:Gh}{H':Hp}{w:World}(h:WInv g H' w){h0:AHp}(hin:∀ k,hp h0 k≠.gone→H' k=hp h0 k)(ho:okH h0 h0=true):WInv g (hp h0) w:=by
 have hb:∀ k b,Bset g k (hp h0 k) b→Bset g k (H' k) b:=fun k b hb=>by
  rw[hin k (fun e=>by rw[e] at hb;exact hb)];exact hb
 refine⟨h.fz,fun k=>?_,fun k j b h1 h2=>h.inj k j b (hb k b h1) (hb j b h2)⟩
 have hob:=h.obj k
 cases hk:hp h0 k with
 | gone=>trivial
 | lost=>trivial
 | tail m=>rw[hin k (by rw[hk];simp),hk] at hob;exact hob
 | map kp es=>rw[hin k (by rw[hk];simp),hk] at hob;exact hob
 | ext e=>rw[hin k (by rw[hk];simp),hk] at hob;exact hob
 | box t cs=>
  rw[hin k (by rw[hk];simp),hk] at hob
  refine⟨hob.1,fun hlt=>?_⟩
  obtain⟨vs,h1,h2,h3,h4,h5⟩:=hob.2 hlt
  exact⟨vs,h1,h2,h3,fun i v x hv hx=>(h4 i v x hv hx).only hin (okL_mem (okH_at ho k t cs hk) x (List.mem_of_getElem? hx)),h5⟩
open Classical in
noncomputable def Gh.join(g g':Gh)(wr:List Nat):Gh:={ fz:=g'.fz,blk:=fun k=>if k∈wr then g'.blk k else g.blk k,lo:=fun k=>if k∈wr then g'.lo k else g.lo k,hi:=fun k=>if k∈wr then g'.hi k else g.hi k,dom:=g.dom }
theorem Gh.join_in{g g':Gh}{wr:List Nat}{k:Nat}(hk:k∈wr):(g.join g' wr).blk k=g'.blk k∧(g.join g' wr).lo k=g'.lo k∧(g.join g' wr).hi k=g'.hi k:=by simp[Gh.join,hk]
theorem Gh.join_out{g g':Gh}{wr:List Nat}{k:Nat}(hk:k∉wr):(g.join g' wr).blk k=g.blk k∧(g.join g' wr).lo k=g.lo k∧(g.join g' wr).hi k=g.hi k:=by simp[Gh.join,hk]
theorem Bset.eqs{g g':Gh}{k b:Nat}{o:AObj}(h1:g'.blk k=g.blk k)(h2:g'.lo k=g.lo k)(h3:g'.hi k=g.hi k)(hx:(∃ e,o=.ext e)→g'.dom=g.dom)(h:Bset g' k o b):Bset g k o b:=by
 cases o with
 | ext e=>exact(congrFun (hx ⟨e,rfl⟩) b).mp h
 | gone=>exact h
 | lost=>exact h
 | box t cs=>exact⟨h3▸h.1,h.2.trans h1⟩
 | tail m=>exact⟨by rw[← h2,← h3];exact h.1,h.2.trans h1⟩
 | map kp es=>exact Eq.trans h h1
theorem ObjOk.mono'{g H g' H' w w'}{k:Nat}{o:AObj}(hx:∀ e,o≠.ext e)(hl:GLe g H g' H')(h:ObjOk g H w k o)(hb:g'.blk k=g.blk k)(hlo:g'.lo k=g.lo k)(hhi:g'.hi k=g.hi k)
 (hw:∀ b,Bset g k o b→w'.heap[b]?=w.heap[b]?)(hf:∀ b,Bset g k o b→∀ x,g'.fz b x=g.fz b x):ObjOk g' H' w' k o:=by
 have h2:ObjOk { g' with dom:=g.dom } H' w' k o:=h.mono (g':={ g' with dom:=g.dom }) ⟨hl.fz,hl.box,hl.lost,hl.tail,hl.map⟩ hb hlo hhi hw hf
 have hE:∀ {v x},ERep { g' with dom:=g.dom } H' v x→ERep g' H' v x:=fun hv=>ERep.mono (g:={ g' with dom:=g.dom }) (g':=g') ⟨FzLe.refl _,fun k t cs hk=>.inr ⟨rfl,rfl,cs,hk,rfl⟩,fun k hk=>hk,fun k m hk=>⟨m,hk,Nat.le_refl _,fun _=>⟨rfl,rfl,rfl⟩⟩,fun k kp es hk=>.inr ⟨rfl,es,hk⟩⟩ hv
 cases o with
 | gone=>trivial
 | lost=>trivial
 | tail n=>exact h2
 | map kp es=>exact h2
 | ext e=>exact absurd rfl (hx e)
 | box t cs=>exact⟨h2.1,fun h0=>let ⟨vs,a1,a2,a3,a4,a5⟩:=h2.2 h0;⟨vs,a1,a2,a3,fun i v x hv hx=>hE (a4 i v x hv hx),a5⟩⟩
theorem WInv.merge{Γ g H' w}(hi:WInv g H' w)(hf:Fr Γ g H' w){h0 h1:AHp}(hin:∀ k∈keys h1,H' k=hp h0 k)(hk0:∀ k,hp h0 k≠.gone→k∈keys h1){g':Gh}{w':World}
 (hle:GLe g (hp h0) g' (hp h1))(hw:WInv g' (hp h1) w')(hr:Fr ⟨w,g,hp h0,0,[],none⟩ g' (hp h1) w')(hx:∀ k e,hp h1 k≠.ext e):
 WInv (g.join g' (keys h1)) (ovr (keys h1) (hp h1) H') w'∧GLe g H' (g.join g' (keys h1)) (ovr (keys h1) (hp h1) H')∧GLe g' (hp h1) (g.join g' (keys h1)) (ovr (keys h1) (hp h1) H')∧Fr Γ (g.join g' (keys h1)) (ovr (keys h1) (hp h1) H') w':=by
 have e1:∀ {k},k∈keys h1→ovr (keys h1) (hp h1) H' k=hp h1 k:=fun hk=>if_pos hk
 have e2:∀ {k},k∉keys h1→ovr (keys h1) (hp h1) H' k=H' k:=fun hk=>if_neg hk
 have hx0:∀ {b:Nat},Ctx.X ⟨w,g,hp h0,0,[],none⟩ b→∃ j∈keys h1,Bset g j (H' j) b:=by
  rintro b ⟨j,hj⟩
  have hj':Bset g j (hp h0 j) b:=hj
  have hne:hp h0 j≠.gone:=fun e=>by rw[e] at hj';exact hj'
  exact⟨j,hk0 j hne,by rw[hin j (hk0 j hne)];exact hj'⟩
 have nox:∀ {k b},k∉keys h1→Bset g k (H' k) b→¬ Ctx.X ⟨w,g,hp h0,0,[],none⟩ b:=fun hk hb hX=>by
  obtain⟨j,hj,hjb⟩:=hx0 hX
  exact hk (hi.inj _ _ _ hb hjb▸hj)
 have l2:GLe g' (hp h1) (g.join g' (keys h1)) (ovr (keys h1) (hp h1) H'):=by
  refine⟨FzLe.refl _,fun k t cs hk=>?_,fun k hk=>?_,fun k m hk=>?_,fun k kp es hk=>?_⟩
  all_goals have hm:k∈keys h1:=keys_of (by rw[hk];simp)
  ·exact .inr ⟨(Gh.join_in hm).1,(Gh.join_in hm).2.2,cs,(e1 hm).trans hk,rfl⟩
  ·exact(e1 hm).trans hk
  ·exact⟨m,(e1 hm).trans hk,Nat.le_refl _,fun _=>Gh.join_in hm⟩
  ·exact .inr ⟨(Gh.join_in hm).1,es,(e1 hm).trans hk⟩
 have l1:GLe g H' (g.join g' (keys h1)) (ovr (keys h1) (hp h1) H'):=by
  refine⟨hle.fz,fun k t cs hk=>?_,fun k hk=>?_,fun k m hk=>?_,fun k kp es hk=>?_⟩
  all_goals by_cases hm:k∈keys h1
  ·rw[hin k hm] at hk
   rw[e1 hm,(Gh.join_in hm).1,(Gh.join_in hm).2.2]
   exact hle.box k t cs hk
  ·exact .inr ⟨(Gh.join_out hm).1,(Gh.join_out hm).2.2,cs,(e2 hm).trans hk,rfl⟩
  ·rw[hin k hm] at hk
   rw[e1 hm];exact hle.lost k hk
  ·exact(e2 hm).trans hk
  ·rw[hin k hm] at hk
   rw[e1 hm,(Gh.join_in hm).1,(Gh.join_in hm).2.1,(Gh.join_in hm).2.2];exact hle.tail k m hk
  ·exact⟨m,(e2 hm).trans hk,Nat.le_refl _,fun _=>Gh.join_out hm⟩
  ·rw[hin k hm] at hk
   rw[e1 hm,(Gh.join_in hm).1];exact hle.map k kp es hk
  ·exact .inr ⟨(Gh.join_out hm).1,es,(e2 hm).trans hk⟩
 have b1:∀ {k b},k∈keys h1→Bset (g.join g' (keys h1)) k (ovr (keys h1) (hp h1) H' k) b→Bset g' k (hp h1 k) b:=fun {k b} hm hb=>by
  rw[e1 hm] at hb;exact hb.eqs (Gh.join_in hm).1 (Gh.join_in hm).2.1 (Gh.join_in hm).2.2 fun ⟨e,he⟩=>absurd he (hx k e)
 have b2:∀ {k b},k∉keys h1→Bset (g.join g' (keys h1)) k (ovr (keys h1) (hp h1) H' k) b→Bset g k (H' k) b:=fun hm hb=>by
  rw[e2 hm] at hb;exact hb.eqs (Gh.join_out hm).1 (Gh.join_out hm).2.1 (Gh.join_out hm).2.2 fun _=>rfl
 have dis:∀ {k j b},k∈keys h1→j∉keys h1→Bset g' k (hp h1 k) b→Bset g j (H' j) b→False:=fun hm hn hb1 hb2=>by
  rcases hr.own _ _ hb1 with hX | hX
  ·exact nox hn hb2 hX
  ·have hX:w.heap.size≤_:=hX
   have:=hi.blk_lt hb2
   omega
 refine⟨⟨hw.fz,fun k=>?_,fun k j b hk hj=>?_⟩,l1,l2,⟨?_,hf.fz.trans hle.fz,fun b hb hX=>?_,fun k b hb=>?_,fun k t cs hk=>?_,fun k kp es hk=>?_,fun k m hk=>?_⟩⟩
 ·by_cases hm:k∈keys h1
  ·rw[e1 hm]
   exact(hw.obj k).mono' (fun e he=>absurd he (hx k e)) l2 (Gh.join_in hm).1 (Gh.join_in hm).2.1 (Gh.join_in hm).2.2 (fun _ _=>rfl) fun _ _ _=>rfl
  ·rw[e2 hm]
   refine(hi.obj k).mono l1 (Gh.join_out hm).1 (Gh.join_out hm).2.1 (Gh.join_out hm).2.2 (fun b hb=>hr.kept.block b (hi.blk_lt hb) (nox hm hb)) fun b hb x=>?_
   show g'.fz b x=g.fz b x
   rw[hr.low b (hi.blk_lt hb) (nox hm hb)]
 ·by_cases hm:k∈keys h1 <;> by_cases hn:j∈keys h1
  ·exact hw.inj k j b (b1 hm hk) (b1 hn hj)
  ·exact(dis hm hn (b1 hm hk) (b2 hn hj)).elim
  ·exact(dis hn hm (b1 hn hj) (b2 hm hk)).elim
  ·exact hi.inj k j b (b2 hm hk) (b2 hn hj)
 ·refine hf.kept.trans hr.kept fun b hb hX=>?_
  obtain⟨j,_,hj⟩:=hx0 hX
  rcases hf.own j b hj with h | h
  ·exact h
  ·omega
 ·show g'.fz b=_
  have hX0:¬ Ctx.X ⟨w,g,hp h0,0,[],none⟩ b:=fun h=>by
   obtain⟨j,_,hj⟩:=hx0 h
   rcases hf.own j b hj with h | h
   ·exact hX h
   ·omega
  rw[hr.low b (Nat.lt_of_lt_of_le hb hf.kept.size) hX0]
  exact hf.low b hb hX
 ·by_cases hm:k∈keys h1
  ·rcases hr.own k b (b1 hm hb) with hX | hX
   ·obtain⟨j,_,hj⟩:=hx0 hX
    exact hf.own j b hj
   ·exact .inr (Nat.le_trans hf.kept.size hX)
  ·exact hf.own k b (b2 hm hb)
 ·rcases hf.box k t cs hk with h | ⟨cs',h2,h3,h4,h5⟩
  ·exact .inl (l1.lost k h)
  ·rcases l1.box k t cs' h2 with h | ⟨h6,h7,cs'',h8,h9⟩
   ·exact .inl h
   ·exact .inr ⟨cs'',h8,h9.trans h3,h6.trans h4,h7.trans h5⟩
 ·rcases hf.map k kp es hk with h | ⟨es',h2,h3⟩
  ·exact .inl (l1.lost k h)
  ·rcases l1.map k kp es' h2 with h | ⟨h6,es'',h8⟩
   ·exact .inl h
   ·exact .inr ⟨es'',h8,h6.trans h3⟩
 ·obtain⟨m1,h1',h2,h3⟩:=hf.tail k m hk
  obtain⟨m2,k1,k2,k3⟩:=l1.tail k m1 h1'
  refine⟨m2,k1,Nat.le_trans h2 k2,fun e=>?_⟩
  obtain⟨a1,a2,a3⟩:=h3 (by omega)
  obtain⟨b1,b2,b3⟩:=k3 (by omega)
  exact⟨b1.trans a1,b2.trans a2,b3.trans a3⟩
def agree(h h0:AHp):List Nat→Prop
 | []=>True
 | k::r=>hp h k=hp h0 k∧agree h h0 r
theorem agree_mem{h h0:AHp}:∀ {l:List Nat},agree h h0 l→∀ k∈l,hp h k=hp h0 k
 | [],_,k,hk=>by cases hk
 | j::r,hl,k,hk=>by
  rcases List.mem_cons.1 hk with rfl | hk
  ·exact hl.1
  ·exact agree_mem hl.2 k hk
def noX:AHp→Bool
 | []=>true
 | (_,.ext _)::_=>false
 | _::r=>noX r
theorem noX_at:∀ {l:AHp},noX l=true→∀ k e,hp l k≠.ext e
 | [],_,k,e=>by intro h;cases h
 | (j,o)::r,hl,k,e=>by
  intro h
  rw[hp_cons] at h
  by_cases hj:k=j
  ·rw[if_pos hj] at h
   subst h
   simp[noX] at hl
  ·rw[if_neg hj] at h
   refine noX_at (l:=r) ?_ k e h
   cases o <;> simp only[noX] at hl <;> first | exact hl | cases hl
def subK(h0 h1:AHp):Bool:=h0.all fun x=>(keys h1).any fun j=>Nat.beq x.1 j
theorem subK_mem{h0 h1:AHp}(h:subK h0 h1=true){k:Nat}(hk:hp h0 k≠.gone):k∈keys h1:=by
 have hm:=keys_of hk
 simp only[keys,List.mem_map] at hm
 obtain⟨x,hx,rfl⟩:=hm
 have:=List.all_eq_true.1 h x hx
 obtain⟨j,hj,hb⟩:=List.any_eq_true.1 this
 rw[nbt hb];exact hj
inductive ACall(P:Program)(f:FuncId)(args:List EV)(d:Option Tmp)(h:AHp)(K:Kt):Prop
 | pure (ys:List AV) (y:EV) (hq:toPs args=some ys) (hf:AFun P f ys y) (hk:K y h nofp)
 | own (ys:List AV) (sz:Nat) (es:List AV) (k:Tmp) (hq:toPs args=some ys) (hf:AFunO P f ys sz es) (hd:d=some k) (hg:isGone (hp h k)=true) (hk:K (.own sz es k) ((k,.tail es.length)::h) ([],[k]))
 | vec (ys:List AV) (sz:Nat) (t:TypeId) (n:Nat) (cs:List AV) (k:Tmp) (hq:toPs args=some ys) (hf:AFunV P f ys sz t n cs) (hd:d=some k) (hg:isGone (hp h k)=true) (hk:K (.arr sz k 0 n) ((k,.box t (cs.map .p))::h) ([],[k]))
 | read (h0:AHp) (y:EV) (hf:RFun P f args h0 y) (ha:agree h h0 (keys h0)) (ho:okE.okL h0 args=true) (ho2:okH h0 h0=true) (hk:K y h (keys h0,[]))
 | eff (h0 h1:AHp) (y:EV) (hf:EFun P f args h0 y h1) (ha:agree h h0 (keys h1)) (hs:subK h0 h1=true) (ho:okE.okL h0 args=true) (ho2:okH h0 h0=true) (hx:noX h1=true) (hk:K y (h1++h) ([],keys h1))
def flatImm:AV→Bool
 | .imm _=>true
 | .agg cs=>flatImmL cs
 | _=>false
where flatImmL:List AV→Bool
 | []=>true
 | .imm _::r=>flatImmL r
 | _::_=>false
theorem flatImmL_at:∀ {cs:List AV},flatImm.flatImmL cs=true→∀ (i:Nat) (x:AV),cs[i]?=some x→∃ v,x=.imm v
 | [],_,i,x,hx=>by simp at hx
 | .imm v::r,h,i,x,hx=>by
  cases i with
  | zero=>simp at hx;exact⟨v,hx.symm⟩
  | succ i=>exact flatImmL_at (cs:=r) h i x (by simpa using hx)
 | .agg _::_,h,_,_,_=>by simp[flatImm.flatImmL] at h
 | .slice _ _::_,h,_,_,_=>by simp[flatImm.flatImmL] at h
 | .ref _::_,h,_,_,_=>by simp[flatImm.flatImmL] at h
 | .fn _ _ _::_,h,_,_,_=>by simp[flatImm.flatImmL] at h
 | .iface _ _::_,h,_,_,_=>by simp[flatImm.flatImmL] at h
 | .mp _ _::_,h,_,_,_=>by simp[flatImm.flatImmL] at h
theorem Rep.flat{fz:Fz}{v:Value}{x:AV}(hf:flatImm x=true)(h:Rep fz v x)(fz':Fz):Rep fz' v x:=by
 cases h with
 | imm v h1=>exact .imm v h1
 | agg vs cs h1 hl h=>
  refine .agg vs cs h1 hl fun i v x hv hx=>?_
  obtain⟨u,rfl⟩:=flatImmL_at (by simpa[flatImm] using hf) i x hx
  have:=h i v _ hv hx
  cases this with
  | imm _ h2=>exact .imm _ h2
 | slice=>simp[flatImm] at hf
 | ref=>simp[flatImm] at hf
 | fn=>simp[flatImm] at hf
 | iface=>simp[flatImm] at hf
 | mp=>simp[flatImm] at hf
def YFun(P:Program)(l:Nat)(xs:List AV)(e0:Ext)(y:Bool)(e1:Ext):Prop:=
 (e1.Z=e0.Z∧(xs.all flatImm=true))∧∀ (w:World) (D:Nat→Prop) (vs:List Value),e0.φ D w→RepsL (fun _ _=>none) vs xs→∀ (ro:Option Nat) (n:Nat),
  YieldAt (fenceOf ro) n P l vs.toArray w fun e w'=>∃ D':Nat→Prop,e=.returned (.bool y)∧e1.φ D' w'∧Kept D w w'∧(∀ b,D b→D' b)∧∀ b,D' b→D b∨w.heap.size≤b
inductive AYield(P:Program)(l:Nat)(args:List EV)(h:AHp)(K:Kt):Prop
 | mk (k:Nat) (e0 e1:Ext) (xs:List AV) (y:Bool) (hq:toPs args=some xs) (hk:hp h k=.ext e0) (hy:YFun P l xs e0 y e1) (hK:K (ebool y) ((k,.ext e1)::h) ([],[k]))
theorem WInv.ext{g H w}(hi:WInv g H w){k:Nat}{e0 e1:Ext}(hk:H k=.ext e0)(hz:e1.Z=e0.Z){w':World}{D':Nat→Prop}(h1:e1.φ D' w')(h2:Kept g.dom w w')(h3:∀ b,g.dom b→D' b)(h4:∀ b,D' b→g.dom b∨w.heap.size≤b):
 WInv { g with dom:=D' } (upd H k (.ext e1)) w'∧GLe g H { g with dom:=D' } (upd H k (.ext e1))∧Fr ⟨w,g,H,0,[],none⟩ { g with dom:=D' } (upd H k (.ext e1)) w':=by
 have hob:=hi.obj k
 rw[hk] at hob
 have hne:∀ {j},(∀ e,H j≠.ext e)→j≠k:=fun h e=>by subst e;exact h _ hk
 have one:∀ j,j≠k→∀ e,H j≠.ext e:=fun j hj e he=>by
  have hoj:=hi.obj j
  rw[he] at hoj
  obtain⟨b,hb⟩:=e.ne _ _ hoj.1
  exact hj (hi.inj j k b (by rw[he];exact hb) (by rw[hk];exact hb))
 have hB:∀ j b,j≠k→Bset { g with dom:=D' } j (H j) b→Bset g j (H j) b∧¬ g.dom b:=fun j b hj hb=>by
  have:Bset g j (H j) b:=by
   generalize hH:H j=o at hb
   cases o <;> first | exact hb | exact absurd hH (one j hj _)
  exact⟨this,fun hd=>hj (hi.inj j k b this (by rw[hk];exact hd))⟩
 have hle:GLe g H { g with dom:=D' } (upd H k (.ext e1)):=by
  refine⟨FzLe.refl _,fun j t cs hj=>.inr ⟨rfl,rfl,cs,?_,rfl⟩,fun j hj=>?_,fun j m hj=>⟨m,?_,Nat.le_refl _,fun _=>⟨rfl,rfl,rfl⟩⟩,fun j kp es hj=>.inr ⟨rfl,es,?_⟩⟩
  all_goals rw[upd_ne (hne (by rw[hj];nofun))];exact hj
 refine⟨⟨fun b o v hz'=>?_,fun j=>?_,fun i j b hi1 hj1=>?_⟩,hle,⟨?_,FzLe.refl _,fun _ _ _=>rfl,fun j b hb=>?_,fun j t cs hj=>.inr ⟨cs,?_,rfl,rfl,rfl⟩,fun j kp es hj=>.inr ⟨es,?_,rfl⟩,fun j m hj=>⟨m,?_,Nat.le_refl _,fun _=>⟨rfl,rfl,rfl⟩⟩⟩⟩
 ·by_cases hd:g.dom b
  ·exact e1.zk _ _ _ _ _ h1 (by rw[hz];exact hob.2 b o v hd hz')
  ·rw[pk_congr (h2.block b (hi.fz_lt hz') hd)];exact hi.fz b o v hz'
 ·by_cases hj:j=k
  ·subst hj
   rw[upd_same]
   refine⟨h1,fun b o v hd hz'=>?_⟩
   rw[hz]
   rcases h4 b hd with h | h
   ·exact hob.2 b o v h hz'
   ·have:=hi.fz_lt hz';omega
  ·rw[upd_ne hj]
   refine ObjOk.mono' (one j hj) hle (hi.obj j) rfl rfl rfl (fun b hb=>h2.block b (hi.blk_lt hb) fun hd=>hj (hi.inj j k b hb (by rw[hk];exact hd))) fun _ _ _=>rfl
 ·by_cases hik:i=k <;> by_cases hjk:j=k
  ·rw[hik,hjk]
  ·subst hik
   rw[upd_same] at hi1
   rw[upd_ne hjk] at hj1
   obtain⟨a1,a2⟩:=hB j b hjk hj1
   rcases h4 b hi1 with h | h
   ·exact absurd h a2
   ·have:=hi.blk_lt a1;omega
  ·subst hjk
   rw[upd_same] at hj1
   rw[upd_ne hik] at hi1
   obtain⟨a1,a2⟩:=hB i b hik hi1
   rcases h4 b hj1 with h | h
   ·exact absurd h a2
   ·have:=hi.blk_lt a1;omega
  ·rw[upd_ne hik] at hi1
   rw[upd_ne hjk] at hj1
   exact hi.inj i j b (hB i b hik hi1).1 (hB j b hjk hj1).1
 ·exact h2.mono fun b _ hd=>⟨k,by show Bset g k (H k) b;rw[hk];exact hd⟩
 ·by_cases hj:j=k
  ·subst hj
   rw[upd_same] at hb
   rcases h4 b hb with h | h
   ·exact .inl ⟨j,by show Bset g j (H j) b;rw[hk];exact h⟩
   ·exact .inr h
  ·rw[upd_ne hj] at hb
   exact .inl ⟨j,(hB j b hj hb).1⟩
 ·rw[upd_ne (hne (by rw[show H j=_ from hj];nofun))];exact hj
 ·rw[upd_ne (hne (by rw[show H j=_ from hj];nofun))];exact hj
 ·rw[upd_ne (hne (by rw[show H j=_ from hj];nofun))];exact hj
theorem WInv.call{g H w}(h:WInv g H w){w':World}(hk:Kept (fun _=>False) w w'){fz':Fz}(hs:FzStep w.heap.size g.fz fz')(ho:FzOk fz' w'):WInv { g with fz:=fz' } H w'∧GLe g H { g with fz:=fz' } H:=by
 have hle:GLe g H { g with fz:=fz' } H:=⟨hs.le,fun k t cs hk=>.inr ⟨rfl,rfl,cs,hk,rfl⟩,fun k hk=>hk,fun k m hk=>⟨m,hk,Nat.le_refl _,fun _=>⟨rfl,rfl,rfl⟩⟩,fun k kp es hk=>.inr ⟨rfl,es,hk⟩⟩
 have hb:∀ k b,Bset { g with fz:=fz' } k (H k) b→Bset g k (H k) b:=fun k b hb=>by
  cases hH:H k with
  | gone=>rw[hH] at hb;exact hb.elim
  | lost=>rw[hH] at hb;exact hb.elim
  | map _ _=>rw[hH] at hb;exact hb
  | ext _=>rw[hH] at hb;exact hb
  | box _ _=>rw[hH] at hb;exact hb
  | tail _=>rw[hH] at hb;exact hb
 refine⟨⟨ho,fun k=>?_,fun k j b h1 h2=>h.inj k j b (hb k b h1) (hb j b h2)⟩,hle⟩
 refine(h.obj k).mono hle rfl rfl rfl (fun b hb=>hk.block b (h.blk_lt hb) id) fun b hb x=>?_
 show fz' b x=g.fz b x
 rw[hs.low b (h.blk_lt hb)]
theorem Fr.call{Γ g H w}(h:Fr Γ g H w){w':World}(hk:Kept (fun _=>False) w w'){fz':Fz}(hs:FzStep w.heap.size g.fz fz'):Fr Γ { g with fz:=fz' } H w':=by
 refine⟨h.kept.trans hk fun _ _=>False.elim,h.fz.trans hs.le,fun b hb hX=>?_,fun k b hb=>h.own k b ?_,h.box,h.map,h.tail⟩
 ·show fz' b=_
  rw[hs.low b (Nat.lt_of_lt_of_le hb h.kept.size),h.low b hb hX]
 ·cases hH:H k with
  | gone=>rw[hH] at hb;exact hb.elim
  | lost=>rw[hH] at hb;exact hb.elim
  | map _ _=>rw[hH] at hb;exact hb
  | ext _=>rw[hH] at hb;exact hb
  | box _ _=>rw[hH] at hb;exact hb
  | tail _=>rw[hH] at hb;exact hb
theorem ERep.of_noH{g v y}(h:ERep g noH v y)(H:Hp):ERep g H v y:=h.mono ⟨FzLe.refl _,fun k t cs hk=>(by cases hk),fun k hk=>(by cases hk),fun k m hk=>(by cases hk),fun k kp es hk=>(by cases hk)⟩
section
variable {P:Program} {T:Tab} (hT:TabOk P T) {o:Oper} {env:Env} {h:AHp} {K:Kt}
def evArgs(T:Tab)(env:Env):List Operand→List Nat→List EV
 | [],_=>[]
 | x::r,t::ts=>opv T env t x::evArgs T env r ts
 | x::r,[]=>opv T env 0 x::evArgs T env r []
theorem evArgs_rep{g H ρ}:∀ {xs:List Operand} {ts:List Nat},(∀ y∈xs,∀ ty,ERep g H (ρ y) (opv T env ty y))→(xs.map ρ).length=(evArgs T env xs ts).length∧∀ (i:Nat) v x,(xs.map ρ)[i]?=some v→(evArgs T env xs ts)[i]?=some x→ERep g H v x
 | [],ts,_=>⟨rfl,by intro i v x hv;simp at hv⟩
 | x::r,[],hr=>by
  obtain⟨h1,h2⟩:=evArgs_rep (g:=g) (H:=H) (ρ:=ρ) (xs:=r) (ts:=[]) (fun y hy=>hr y (by simp[hy]))
  refine⟨by simp only[evArgs,List.map_cons,List.length_cons,h1],fun i v y hv hy=>?_⟩
  cases i with
  | zero=>simp[evArgs] at hv hy;subst hv;subst hy;exact hr x (by simp) 0
  | succ i=>simp only[evArgs,List.map_cons,List.getElem?_cons_succ] at hv hy;exact h2 i v y hv hy
 | x::r,t::ts,hr=>by
  obtain⟨h1,h2⟩:=evArgs_rep (g:=g) (H:=H) (ρ:=ρ) (xs:=r) (ts:=ts) (fun y hy=>hr y (by simp[hy]))
  refine⟨by simp only[evArgs,List.map_cons,List.length_cons,h1],fun i v y hv hy=>?_⟩
  cases i with
  | zero=>simp[evArgs] at hv hy;subst hv;subst hy;exact hr x (by simp) t
  | succ i=>simp only[evArgs,List.map_cons,List.getElem?_cons_succ] at hv hy;exact h2 i v y hv hy
theorem toPs_reps{g H}{es:List EV}{ys:List AV}{vs:List Value}(hp:toPs es=some ys)(hl:vs.length=es.length)(hc:∀ (i:Nat) v x,vs[i]?=some v→es[i]?=some x→ERep g H v x):RepsL g.fz vs ys:=toPl_rep hp hl hc
theorem ACall_good{f:FuncId}{args:List EV}(hh:ACall P f args o.dst h K)
 (hx:∀ (g:Gh) (H':Hp) (a:Act) (w:World) (env':Nat→EV),(∀ t∈opTmps o.op,env' t=lk env t)→(∀ t,ERep g H' (a.tmps.getD t undef) (env' t))→∃ vs:List Value,(callable P f→(execOp a.eval o).run P w=.ok (.enter f vs.toArray) w) ∧
  vs.length=args.length∧∀ (i:Nat) v x,vs[i]?=some v→args[i]?=some x→ERep g H' v x):Good P o env h K:=by
 cases hh with
 | pure ys y hp hf hk=>
  refine fun _ _ _=>⟨y,h,[],[],⟨fun _ _=>rfl,fun Γ g a w env' H' ht hH hr hi hfr next Q hn=>?_⟩,hk⟩
  rw[ovr_nil] at hn
  obtain⟨vs,hrun,hl,hc⟩:=hx g H' a w env' ht hr
  unfold Oper.wp
  rw[hrun hf.1]
  refine(hf.2 g.fz w vs hi.fz (toPs_reps hp hl hc)).mono ?_
  rintro e w' ⟨v,fz',rfl,hk1,hs,hok,hv⟩
  obtain⟨hi',hle⟩:=hi.call hk1 hs hok
  exact hn v _ w' hle hi' (hfr.call hk1 hs) ((hv { g with fz:=fz' } rfl).of_noH H')
 | own ys sz es k hp hf hd hg hk=>
  have hgone:Ab.hp h k=.gone:=by
   cases hq:Ab.hp h k <;> rw[hq] at hg <;> first | rfl | (simp[isGone] at hg)
  refine fun _ _ _=>⟨_,_,[],[k],⟨fun j hj=>?_,fun Γ g a w env' H' ht hH hr hi hfr next Q hn=>?_⟩,hk⟩
  ·have hjk:j≠k:=by simpa using hj
   rw[hp_cons,if_neg hjk]
  ·have hdd:H' k=.gone:=(hH k (.inr (by simp))).trans hgone
   have hH2:ovr [k] (Ab.hp ((k,.tail es.length)::h)) H'=upd H' k (.tail es.length):=by rw[ovr_one,hp_cons,if_pos rfl]
   rw[hH2] at hn
   obtain⟨vs,hrun,hl,hc⟩:=hx g H' a w env' ht hr
   unfold Oper.wp
   rw[hrun hf.1]
   refine(hf.2 g.fz w vs hi.fz (toPs_reps hp hl hc)).mono ?_
   rintro e w' ⟨v,fz',rfl,hk1,hs,hok,p,cap,rfl,hrep,hroom⟩
   obtain⟨hi',hle⟩:=hi.call hk1 hs hok
   have hfr':=hfr.call hk1 hs
   rcases hroom with rfl | ⟨b,q,rfl,hb,⟨cur,t,hc1,hc2⟩,hno⟩
   ·have hle2:=GLe.name (g:={ g with fz:=fz' }) hdd (.tail es.length) 0 0 0
    refine hn _ (Gh.name { g with fz:=fz' } k 0 0 0) w' (hle.trans hle2) (hi'.add hdd (fun hlt=>?_) fun b hb=>?_) (hfr'.add hdd fun b hb=>?_) (.own _ _ _ _ _ k es.length (hrep.mono hle2.fz) (by simp) (Nat.le_refl _) fun _=>.inl rfl)
    ·simp[Gh.name] at hlt
    ·simp[Bset,Gh.name] at hb
    ·simp[Bset,Gh.name] at hb
   ·have hle2:=GLe.name (g:={ g with fz:=fz' }) hdd (.tail es.length) b (q+es.length*sz) (q+cap*sz)
    refine hn _ (Gh.name { g with fz:=fz' } k b (q+es.length*sz) (q+cap*sz)) w' (hle.trans hle2) (hi'.add hdd (fun hlt=>?_) fun b' hb' j hj=>?_) (hfr'.add hdd fun b' hb'=>.inr ?_)
     (.own _ _ _ _ _ k es.length (hrep.mono hle2.fz) (by simp) (Nat.le_refl _) fun _=>.inr ⟨q,?_,?_,?_⟩)
    ·refine⟨cur,t,?_,?_,fun x h1 h2=>?_⟩
     ·rw[Gh.name_blk];exact hc1
     ·rw[Gh.name_hi];exact hc2
     ·rw[Gh.name_lo] at h1;rw[Gh.name_hi] at h2
      rw[Gh.name_blk,Gh.name_fz]
      exact hno x h1 h2
    ·have e:b'=b:=by simpa[Bset,Gh.name] using hb'.2
     have:b'<w.heap.size:=hi.blk_lt (k:=j) (b:=b') (by
      cases hH:H' j with
      | gone=>rw[hH] at hj;exact hj.elim
      | lost=>rw[hH] at hj;exact hj.elim
      | map _ _=>rw[hH] at hj;exact hj
      | ext _=>rw[hH] at hj;exact hj
      | box _ _=>rw[hH] at hj;exact hj
      | tail _=>rw[hH] at hj;exact hj)
     omega
    ·have e:b'=b:=by simpa[Bset,Gh.name] using hb'.2
     have:=hfr.kept.size
     omega
    ·rw[Gh.name_blk]
    ·rw[Gh.name_lo]
    ·rw[Gh.name_hi]
 | vec ys sz t n cs k hp hf hd hg hk=>
  have hgone:Ab.hp h k=.gone:=by
   cases hq:Ab.hp h k <;> rw[hq] at hg <;> first | rfl | (simp[isGone] at hg)
  refine fun _ _ _=>⟨_,_,[],[k],⟨fun j hj=>?_,fun Γ g a w env' H' ht hH hr hi hfr next Q hn=>?_⟩,hk⟩
  ·have hjk:j≠k:=by simpa using hj
   rw[hp_cons,if_neg hjk]
  ·have hdd:H' k=.gone:=(hH k (.inr (by simp))).trans hgone
   have hH2:ovr [k] (Ab.hp ((k,.box t (cs.map .p))::h)) H'=upd H' k (.box t (cs.map .p)):=by rw[ovr_one,hp_cons,if_pos rfl]
   rw[hH2] at hn
   obtain⟨vs,hrun,hl,hc⟩:=hx g H' a w env' ht hr
   unfold Oper.wp
   rw[hrun hf.1]
   refine(hf.2 g.fz w vs hi.fz (toPs_reps hp hl hc)).mono ?_
   rintro e w' ⟨v,fz',rfl,hk1,hs,hok,p,cap,rfl,v1,v2,v3,hroom⟩
   obtain⟨hi',hle⟩:=hi.call hk1 hs hok
   have hfr':=hfr.call hk1 hs
   rcases hroom with ⟨rfl,rfl⟩ | ⟨b,us,rfl,hb,u1,u0,u2,u3,u4,u5,u6⟩
   ·have hle2:=GLe.name (g:={ g with fz:=fz' }) hdd (.box t (([]:List AV).map .p)) 0 0 0
    refine hn _ (Gh.name { g with fz:=fz' } k 0 0 0) w' (hle.trans hle2) (hi'.add hdd ⟨fun _=>rfl,fun h0=>?_⟩ fun b hb=>?_) (hfr'.add hdd fun b hb=>?_) (.arr p sz k 0 n 0 v1 v2 (fun h0=>absurd (Nat.le_zero.1 v1) h0) (.inr ⟨t,[],by simp,by simpa using Nat.le_of_eq v3,.inr ⟨by simp[Gh.name],rfl⟩⟩))
    ·simp[Gh.name] at h0
    ·simp[Bset,Gh.name] at hb
    ·simp[Bset,Gh.name] at hb
   ·have hle2:=GLe.name (g:={ g with fz:=fz' }) hdd (.box t (cs.map .p)) b 0 us.length
    refine hn _ (Gh.name { g with fz:=fz' } k b 0 us.length) w' (hle.trans hle2) (hi'.add hdd ⟨fun h0=>?_,fun _=>⟨us,by rw[Gh.name_blk];exact u1,⟨(Gh.name_hi ..).symm,by simpa using u3⟩,u4,fun i v x hv hx=>?_,fun o=>by rw[Gh.name_blk,Gh.name_fz];exact u6 o⟩⟩ fun b' hb' j hj=>?_) (hfr'.add hdd fun b' hb'=>.inr ?_)
     (.arr _ sz k 0 n cap v1 v2 (fun _=>⟨b,rfl⟩) (.inr ⟨t,cs.map .p,by simp,by simpa using Nat.le_of_eq v3,.inl ⟨by rw[Gh.name_hi];exact u0,by rw[Gh.name_blk],by rw[Gh.name_hi];simpa using u2⟩⟩))
    ·rw[Gh.name_hi] at h0;omega
    ·rw[List.getElem?_map] at hx
     cases hq:cs[i]? with
     | none=>rw[hq] at hx;cases hx
     | some y=>rw[hq] at hx;cases hx;exact .p _ _ (u5 i v y hv hq)
    ·have e:b'=b:=by simpa[Bset,Gh.name] using hb'.2
     have:b'<w.heap.size:=hi.blk_lt (k:=j) (b:=b') (by
      cases hH:H' j with
      | gone=>rw[hH] at hj;exact hj.elim
      | lost=>rw[hH] at hj;exact hj.elim
      | map _ _=>rw[hH] at hj;exact hj
      | ext _=>rw[hH] at hj;exact hj
      | box _ _=>rw[hH] at hj;exact hj
      | tail _=>rw[hH] at hj;exact hj)
     omega
    ·have e:b'=b:=by simpa[Bset,Gh.name] using hb'.2
     have:=hfr.kept.size
     omega
 | read h0 y hf ha ho ho2 hk=>
  refine fun _ _ _=>⟨y,h,keys h0,[],⟨fun _ _=>rfl,fun Γ g a w env' H' ht hH hr hi hfr next Q hn=>?_⟩,hk⟩
  rw[ovr_nil] at hn
  have hin':∀ k,Ab.hp h0 k≠.gone→H' k=Ab.hp h0 k:=fun k hk=>(hH k (.inl (keys_of hk))).trans (agree_mem ha k (keys_of hk))
  obtain⟨vs,hrun,hl,hc⟩:=hx g H' a w env' ht hr
  unfold Oper.wp
  rw[hrun hf.1]
  refine(hf.2 g w vs (hi.only hin' ho2) hl fun i v x hv hx=>(hc i v x hv hx).only hin' (okL_mem ho x (List.mem_of_getElem? hx))).mono ?_
  rintro e w' ⟨v,fz',rfl,hk1,hs,hok,hv⟩
  obtain⟨hi',hle⟩:=hi.call hk1 hs hok
  exact hn v _ w' hle hi' (hfr.call hk1 hs) ((hv { g with fz:=fz' } rfl).of_noH H')
 | eff h0 h1 y hf ha hs ho ho2 hx1 hk=>
  refine fun _ _ _=>⟨_,_,[],keys h1,⟨fun j hj=>hp_append_not hj,fun Γ g a w env' H' ht hH hr hi hfr next Q hn=>?_⟩,hk⟩
  have hin:∀ k∈keys h1,H' k=Ab.hp h0 k:=fun k hk=>(hH k (.inr hk)).trans (agree_mem ha k hk)
  have hin':∀ k,Ab.hp h0 k≠.gone→H' k=Ab.hp h0 k:=fun k hk=>hin k (subK_mem hs hk)
  obtain⟨vs,hrun,hl,hc⟩:=hx g H' a w env' ht hr
  unfold Oper.wp
  rw[hrun hf.1]
  refine(hf.2 g w vs (hi.only hin' ho2) hl fun i v x hv hx=>(hc i v x hv hx).only hin' (okL_mem ho x (List.mem_of_getElem? hx))).mono ?_
  rintro e w' ⟨v,g',rfl,hle,hw',hr',hv⟩
  obtain⟨m1,m2,m3,m4⟩:=hi.merge hfr hin (fun k hk=>subK_mem hs hk) hle hw' hr' (noX_at hx1)
  have e0:ovr (keys h1) (Ab.hp (h1++h)) H'=ovr (keys h1) (Ab.hp h1) H':=by
   funext k
   simp only[ovr]
   split
   ·rename_i hk;exact hp_append hk
   ·rfl
  rw[e0] at hn
  exact hn v _ w' m2 m1 m4 (hv.mono m3)
theorem AYield_good{l:Nat}{args:List EV}(hnd:∀ c,o.op≠.defer c)(hh:AYield P l args h K)
 (hx:∀ (g:Gh) (H':Hp) (a:Act) (w:World) (env':Nat→EV),(∀ t∈opTmps o.op,env' t=lk env t)→(∀ t,ERep g H' (a.tmps.getD t undef) (env' t))→∃ vs:List Value,(execOp a.eval o).run P w=(Instr.yield l vs.toArray).run P w ∧
  vs.length=args.length∧∀ (i:Nat) v x,vs[i]?=some v→args[i]?=some x→ERep g H' v x):GoodI P o env h K:=by
 obtain⟨k,e0,e1,xs,y,hq,hk,⟨⟨hz,hfl⟩,hy⟩,hK⟩:=hh
 refine fun _ _ _=>⟨_,_,[],[k],⟨fun j hj=>?_,hnd,fun ro g a w env' H' ht hH hr hi n next Q hn=>?_⟩,hK⟩
 ·have hjk:j≠k:=by simpa using hj
  rw[hp_cons,if_neg hjk]
 ·have hkk:H' k=.ext e0:=(hH k (.inr (by simp))).trans hk
  have hH2:ovr [k] (Ab.hp ((k,.ext e1)::h)) H'=upd H' k (.ext e1):=by rw[ovr_one,hp_cons,if_pos rfl]
  rw[hH2] at hn
  obtain⟨vs,hrun,hl,hc⟩:=hx g H' a w env' ht hr
  have hob:=hi.obj k
  rw[hkk] at hob
  have hreps:=toPs_reps hq hl hc
  refine⟨fun _ _=>trivial,?_⟩
  rw[Oper.semAt_eq _ _ _ hnd,hrun]
  obtain⟨fn,tmps,asg,body,h1,h2⟩:=hy w g.dom vs hob.1 ⟨hreps.1,fun i v x hv hx=>(hreps.2 i v x hv hx).flat (List.all_eq_true.1 hfl x (List.mem_of_getElem? hx)) _⟩ ro (n - 1)
  rw[h1,Oper.uponIn_round]
  refine⟨fun e=>by simp[fenceOf,Fence.wide] at e,h2.mono ?_⟩
  rintro e w' ⟨D',rfl,p1,p2,p3,p4⟩
  obtain⟨q1,q2,q3⟩:=hi.ext hkk hz p1 p2 p3 p4
  exact hn _ _ w' q2 q1 ⟨q3.kept,q3.fz,q3.low,q3.own,q3.box,q3.map,q3.tail⟩ (.p _ _ (.imm _ rfl))
def isArr(e:EV)(A B:Prop):Prop:=match e with | .arr _ _ _ _=>A | _=>B
def isMapE(e:EV)(A B:Prop):Prop:=match e with | .mtok _=>A | .p (.mp _ _)=>A | .p (.imm (.map none))=>A | _=>B
def aCallOp(P:Program)(T:Tab)(c:Call)(d:Option Tmp)(env:Env)(h:AHp)(K:Kt):Prop:=
 match c.callee with
 | .value (.func f)=>ACall P f (evArgs T env c.args.toList c.argTypes.toList) d h K
 | .value x=>
  (match opv T env 0 x with
  | .p (.fn (.func f) a b)=>ACall P f (a.map .p++evArgs T env c.args.toList c.argTypes.toList++b.map .p) d h K
  | .p (.fn (.yield l) [] [])=>AYield P l (evArgs T env c.args.toList c.argTypes.toList) h K
  | .fn (.func f) a b=>ACall P f (a++evArgs T env c.args.toList c.argTypes.toList++b) d h K
  | _=>False)
 | .builtin .len=>(match c.args.toList,c.argTypes.toList with | [x],[t]=>isMapE (opv T env t x) (aLenM T t (opv T env t x) h K) (aLen T t (opv T env t x) h K) | _,_=>False)
 | .builtin .append=>(match c.args.toList,c.argTypes.toList with | [s,x],[t0,t1]=>isArr (opv T env t0 s) (aAppendV T t0 t1 (opv T env t0 s) (opv T env t1 x) d h K) (aAppend T t0 t1 (opv T env t0 s) (opv T env t1 x) d h K) | _,_=>False)
 | .builtin .copy=>(match c.args.toList,c.argTypes.toList with | [s,x],[t0,t1]=>isArr (opv T env t1 x) (aCopyR T t0 t1 (opv T env t0 s) (opv T env t1 x) h K) (aCopy T t0 t1 (opv T env t0 s) (opv T env t1 x) h K) | _,_=>False)
 | .builtin .max=>(match c.args.toList with | [x,y]=>aMax (opv T env 0 x) (opv T env 0 y) h K | _=>False)
 | .builtin .min=>(match c.args.toList with | [x,y]=>aMin (opv T env 0 x) (opv T env 0 y) h K | _=>False)
 | _=>False
theorem args_of{a:Array Operand}{l:List Operand}(h:a.toList=l):a=l.toArray:=by rw[← h]
theorem types_of{a:Array TypeId}{l:List TypeId}(h:a.toList=l):a=l.toArray:=by rw[← h]
include hT in
theorem aCallOp_good{c:Call}(ho:o.op=.call c)(hh:aCallOp P T c o.dst env h K):GoodI P o env h K:=by
 have hnd:∀ c,o.op≠.defer c:=fun d hd=>by rw[ho] at hd;cases hd
 obtain⟨callee,args,types⟩:=c
 unfold aCallOp at hh
 dsimp only at hh
 split at hh
 ·rename_i f
  refine Good.toI (ACall_good hh fun g H' a w env' ht hr=>⟨args.toList.map a.eval,fun hcl=>?_,?_⟩) hnd
  ·have e1:args.map a.eval=(args.toList.map a.eval).toArray:=by apply Array.ext';simp
   simp only[execOp,ho,resolve,Act.eval,Deferred.ofValue,Sem.run_bind,Sem.run_pure,Result.andThen_ok,invoke]
   rw[run_callFunc hcl]
   simp[e1]
  ·exact evArgs_rep fun y hy ty=>opv_rep hr ht (by simp[ho,Op.operands,Call.operands,hy]) ty
 ·rename_i x hnf
  have hxm:x∈o.op.operands.toList:=by simp[ho,Op.operands,Call.operands]
  split at hh
  ·rename_i f ca cb hx
   refine Good.toI (ACall_good hh fun g H' a w env' ht hr=>?_) hnd
   have hv:=opv_rep (T:=T) hr ht hxm 0
   rw[hx] at hv
   have hv:=hv.p_inv
   generalize hve:a.eval x=v at hv
   cases hv with
   | fn _ vf vc _ _ l1 l2 r1 r2=>
    obtain⟨a1,a2⟩:=evArgs_rep (g:=g) (H:=H') (ρ:=a.eval) (T:=T) (env:=env) (xs:=args.toList) (ts:=types.toList) fun y hy ty=>opv_rep hr ht (by simp[ho,Op.operands,Call.operands,hy]) ty
    refine⟨vf++args.toList.map a.eval++vc,fun hcl=>?_,by simp only[List.length_append,l1,l2,a1,List.length_map],fun i v y hv hy=>?_⟩
    ·have e1:args.map a.eval=(args.toList.map a.eval).toArray:=by apply Array.ext';simp
     simp only[execOp,ho,resolve,hve,Deferred.ofValue,Sem.run_bind,Sem.run_pure,Result.andThen_ok,invoke]
     rw[run_callFunc hcl]
     simp[e1]
    ·have p1:∀ (i:Nat) v x,vf[i]?=some v→(ca.map EV.p)[i]?=some x→ERep g H' v x:=fun i v x hv hx=>by
      rw[List.getElem?_map] at hx
      cases hq:ca[i]? with
      | none=>rw[hq] at hx;cases hx
      | some z=>rw[hq] at hx;cases hx;exact .p _ _ (r1 i v z hv hq)
     have p2:∀ (i:Nat) v x,vc[i]?=some v→(cb.map EV.p)[i]?=some x→ERep g H' v x:=fun i v x hv hx=>by
      rw[List.getElem?_map] at hx
      cases hq:cb[i]? with
      | none=>rw[hq] at hx;cases hx
      | some z=>rw[hq] at hx;cases hx;exact .p _ _ (r2 i v z hv hq)
     rw[List.getElem?_append] at hv hy
     rw[List.length_append,List.length_map,← l1,← a1,← List.length_append] at hy
     split at hv
     ·rename_i h3
      rw[if_pos h3,List.getElem?_append] at hy
      rw[List.getElem?_append] at hv
      rw[List.length_map,← l1] at hy
      split at hv
      ·rename_i h4
       rw[if_pos h4] at hy
       exact p1 _ _ _ hv hy
      ·rename_i h4
       rw[if_neg h4] at hy
       exact a2 _ _ _ hv hy
     ·rename_i h3
      rw[if_neg h3] at hy
      exact p2 _ _ _ hv hy
  ·rename_i l hx
   refine AYield_good hnd hh fun g H' a w env' ht hr=>?_
   have hv:=opv_rep (T:=T) hr ht hxm 0
   rw[hx] at hv
   have hv:=hv.p_inv
   generalize hve:a.eval x=v at hv
   cases hv with
   | fn _ vf vc _ _ l1 l2 r1 r2=>
    obtain rfl:=List.eq_nil_of_length_eq_zero l1
    obtain rfl:=List.eq_nil_of_length_eq_zero l2
    obtain⟨a1,a2⟩:=evArgs_rep (g:=g) (H:=H') (ρ:=a.eval) (T:=T) (env:=env) (xs:=args.toList) (ts:=types.toList) fun y hy ty=>opv_rep hr ht (by simp[ho,Op.operands,Call.operands,hy]) ty
    refine⟨args.toList.map a.eval,?_,a1,a2⟩
    have e1:args.map a.eval=(args.toList.map a.eval).toArray:=by apply Array.ext';simp
    simp only[execOp,ho,resolve,hve,Deferred.ofValue,Sem.run_bind,Sem.run_pure,Result.andThen_ok,invoke]
    simp[e1]
  ·rename_i f ca cb hx
   refine Good.toI (ACall_good hh fun g H' a w env' ht hr=>?_) hnd
   have hv:=opv_rep (T:=T) hr ht hxm 0
   rw[hx] at hv
   generalize hve:a.eval x=v at hv
   cases hv with
   | fn _ vf vc _ _ l1 l2 r1 r2=>
    obtain⟨a1,a2⟩:=evArgs_rep (g:=g) (H:=H') (ρ:=a.eval) (T:=T) (env:=env) (xs:=args.toList) (ts:=types.toList) fun y hy ty=>opv_rep hr ht (by simp[ho,Op.operands,Call.operands,hy]) ty
    refine⟨vf++args.toList.map a.eval++vc,fun hcl=>?_,by simp only[List.length_append,l1,l2,a1],fun i v y hv hy=>?_⟩
    ·have e1:args.map a.eval=(args.toList.map a.eval).toArray:=by apply Array.ext';simp
     simp only[execOp,ho,resolve,hve,Deferred.ofValue,Sem.run_bind,Sem.run_pure,Result.andThen_ok,invoke]
     rw[run_callFunc hcl]
     simp[e1]
    ·rw[List.getElem?_append] at hv hy
     rw[List.length_append,← l1,← a1,← List.length_append] at hy
     split at hv
     ·rename_i h3
      rw[if_pos h3,List.getElem?_append] at hy
      rw[List.getElem?_append] at hv
      rw[← l1] at hy
      split at hv
      ·rename_i h4
       rw[if_pos h4] at hy
       exact r1 _ _ _ hv hy
      ·rename_i h4
       rw[if_neg h4] at hy
       exact a2 _ _ _ hv hy
     ·rename_i h3
      rw[if_neg h3] at hy
      exact r2 _ _ _ hv hy
  ·exact hh.elim
 ·split at hh
  ·rename_i x t hx ht
   have e1:=args_of hx
   have e2:=types_of ht
   subst e1;subst e2
   unfold isMapE at hh
   split at hh
   ·exact Good.toI (aLenM_good hT ho rfl hh) hnd
   ·exact Good.toI (aLenM_good hT ho rfl hh) hnd
   ·exact Good.toI (aLenM_good hT ho rfl hh) hnd
   ·exact Good.toI (aLen_good hT ho rfl hh) hnd
  ·exact hh.elim
 ·split at hh
  ·rename_i s x t0 t1 hx ht
   have e1:=args_of hx
   have e2:=types_of ht
   subst e1;subst e2
   unfold isArr at hh
   split at hh
   ·exact Good.toI (aAppendV_good hT ho hh) hnd
   ·exact Good.toI (aAppend_good hT ho hh) hnd
  ·exact hh.elim
 ·split at hh
  ·rename_i s x t0 t1 hx ht
   have e1:=args_of hx
   have e2:=types_of ht
   subst e1;subst e2
   unfold isArr at hh
   split at hh
   ·exact Good.toI (aCopyR_good hT ho hh) hnd
   ·exact Good.toI (aCopy_good hT ho hh) hnd
  ·exact hh.elim
 ·split at hh
  ·rename_i x y hx
   have e1:=args_of hx
   subst e1
   exact Good.toI (aMax_good (T:=T) ho hh) hnd
  ·exact hh.elim
 ·split at hh
  ·rename_i x y hx
   have e1:=args_of hx
   subst e1
   exact Good.toI (aMin_good (T:=T) ho hh) hnd
  ·exact hh.elim
 ·exact hh.elim
def partTy(T:Tab)(t i:Nat):Nat:=match T.get t with | some ti=>(bif Nat.beq ti.kind 1 then (match nth ti.flds i with | some x=>x.2.1 | none=>0) else ti.elem) | none=>0
def mElem(T:Tab)(t:Nat):Nat:=match T.get t with | some ti=>ti.elem | none=>0
def aop(P:Program)(T:Tab)(o:Oper)(env:Env)(h:AHp)(K:Kt):Prop:=
 match o.op with
 | .move x=>aMove T o.type x env h K
 | .assign x=>aMove T o.type x env h K
 | .pick c a b=>aPick T o.type c a b env h K
 | .alloc t=>aAlloc T t o.dst h K
 | .box t x=>aBox T t (opv T env t x) o.dst h K
 | .build t ps=>aBuild T t (ps.toList.map fun x=>(x.1,opv T env (partTy T t x.1) x.2)) h K
 | .buildSlice t n ps=>aBuildSlice T t n (ps.toList.map fun x=>(x.1,opv T env (partTy T t 0) x.2)) h K
 | .load t a=>aLoad T t (opv T env 0 a) h K
 | .store t a x=>aStore T t (opv T env 0 a) (opv T env t x) h K
 | .nilCheck x=>aNilCheck (opv T env 0 x) h K
 | .binOp op xt x y yt=>aNilEq P op xt (opv T env xt x) y h K (isAgg2 (opv T env xt x) (opv T env yt y) (aEqS P op xt (opv T env xt x) (opv T env yt y) h K) (aBin T op xt (opv T env xt x) (opv T env yt y) h K))
 | .unOp op xt x=>aUn op (opv T env xt x) h K
 | .convert s d x=>isImm (opv T env s x) (aConv T s d (opv T env s x) h K) (aConvB T s d (opv T env s x) h K)
 | .fieldAddr s x f=>aFieldAddr T s f (opv T env 0 x) h K
 | .field t x f=>aField T t f (opv T env t x) h K
 | .indexAddr t x i=>aIndexAddr T t (opv T env t x) (opv T env 0 i) h K
 | .index t x i=>aIndex T t (opv T env t x) (opv T env 0 i) h K
 | .slice t x lo hi mx=>isPtr (opv T env t x) (aSliceA T t (opv T env t x) (lo.map (opv T env 0)) (hi.map (opv T env 0)) (mx.map (opv T env 0)) h K) (isArr (opv T env t x) (aSliceR T t (opv T env t x) (lo.map (opv T env 0)) (hi.map (opv T env 0)) (mx.map (opv T env 0)) h K) (aSlice T t (opv T env t x) (lo.map (opv T env 0)) (hi.map (opv T env 0)) (mx.map (opv T env 0)) h K))
 | .makeFunc f first caps=>aMakeFunc T f first caps env h K
 | .makeInterface t x=>aMakeIface T t (opv T env t x) h K
 | .extract x i=>aExtract i (opv T env 0 x) h K
 | .call c=>aCallOp P T c o.dst env h K
 | .makeSlice t x y=>aMakeSlice T t (opv T env 0 x) (opv T env 0 y) o.dst h K
 | .lookup t x k ok=>aLookup T t (opv T env t x) (opv T env 0 k) ok h K
 | .mapUpdate t m k v=>aMapSet T t (opv T env t m) (opv T env 0 k) (opv T env (mElem T t) v) h K
 | .insert t m k v=>aMapSet T t (opv T env t m) (opv T env 0 k) (opv T env (mElem T t) v) h K
 | .makeMap t none=>aMakeMap T t o.dst h K
 | .range t x=>aRange T t (opv T env t x) o.dst h K
 | .entry x=>aEntry (opv T env 0 x) h K
 | _=>False
include hT in
theorem aop_good(hh:aop P T o env h K):GoodI P o env h K:=by
 have nd:∀ {op},o.op=op→(∀ c,op≠.defer c)→∀ c,o.op≠.defer c:=fun h1 h2 c h=>h2 c (h1.symm.trans h)
 unfold aop at hh
 split at hh
 ·rename_i ho;exact Good.toI (aMove_good (T:=T) (.inl ho) hh) (nd ho (by nofun))
 ·rename_i ho;exact Good.toI (aMove_good (T:=T) (.inr ho) hh) (nd ho (by nofun))
 ·rename_i ho;exact Good.toI (aPick_good (T:=T) ho hh) (nd ho (by nofun))
 ·rename_i ho;exact Good.toI (aAlloc_good hT ho hh) (nd ho (by nofun))
 ·rename_i ho;exact Good.toI (aBox_good (T:=T) ho hh) (nd ho (by nofun))
 ·rename_i t ps ho;exact Good.toI (aBuild_good hT (it:=partTy T t) ho hh) (nd ho (by nofun))
 ·rename_i ho;exact Good.toI (aBuildSlice_good hT ho hh) (nd ho (by nofun))
 ·rename_i ho;exact Good.toI (aLoad_good hT ho hh) (nd ho (by nofun))
 ·rename_i ho;exact Good.toI (aStore_good hT ho hh) (nd ho (by nofun))
 ·rename_i ho;exact Good.toI (aNilCheck_good (T:=T) ho hh) (nd ho (by nofun))
 ·rename_i ho
  rcases aNilEq_good (T:=T) ho hh with hh | hh
  ·exact Good.toI hh (nd ho (by nofun))
  unfold isAgg2 at hh
  split at hh
  ·exact Good.toI (aEqS_good (T:=T) ho hh) (nd ho (by nofun))
  ·exact Good.toI (aEqS_good (T:=T) ho hh) (nd ho (by nofun))
  ·exact Good.toI (aEqS_good (T:=T) ho hh) (nd ho (by nofun))
  ·exact Good.toI (aBin_good hT ho hh) (nd ho (by nofun))
 ·rename_i ho;exact Good.toI (aUn_good (T:=T) ho hh) (nd ho (by nofun))
 ·rename_i ho
  unfold isImm at hh
  split at hh
  ·exact Good.toI (aConv_good hT ho hh) (nd ho (by nofun))
  ·exact Good.toI (aConvB_good hT ho hh) (nd ho (by nofun))
 ·rename_i ho;exact Good.toI (aFieldAddr_good hT ho hh) (nd ho (by nofun))
 ·rename_i ho;exact Good.toI (aField_good hT ho hh) (nd ho (by nofun))
 ·rename_i ho;exact Good.toI (aIndexAddr_good hT ho hh) (nd ho (by nofun))
 ·rename_i ho;exact Good.toI (aIndex_good hT ho hh) (nd ho (by nofun))
 ·rename_i ho
  unfold isPtr at hh
  split at hh
  ·exact Good.toI (aSliceA_good hT ho hh) (nd ho (by nofun))
  ·exact Good.toI (aSliceA_good hT ho hh) (nd ho (by nofun))
  ·unfold isArr at hh
   split at hh
   ·exact Good.toI (aSliceR_good hT ho hh) (nd ho (by nofun))
   ·exact Good.toI (aSlice_good hT ho hh) (nd ho (by nofun))
 ·rename_i ho;exact Good.toI (aMakeFunc_good (T:=T) ho hh) (nd ho (by nofun))
 ·rename_i ho;exact Good.toI (aMakeIface_good hT ho hh) (nd ho (by nofun))
 ·rename_i ho;exact Good.toI (aExtract_good (T:=T) ho hh) (nd ho (by nofun))
 ·rename_i ho;exact aCallOp_good hT ho hh
 ·rename_i ho;exact Good.toI (aMakeSlice_good hT ho hh) (nd ho (by nofun))
 ·rename_i ho;exact Good.toI (aLookup_good hT ho hh) (nd ho (by nofun))
 ·rename_i ho;exact Good.toI (aMapSet_good hT (.inl ho) hh) (nd ho (by nofun))
 ·rename_i ho;exact Good.toI (aMapSet_good hT (.inr ho) hh) (nd ho (by nofun))
 ·rename_i ho;exact Good.toI (aMakeMap_good hT ho rfl hh) (nd ho (by nofun))
 ·rename_i ho;exact Good.toI (aRange_good hT ho hh) (nd ho (by nofun))
 ·rename_i ho;exact Good.toI (aEntry_good (T:=T) ho hh) (nd ho (by nofun))
 ·exact hh.elim
omit hT in
theorem aop_nodefer(hh:aop P T o env h K):∀ c,o.op≠.defer c:=fun c hc=>by
 unfold aop at hh
 rw[hc] at hh
 exact hh
end
end Go.Ab
