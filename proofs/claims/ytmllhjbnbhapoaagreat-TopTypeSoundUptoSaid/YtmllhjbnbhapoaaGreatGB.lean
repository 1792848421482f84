/- Texts Ab9, AbA, AbM, AbN, AbH, AbI. Conditions: none. -/
import Derived.Test.YtmllhjbnbhapoaaGreatGA
import Derived.Deep.AppendSrc
import Derived.Deep.Upon
import Derived.Laws.MakeOwn
import Derived.ChangeKeysEq
import Derived.MapKept
import Derived.RangeFuncRecord
import Derived.Laws.StructEq
set_option linter.unusedSimpArgs false
set_option linter.unusedVariables false
namespace Go.Ab
open Go Go.RowKit
theorem flat_drop{sz:Nat}{es:List AV}(h:∀ e∈es,e.cells.length=sz)(l:Nat):flat (es.drop l)=(flat es).drop (l*sz):=by
 induction es generalizing l with
 | nil=>simp[flat]
 | cons e r ih=>
  cases l with
  | zero=>simp
  | succ l=>
   rw[List.drop_succ_cons,ih (fun x hx=>h x (by simp[hx]))]
   simp only[flat]
   rw[List.drop_append,List.drop_eq_nil_of_le (as:=e.cells) (by rw[h e (by simp),Nat.succ_mul];omega),List.nil_append,h e (by simp),show(l+1)*sz - sz=l*sz by rw[Nat.succ_mul];omega]
theorem flat_take{sz:Nat}{es:List AV}(h:∀ e∈es,e.cells.length=sz)(l:Nat):flat (es.take l)=(flat es).take (l*sz):=by
 induction es generalizing l with
 | nil=>simp[flat]
 | cons e r ih=>
  cases l with
  | zero=>simp[flat]
  | succ l=>
   rw[List.take_succ_cons]
   simp only[flat]
   rw[ih (fun x hx=>h x (by simp[hx])),List.take_append,h e (by simp),List.take_of_length_le (l:=e.cells) (by rw[h e (by simp),Nat.succ_mul];omega),show(l+1)*sz - sz=l*sz by rw[Nat.succ_mul];omega]
theorem Rep.sub{fz:Fz}{p:Option Addr}{n cap sz:Nat}{es:List AV}(hr:Rep fz (.slice p n cap) (.slice sz es)){l u:Nat}(h1:l≤u)(h2:u≤n){p':Option Addr}{cap':Nat}(hc:u - l≤cap')(hp:u - l=0∨p'=p.map (·.add (l*sz))):
 Rep fz (.slice p' (u - l) cap') (.slice sz ((es.drop l).take (u - l))):=by
 cases hr with
 | slice _ _ _ _ _ vs hn hc0 hm hs o1 hr hl h=>
  have hsd:∀ e∈es.drop l,e.cells.length=sz:=fun e he=>hs e (List.mem_of_mem_drop he)
  have hfl:flat ((es.drop l).take (u - l))=((flat es).drop (l*sz)).take ((u - l)*sz):=by rw[flat_take hsd,flat_drop hs]
  refine .slice p' (u - l) cap' sz _ ((vs.drop (l*sz)).take ((u - l)*sz)) (by simp;omega) hc (by omega) (fun e he=>hsd e (List.mem_of_mem_take he)) ((o1.drop _).take _) (fun i v hv=>?_) (by rw[hfl];simp[hl]) fun i v x hv hx=>?_
  ·rw[List.getElem?_take] at hv
   split at hv
   ·rename_i hi
    rw[List.getElem?_drop] at hv
    obtain⟨b,o,rfl,hz⟩:=hr _ _ hv
    rcases hp with hp | rfl
    ·rw[hp] at hi;simp at hi
    ·exact⟨b,o+l*sz,by simp[Addr.add_mid],by rw[Nat.add_assoc];exact hz⟩
   ·cases hv
  ·rw[hfl,List.getElem?_take] at hx
   rw[List.getElem?_take] at hv
   split at hv
   ·rename_i hi
    rw[if_pos hi] at hx
    rw[List.getElem?_drop] at hv hx
    exact h _ _ _ hv hx
   ·cases hv
theorem Rep.slice_len{fz v sz es}(h:Rep fz v (.slice sz es)):∃ p cap,v=.slice p es.length cap∧es.length≤cap∧es.length≤9223372036854775807∧(∀ e∈es,e.cells.length=sz):=by
 cases h with
 | slice p n cap _ _ vs hn hc hm hs=>subst hn;exact⟨p,cap,rfl,hc,hm,hs⟩
section
variable {P:Program} {T:Tab} (hT:TabOk P T) {o:Oper} {env:Env} {h:AHp} {K:Kt}
def natOf(e:Option EV)(d n:Nat):Prop:=
 match e with
 | none=>n=d
 | some (.p (.imm (.int _ a)))=>a=n
 | _=>False
def aSlice(T:Tab)(ty:Nat)(e:EV)(lo hi mx:Option EV)(h:AHp)(K:Kt):Prop:=
 ogo (T.get ty) fun ti=>bgo (Nat.beq ti.kind 3) (ogo2 (slOf e) fun sz es=>bgo (Nat.beq sz ti.esz) (∃ l u:Nat,natOf lo 0 l∧natOf hi es.length u∧l≤u∧u≤es.length ∧
  match mx,hi with
  | none,_=>K (.p (.slice sz ((es.drop l).take (u - l)))) h nofp
  | some m,some _=>natOf (some m) 0 u∧K (.full sz ((es.drop l).take (u - l))) h nofp
  | _,_=>False) False) False
theorem natOf_val{g H}{v:Option Value}{e:Option EV}{d n:Nat}(hn:natOf e d n)(hv:∀ x y,v=some x→e=some y→ERep g H x y)(hs:v.isSome=e.isSome):(e=none∧v=none∧n=d)∨∃ k,v=some (.int k n):=by
 unfold natOf at hn
 split at hn
 ·exact .inl ⟨rfl,by cases v <;> simp_all,hn⟩
 ·rename_i k a
  cases v with
  | none=>simp at hs
  | some x=>
   have:=(hv x _ rfl rfl).val
   exact .inr ⟨k,by rw[this,hn]⟩
 ·exact hn.elim
include hT in
theorem aSlice_good{ty it:Nat}{x:Operand}{lo hi mx:Option Operand}(ho:o.op=.slice ty x lo hi mx)(hh:aSlice T ty (opv T env ty x) (lo.map (opv T env it)) (hi.map (opv T env it)) (mx.map (opv T env it)) h K):Good P o env h K:=by
 replace hh:=ogo_out hh
 obtain⟨ti,hti,hh⟩:=hh
 obtain⟨inf,d,t1,t2,_,_,_,_,_,_,ts,_⟩:=tiOk_info (hT ty ti hti)
 replace hh:=bgo_outT hh
 obtain⟨hk,hh⟩:=hh
 obtain⟨rfl,he,_⟩:=ts (nbt hk)
 obtain⟨ie,u1,u2,_⟩:=elemOk_info he
 replace hh:=ogo2_out hh
 obtain⟨⟨sz,es⟩,hsl,hh⟩:=hh
 replace hh:=bgo_outT hh
 obtain⟨hsz,l,u,hl,hu,hlu,hun,hh⟩:=hh
 have hsz:sz=ti.esz:=nbt hsz
 dsimp only at hl hu hun hh
 have hops:∀ {g:Gh} {H':Hp} {ρ:Operand→Value},(∀ y∈o.op.operands.toList,∀ ty,ERep g H' (ρ y) (opv T env ty y))→ERep g H' (ρ x) (opv T env ty x)∧(∀ q∈lo,ERep g H' (ρ q) (opv T env it q))∧(∀ q∈hi,ERep g H' (ρ q) (opv T env it q))∧(∀ q∈mx,ERep g H' (ρ q) (opv T env it q)):=fun hr=>by
  refine⟨hr x (by simp[ho,Op.operands]) ty,fun q hq=>hr q ?_ it,fun q hq=>hr q ?_ it,fun q hq=>hr q ?_ it⟩ <;> (simp[ho,Op.operands];simp at hq;subst hq;simp)
 have hopt:∀ {g:Gh} {H':Hp} {ρ:Operand→Value} (a:Option Operand),(∀ q∈a,ERep g H' (ρ q) (opv T env it q))→∀ x y,a.map ρ=some x→a.map (opv T env it)=some y→ERep g H' x y:=fun a ha x y hx hy=>by
  cases a with
  | none=>cases hx
  | some q=>cases hx;cases hy;exact ha q rfl
 have bound:∀ (w:World) (k:IntKind) (y:Nat) (v:Nat) (c:BoundsCode),v≤y→(Instr.sliceBound (.int k (v:Int)) y c).run P w=.ok v w:=fun w k y v c hvy=>by
  have:(0:Int)≤v∧(v:Int)≤y:=by omega
  simp[Instr.sliceBound,asIntOf,this]
 split at hh
 ·rename_i hm
  have hmx:mx=none:=by cases mx with | none=>rfl | some q=>simp at hm
  subst hmx
  refine Good.look (T:=T) [] hh fun g H' ρ w hr _ _=>?_
  obtain⟨r1,r2,r3,_⟩:=hops hr
  obtain⟨p,n,cap,e,hn,hrep⟩:=r1.slOf hsl
  obtain⟨_,_,e',hcap,_,_⟩:=hrep.slice_len
  cases e'
  have hb:(Instr.sliceBounds true es.length cap (lo.map ρ) (hi.map ρ) none).run P w=.ok (l,u,cap) w:=by
   rcases natOf_val hl (hopt lo r2) (by simp) with ⟨_,e1,rfl⟩ | ⟨k1,e1⟩ <;> rcases natOf_val hu (hopt hi r3) (by simp) with ⟨_,e2,rfl⟩ | ⟨k2,e2⟩
   ·simp[Instr.sliceBounds,e1,e2]
   ·simp[Instr.sliceBounds,e1,e2,bound w k2 cap u _ (by omega)]
   ·simp[Instr.sliceBounds,e1,e2,bound w k1 es.length l _ hlu]
   ·simp[Instr.sliceBounds,e1,e2,bound w k2 cap u _ (by omega),bound w k1 u l _ hlu]
  refine⟨.slice (if cap=l then p else p.map (·.add (l*sz))) (u - l) (cap - l),?_,.p _ _ (hrep.sub hlu hun (by omega) ?_)⟩
  ·simp[execOp,ho,Instr.sliceAt,Instr.slice,e,run_underlying t2,hb,sizeOf,typeInfo,u1,u2,hsz]
  ·by_cases hc:cap=l
   ·left;omega
   ·right;rw[if_neg hc]
 ·rename_i m hi' hm hhi
  cases mx with
  | none=>simp at hm
  | some mq=>
   cases hi with
   | none=>simp at hhi
   | some hq=>
    obtain⟨hmu,hh⟩:=hh
    refine Good.look (T:=T) [] hh fun g H' ρ w hr _ _=>?_
    obtain⟨r1,r2,r3,r4⟩:=hops hr
    obtain⟨p,n,cap,e,hn,hrep⟩:=r1.slOf hsl
    obtain⟨_,_,e',hcap,_,_⟩:=hrep.slice_len
    cases e'
    have em:∃ k,ρ mq=.int k u:=by
     have hmu':natOf ((some mq).map (opv T env it)) 0 u:=by rw[hm];exact hmu
     rcases natOf_val hmu' (hopt (some mq) r4) (by simp) with ⟨h0,_,_⟩ | ⟨k,e2⟩
     ·cases h0
     ·exact⟨k,by simpa using e2⟩
    obtain⟨k3,em⟩:=em
    obtain⟨k2,eh⟩:∃ k,ρ hq=.int k u:=by
     rcases natOf_val hu (hopt (some hq) r3) (by simp) with ⟨h0,_,_⟩ | ⟨k,e2⟩
     ·cases h0
     ·exact⟨k,by simpa using e2⟩
    have hb:(Instr.sliceBounds true es.length cap (lo.map ρ) (some (ρ hq)) (some (ρ mq))).run P w=.ok (l,u,u) w:=by
     rcases natOf_val hl (hopt lo r2) (by simp) with ⟨_,e1,rfl⟩ | ⟨k1,e1⟩
     ·simp[Instr.sliceBounds,e1,em,eh,bound w k3 cap u _ (by omega),bound w k2 u u _ (Nat.le_refl _)]
     ·simp[Instr.sliceBounds,e1,em,eh,bound w k3 cap u _ (by omega),bound w k2 u u _ (Nat.le_refl _),bound w k1 u l _ hlu]
    refine⟨.slice (if u=l then p else p.map (·.add (l*sz))) (u - l) (u - l),?_,.full _ _ _ _ (hrep.sub hlu hun (Nat.le_refl _) ?_)⟩
    ·simp[execOp,ho,Instr.sliceAt,Instr.slice,e,run_underlying t2,hb,sizeOf,typeInfo,u1,u2,hsz]
    ·by_cases hc:u=l
     ·left;omega
     ·right;rw[if_neg hc]
 ·exact hh.elim
def fillE(place:Nat→Option (Nat×Nat)):List EV→List (Nat×EV)→Option (List EV)
 | cs,[]=>some cs
 | cs,(i,e)::r=>
  match place i with
  | none=>none
  | some (off,size)=>
   match cellsOf e with
   | none=>none
   | some vs=>bif Nat.beq vs.length size&&Nat.ble (off+size) cs.length then fillE place (setSeg cs off vs) r else none
theorem foldl_set(off:Nat):∀ (l:List Value) (k:Nat) (cells:Array Value),(l.zipIdx k).foldl (fun cs (x:Value×Nat)=>cs.setIfInBounds (off+x.2) x.1) cells=(setSeg cells.toList (off+k) l).toArray
 | [],k,cells=>by simp[setSeg]
 | v::r,k,cells=>by
  rw[List.zipIdx_cons,List.foldl_cons,foldl_set off r (k+1)]
  simp[setSeg,Nat.add_assoc]
def RepL(g:Gh)(H:Hp)(vs:List Value)(es:List EV):Prop:=vs.length=es.length∧Ones vs∧∀ (i:Nat) v x,vs[i]?=some v→es[i]?=some x→ERep g H v x
theorem RepL.seg{g H}{vs:List Value}{es:List EV}(hr:RepL g H vs es){ns:List Value}{fs:List EV}(hn:RepL g H ns fs){off:Nat}(hb:off+ns.length≤vs.length):RepL g H (setSeg vs off ns) (setSeg es off fs):=by
 have e1:=setSeg_eq ns vs off hb
 have e2:=setSeg_eq fs es off (by rw[← hn.1,← hr.1];exact hb)
 refine⟨by rw[setSeg_length,setSeg_length];exact hr.1,fun v hv=>?_,fun i v x hv hx=>?_⟩
 ·rw[e1] at hv
  rcases List.mem_append.1 hv with hv | hv
  ·rcases List.mem_append.1 hv with hv | hv
   ·exact hr.2.1 v (List.mem_of_mem_take hv)
   ·exact hn.2.1 v hv
  ·exact hr.2.1 v (List.mem_of_mem_drop hv)
 ·rw[e1,seg_get hb] at hv
  rw[e2,seg_get (by rw[← hn.1,← hr.1];exact hb),← hn.1] at hx
  split at hv
  ·rename_i hi
   rw[if_pos hi] at hx
   exact hn.2.2 _ _ _ hv hx
  ·rename_i hi
   rw[if_neg hi] at hx
   exact hr.2.2 _ _ _ hv hx
theorem fill_rep{g H}{place:Nat→Option (Nat×Nat)}:∀ {ps:List (Nat×EV)} {qs:List (Nat×Value)} {zs:List Value} {cs cs':List EV},fillE place cs ps=some cs'→RepL g H zs cs→qs.length=ps.length →
 (∀ (i:Nat) a b,qs[i]?=some a→ps[i]?=some b→a.1=b.1∧ERep g H a.2 b.2)→∃ zs',Instr.fill place zs.toArray qs=some (List.toArray zs')∧RepL g H zs' cs'
 | [],qs,zs,cs,cs',hf,hz,hl,_=>by
  simp only[fillE,Option.some.injEq] at hf;subst hf
  have:qs=[]:=by cases qs <;> simp_all
  subst this
  exact⟨zs,rfl,hz⟩
 | (i,e)::r,qs,zs,cs,cs',hf,hz,hl,hq=>by
  cases qs with
  | nil=>simp at hl
  | cons a qr=>
   obtain⟨j,v⟩:=a
   obtain⟨ha,hv⟩:=hq 0 _ _ rfl rfl
   dsimp only at ha hv
   subst ha
   simp only[fillE] at hf
   cases hp:place j with
   | none=>rw[hp] at hf;simp at hf
   | some pl=>
    obtain⟨off,size⟩:=pl
    cases hc:cellsOf e with
    | none=>rw[hp,hc] at hf;simp at hf
    | some vs=>
     rw[hp,hc] at hf
     dsimp only at hf
     cases hb:(Nat.beq vs.length size&&Nat.ble (off+size) cs.length) with
     | false=>rw[hb] at hf;simp at hf
     | true=>
      rw[hb] at hf
      simp only[cond_true] at hf
      rw[Bool.and_eq_true] at hb
      have b1:=nbt hb.1
      have b2:=Nat.le_of_ble_eq_true hb.2
      have hcells:RepL g H v.cells.toList vs:=hv.cellsOf hc
      have hsz:v.cells.size=size:=by have:=hcells.1;simp at this;omega
      obtain⟨zs',h1,h2⟩:=fill_rep (qs:=qr) hf (hz.seg hcells (off:=off) (by rw[hcells.1,hz.1];omega)) (by simpa using hl) (fun i a b ha hb=>hq (i+1) a b (by simpa using ha) (by simpa using hb))
      refine⟨zs',?_,h2⟩
      have hz1:=hz.1
      have hfold:=foldl_set off v.cells.toList 0 zs.toArray
      simp only[Instr.fill,hp]
      rw[if_neg (by simp[hsz];omega)]
      rw[show(Array.foldl (fun cs (x:Value×Nat)=>match x with | (c,j)=>cs.setIfInBounds (off+j) c) zs.toArray v.cells.zipIdx)=(setSeg zs off v.cells.toList).toArray from by
       rw[← Array.foldl_toList,Array.toList_zipIdx];exact hfold]
      exact h1
def placeOf(ti:TI)(i:Nat):Option (Nat×Nat):=
 bif Nat.beq ti.kind 1 then (nth ti.flds i).map fun x=>(x.1,x.2.2) else some (i*ti.esz,ti.esz)
def aBuild(T:Tab)(ty:Nat)(parts:List (Nat×EV))(h:AHp)(K:Kt):Prop:=
 ogo (T.get ty) fun ti=>bgo ti.agg (ogo (fillE (placeOf ti) ti.zero parts) fun cs=>K (.agg cs) h nofp) False
theorem fldsOk_places{P:Program}:∀ {fs:List Field} {l:List (Nat×Nat×Nat)},fldsOk P fs l=true→fs.mapM (fun f=>(P.info? f.type).map fun i=>(f.offset,i.size))=some (l.map fun x=>(x.1,x.2.2))
 | [],[],_=>rfl
 | [],_::_,h=>by simp[fldsOk] at h
 | _::_,[],h=>by simp[fldsOk] at h
 | f::r,(o,t,s)::l,h=>by
  simp only[fldsOk,Bool.and_eq_true] at h
  obtain⟨⟨⟨h1,h2⟩,h3⟩,h4⟩:=h
  cases hq:P.info? f.type with
  | none=>rw[hq] at h3;simp at h3
  | some i=>
   rw[hq] at h3
   simp only[Bool.and_eq_true] at h3
   simp[List.mapM_cons,hq,fldsOk_places h4,nbt h1,nbt h3.1]
include hT in
theorem aBuild_good{ty:Nat}{it:Nat→Nat}{parts:Array (Nat×Operand)}(ho:o.op=.build ty parts)(hh:aBuild T ty (parts.toList.map fun x=>(x.1,opv T env (it x.1) x.2)) h K):Good P o env h K:=by
 replace hh:=ogo_out hh
 obtain⟨ti,hti,hh⟩:=hh
 obtain⟨inf,d,t1,t2,_,_,tz,tr,tst,tar,_⟩:=tiOk_info (hT ty ti hti)
 replace hh:=bgo_outT hh
 obtain⟨ha,hh⟩:=hh
 replace hh:=ogo_out hh
 obtain⟨cs,hcs,hh⟩:=hh
 refine Good.look (T:=T) [] hh fun g H' ρ w hr _ _=>?_
 obtain⟨z,hz,hzr⟩:=zOk_rep (g:=g) (H:=H') tz
 obtain⟨zs',h1,h2⟩:=fill_rep (g:=g) (H:=H') (qs:=parts.toList.map fun x=>(x.1,ρ x.2)) hcs hzr (by simp) (fun i a b ha hb=>by
  rw[List.getElem?_map] at ha hb
  cases hq:parts.toList[i]? with
  | none=>rw[hq] at ha;cases ha
  | some y=>
   rw[hq] at ha hb;cases ha;cases hb
   refine⟨rfl,hr y.2 ?_ (it y.1)⟩
   simp only[ho,Op.operands,List.mem_map]
   exact⟨y,List.mem_of_getElem? hq,rfl⟩)
 have hbuilt:P.built ty (parts.toList.map fun x=>(x.1,ρ x.2))=some zs'.toArray:=by
  unfold Program.built
  rw[t1,t2]
  have hd:d.isRow=true:=tr.trans ha
  unfold TI.agg at ha
  rw[Bool.or_eq_true] at ha
  rcases ha with ha | ha
  ·obtain⟨fs,rfl,hfs⟩:=tst (nbt ha)
   dsimp only
   rw[hz,fldsOk_places hfs]
   dsimp only
   rw[← h1]
   congr 1
   funext i
   simp[placeOf,ha,nth_eq]
  ·obtain⟨rfl,he⟩:=tar (nbt ha)
   obtain⟨ie,u1,u2,_⟩:=elemOk_info he
   dsimp only
   rw[hz,u1]
   dsimp only
   rw[← h1]
   have hk:ti.kind=2:=nbt ha
   have e:(fun i=>some (i*ie.size,ie.size))=placeOf ti:=by
    funext i
    simp only[placeOf,hk,u2];rfl
   rw[e]
 refine⟨.agg zs'.toArray,?_,.agg _ _ h2.2.1 h2.1 h2.2.2⟩
 have e:(parts.map fun x=>(x.1,ρ x.2)).toList=parts.toList.map fun x=>(x.1,ρ x.2):=by simp
 have hrun:=run_build (P:=P) w ty (parts.map fun x=>(x.1,ρ x.2)) zs'.toArray (by rw[e];exact hbuilt)
 simp[execOp,ho,hrun]
def aLen(T:Tab)(ty:Nat)(e:EV)(h:AHp)(K:Kt):Prop:=
 ogo (T.get ty) fun ti=>
  match e with
  | .p (.imm (.string s))=>bgo (Nat.beq ti.kind 4) (K (eint .i64 s.size) h nofp) False
  | .arr _ _ _ n=>bgo (Nat.beq ti.kind 3) (n≤9223372036854775807→K (eint .i64 n) h nofp) False
  | e=>ogo2 (slOf e) fun _ es=>bgo (Nat.beq ti.kind 3) (es.length≤9223372036854775807→K (eint .i64 es.length) h nofp) False
include hT in
theorem aLen_good{ty:Nat}{x:Operand}{rt:Array TypeId}(ho:o.op=.call { callee:=.builtin .len,args:=#[x],argTypes:=rt })(hrt:rt[0]?=some ty)(hh:aLen T ty (opv T env ty x) h K):Good P o env h K:=by
 replace hh:=ogo_out hh
 obtain⟨ti,hti,hh⟩:=hh
 obtain⟨inf,d,t1,t2,_,_,_,_,_,_,ts,tstr,_⟩:=tiOk_info (hT ty ti hti)
 have hxm:x∈o.op.operands.toList:=by simp[ho,Op.operands,Call.operands]
 have run:∀ (ρ:Operand→Value) (w:World) (n:Nat),(Builtin.len_ rt o.type #[ρ x]).run P w=.ok (goInt n) w→(execOp ρ o).run P w=.ok (.value (goInt n)) w:=fun ρ w n hl=>by
  simp[execOp,ho,resolve,invoke,Go.builtin,hl]
 split at hh
 ·rename_i s hx
  replace hh:=bgo_outT hh
  obtain⟨hk,hh⟩:=hh
  have:=tstr (nbt hk)
  subst this
  refine Good.look (T:=T) [] hh fun g H' ρ w hr _ _=>⟨_,run ρ w s.size ?_,.p _ _ (.imm _ rfl)⟩
  have e1:=hr x hxm ty
  rw[hx] at e1
  simp[Builtin.len_,hrt,e1.val,run_underlying t2]
 ·rename_i sz k off n hx
  replace hh:=bgo_outT hh
  obtain⟨hk,hh⟩:=hh
  obtain⟨rfl,_⟩:=ts (nbt hk)
  intro g0 a0 hr0
  have hb:n≤9223372036854775807:=by
   have e1:=opv_rep (T:=T) hr0 (fun _ _=>rfl) hxm ty
   rw[hx] at e1
   obtain⟨_,_,_,_,hb,_⟩:=e1.arr_inv
   exact hb
  refine Good.look (T:=T) [] (hh hb) (fun g H' ρ w hr _ _=>⟨_,run ρ w n ?_,.p _ _ (.imm _ rfl)⟩) g0 a0 hr0
  have e1:=hr x hxm ty
  rw[hx] at e1
  obtain⟨p,cap,e,_⟩:=e1.arr_inv
  simp[Builtin.len_,hrt,e,run_underlying t2]
 ·rename_i e hx1 hx2
  replace hh:=ogo2_out hh
  obtain⟨⟨sz,es⟩,hsl,hh⟩:=hh
  replace hh:=bgo_outT hh
  obtain⟨hk,hh⟩:=hh
  obtain⟨rfl,_⟩:=ts (nbt hk)
  intro g0 a0 hr0
  have hb:es.length≤9223372036854775807:=by
   have e1:=opv_rep (T:=T) hr0 (fun _ _=>rfl) hxm ty
   obtain⟨p,n,cap,_,_,hrep⟩:=e1.slOf hsl
   obtain⟨_,_,_,_,hb,_⟩:=hrep.slice_len
   exact hb
  refine Good.look (T:=T) [] (hh hb) (fun g H' ρ w hr _ _=>⟨_,run ρ w es.length ?_,.p _ _ (.imm _ rfl)⟩) g0 a0 hr0
  have e1:=hr x hxm ty
  obtain⟨p,n,cap,e,hn,_⟩:=e1.slOf hsl
  simp[Builtin.len_,hrt,e,run_underlying t2,hn]
def aMax(x y:EV)(h:AHp)(K:Kt):Prop:=
 match x,y with
 | .p (.imm (.int k a)),.p (.imm (.int _ b))=>K (eint k (if a<b then b else a)) h nofp
 | _,_=>False
def aMin(x y:EV)(h:AHp)(K:Kt):Prop:=
 match x,y with
 | .p (.imm (.int k a)),.p (.imm (.int _ b))=>K (eint k (if b<a then b else a)) h nofp
 | _,_=>False
theorem aMax_good{t1 t2:Nat}{x y:Operand}{rt:Array TypeId}(ho:o.op=.call { callee:=.builtin .max,args:=#[x,y],argTypes:=rt })(hh:aMax (opv T env t1 x) (opv T env t2 y) h K):Good P o env h K:=by
 unfold aMax at hh
 split at hh
 ·rename_i k a k' b hx hy
  refine Good.look (T:=T) [] hh fun g H' ρ w hr _ _=>⟨.int k (if a<b then b else a),?_,.p _ _ (.imm _ rfl)⟩
  have e1:=hr x (by simp[ho,Op.operands,Call.operands]) t1
  have e2:=hr y (by simp[ho,Op.operands,Call.operands]) t2
  rw[hx] at e1;rw[hy] at e2
  simp[execOp,ho,resolve,invoke,Go.builtin,Builtin.max_,Builtin.max2,e1.val,e2.val]
 ·exact hh.elim
theorem aMin_good{t1 t2:Nat}{x y:Operand}{rt:Array TypeId}(ho:o.op=.call { callee:=.builtin .min,args:=#[x,y],argTypes:=rt })(hh:aMin (opv T env t1 x) (opv T env t2 y) h K):Good P o env h K:=by
 unfold aMin at hh
 split at hh
 ·rename_i k a k' b hx hy
  refine Good.look (T:=T) [] hh fun g H' ρ w hr _ _=>⟨.int k (if b<a then b else a),?_,.p _ _ (.imm _ rfl)⟩
  have e1:=hr x (by simp[ho,Op.operands,Call.operands]) t1
  have e2:=hr y (by simp[ho,Op.operands,Call.operands]) t2
  rw[hx] at e1;rw[hy] at e2
  simp[execOp,ho,resolve,invoke,Go.builtin,Builtin.min_,Builtin.min2,e1.val,e2.val]
 ·exact hh.elim
end
theorem WInv.put{g H w}(h:WInv g H w){k:Nat}{o:AObj}{B L M:Nat}(hle:GLe g H (g.name k B L M) (upd H k o))(ho:ObjOk (g.name k B L M) (upd H k o) w k o)
 (hf:∀ b,Bset (g.name k B L M) k o b→∀ j,j≠k→¬ Bset g j (H j) b):WInv (g.name k B L M) (upd H k o) w:=by
 refine⟨h.fz,fun j=>?_,fun i j b h1 h2=>?_⟩
 ·by_cases hj:j=k
  ·subst hj;rw[upd_same];exact ho
  ·rw[upd_ne hj]
   obtain⟨e1,e2,e3⟩:=Gh.name_ne (g:=g) (B:=B) (L:=L) (M:=M) hj
   exact(h.obj j).mono hle e1 e2 e3 (fun _ _=>rfl) fun _ _ _=>rfl
 ·by_cases hi:i=k
  ·by_cases hj:j=k
   ·rw[hi,hj]
   ·subst hi
    rw[upd_same] at h1
    rw[upd_ne hj,Bset.name hj] at h2
    exact absurd h2 (hf b h1 j hj)
  ·by_cases hj:j=k
   ·subst hj
    rw[upd_same] at h2
    rw[upd_ne hi,Bset.name hi] at h1
    exact absurd h1 (hf b h2 i hi)
   ·rw[upd_ne hi,Bset.name hi] at h1
    rw[upd_ne hj,Bset.name hj] at h2
    exact h.inj i j b h1 h2
theorem Fr.put{Γ g H w}(h:Fr Γ g H w){k:Nat}{o:AObj}(hnb:H k=.gone∨∃ m,H k=.tail m)(hgt:∀ m,H k=.tail m→∃ n,o=.tail n∧m<n){B L M:Nat}(hb:∀ b,Bset (g.name k B L M) k o b→Γ.X b∨Γ.w0.heap.size≤b):Fr Γ (g.name k B L M) (upd H k o) w:=by
 refine⟨h.kept,h.fz,h.low,fun j b hj=>?_,fun j t cs hj=>?_,fun j kp es hj=>?_,fun j m hj=>?_⟩
 ·by_cases hjk:j=k
  ·subst hjk;rw[upd_same] at hj;exact hb b hj
  ·rw[upd_ne hjk,Bset.name hjk] at hj;exact h.own j b hj
 ·rcases h.box j t cs hj with h0 | ⟨cs',h1,h2,h3,h4⟩
  ·have hne:j≠k:=fun e=>by rw[e] at h0;rcases hnb with h5 | ⟨m,h5⟩ <;> rw[h5] at h0 <;> cases h0
   exact .inl (by rw[upd_ne hne];exact h0)
  ·have hne:j≠k:=fun e=>by rw[e] at h1;rcases hnb with h5 | ⟨m,h5⟩ <;> rw[h5] at h1 <;> cases h1
   exact .inr ⟨cs',by rw[upd_ne hne];exact h1,h2,(Gh.name_ne hne).1.trans h3,(Gh.name_ne hne).2.2.trans h4⟩
 ·rcases h.map j kp es hj with h0 | ⟨es',h1,h2⟩
  ·have hne:j≠k:=fun e=>by rw[e] at h0;rcases hnb with h5 | ⟨m,h5⟩ <;> rw[h5] at h0 <;> cases h0
   exact .inl (by rw[upd_ne hne];exact h0)
  ·have hne:j≠k:=fun e=>by rw[e] at h1;rcases hnb with h5 | ⟨m,h5⟩ <;> rw[h5] at h1 <;> cases h1
   exact .inr ⟨es',by rw[upd_ne hne];exact h1,(Gh.name_ne hne).1.trans h2⟩
 ·obtain⟨m',h1,h2,h3⟩:=h.tail j m hj
  by_cases hne:j=k
  ·subst hne
   obtain⟨n,h4,h5⟩:=hgt m' h1
   exact⟨n,by rw[upd_same];exact h4,by omega,fun e=>by omega⟩
  ·exact⟨m',by rw[upd_ne hne];exact h1,h2,fun e=>by obtain⟨a,b,c⟩:=h3 e;exact⟨(Gh.name_ne hne).1.trans a,(Gh.name_ne hne).2.1.trans b,(Gh.name_ne hne).2.2.trans c⟩⟩
theorem GLe.retail{g H}{k m m':Nat}(hk:H k=.tail m)(hm:m<m')(B L M:Nat):GLe g H (g.name k B L M) (upd H k (.tail m')):=by
 refine⟨FzLe.refl _,fun j t cs hj=>?_,fun j hj=>?_,fun j n hj=>?_,fun j kp es hj=>?_⟩
 ·have hne:j≠k:=fun e=>by rw[e,hk] at hj;cases hj
  exact .inr ⟨(Gh.name_ne hne).1,(Gh.name_ne hne).2.2,cs,by rw[upd_ne hne];exact hj,rfl⟩
 ·have hne:j≠k:=fun e=>by rw[e,hk] at hj;cases hj
  rw[upd_ne hne];exact hj
 ·by_cases hjk:j=k
  ·subst hjk
   rw[hk] at hj;cases hj
   exact⟨m',by simp,by omega,fun e=>by omega⟩
  ·exact⟨n,by rw[upd_ne hjk];exact hj,Nat.le_refl _,fun _=>Gh.name_ne hjk⟩
 ·have hne:j≠k:=fun e=>by rw[e,hk] at hj;cases hj
  exact .inr ⟨(Gh.name_ne hne).1,es,by rw[upd_ne hne];exact hj⟩
theorem WInv.newRow{g H w}(h:WInv g H w){k:Nat}{w':World}{t:TypeId}{cur:Array Value}(hw:Grew w w' (.cells cur t (0,0)))(L n:Nat)(hL:L≤cur.size)(h1:Ones (cur.toList.take L))
 (hle0:GLe (g.fix w.heap.size fun o=>if o<L then cur[o]? else none) H ((g.fix w.heap.size fun o=>if o<L then cur[o]? else none).name k w.heap.size L cur.size) (upd H k (.tail n))):
 WInv ((g.fix w.heap.size fun o=>if o<L then cur[o]? else none).name k w.heap.size L cur.size) (upd H k (.tail n)) w' ∧
 GLe g H ((g.fix w.heap.size fun o=>if o<L then cur[o]? else none).name k w.heap.size L cur.size) (upd H k (.tail n)):=by
 have h':=h.alloc hw (f:=fun o=>if o<L then cur[o]? else none) (fun o v e=>by
  split at e
  ·rename_i ho
   exact⟨e,h1 v (List.mem_of_getElem? (i:=o) (by rw[List.getElem?_take,if_pos ho];simpa using e))⟩
  ·cases e)
 refine⟨h'.put hle0 ?_ fun b hb j _ hj=>?_,(h.le_fix fun o=>if o<L then cur[o]? else none).trans hle0⟩
 ·intro hlt
  refine⟨cur,t,?_,?_,fun o h1 h2=>?_⟩
  ·rw[Gh.name_blk];exact heap_push_new hw.heap
  ·rw[Gh.name_hi];exact Nat.le_refl _
  ·rw[Gh.name_blk]
   rw[Gh.name_lo] at h1
   rw[Gh.name_fz,Gh.fix_eq,if_neg (by omega)]
 ·have hb:b=w.heap.size:=by simpa[Bset,Gh.name] using hb.2
  have:b<w.heap.size:=h.blk_lt (k:=j) (b:=b) (by
   cases hH:H j with
   | gone=>rw[hH] at hj;exact hj.elim
   | lost=>rw[hH] at hj;exact hj.elim
   | map _ _=>rw[hH] at hj;exact hj
   | ext _=>rw[hH] at hj;exact hj
   | box _ _=>rw[hH] at hj;exact hj
   | tail _=>rw[hH] at hj;exact hj)
  omega
theorem Fr.newRow{Γ g H w}(h:Fr Γ g H w)(hi:WInv g H w){k:Nat}(hnb:H k=.gone∨∃ m,H k=.tail m){w':World}{ob:Obj}(hw:Grew w w' ob)(n:Nat)(hgt:∀ m,H k=.tail m→m<n)(f:Nat→Option Value)(L M:Nat):
 Fr Γ ((g.fix w.heap.size f).name k w.heap.size L M) (upd H k (.tail n)) w':=by
 refine(h.alloc hi hw f).put hnb (fun m hm=>⟨n,rfl,hgt m hm⟩) fun b hb=>.inr ?_
 have:b=w.heap.size:=by simpa[Bset,Gh.name] using hb.2
 rw[this];exact h.kept.size
section
variable {P:Program} (w:World)
theorem run_append_row(t tx ty e:TypeId)(i:TypeInfo)(ht:P.underlying t=some (.slice e))(hi:P.info? e=some i)(b off sLen sCap:Nat)(x:Value)(n:Nat)(news:List Value)(hs:Src P i.size tx x n news w)
 (hroom:sLen+n≤sCap){cur:Array Value}{et:TypeId}(hg:w.heap[b]?=some (.cells cur et (0,0)))(hfit:off+sLen*i.size+news.length≤cur.size):
 (Builtin.append_ #[t,tx] ty #[.slice (some ⟨b,off,none⟩) sLen sCap,x]).run P w=.ok (.slice (some ⟨b,off,none⟩) (sLen+n) sCap)
  (w.setRow b (cur.toList.take (off+sLen*i.size)++news++cur.toList.drop (off+sLen*i.size+news.length)).toArray):=by
 have hst:=run_storeCells_at P b (off+sLen*i.size) et news 0 cur w hg (by simpa using hfit) hs.one
 simp only[Nat.add_zero] at hst
 rcases hs.kind with ⟨e',hk⟩ | hk <;> simp[Builtin.append_,run_underlying ht,run_underlying hk,sizeOf,typeInfo,hi,hs.len,hroom,hs.cells,Addr.add_lit,hst]
theorem Rep.src{fz:Fz}{size:Nat}(h0:0<size){tx e':TypeId}(hk:P.underlying tx=some (.slice e')){v:Value}{es:List AV}(hr:Rep fz v (.slice size es))(hz:∀ b o v,fz b o=some v→w.pk b o=some v):
 ∃ news,Src P size tx v es.length news w∧news.length=(flat es).length∧Ones news∧∀ (i:Nat) u y,news[i]?=some u→(flat es)[i]?=some y→Rep fz u y:=by
 cases hr with
 | slice p n cap _ _ vs hn hc hm hs h1 hrow hl h=>
  have hfl:=flat_length hs
  refine⟨vs,?_,hl,h1,h⟩
  subst hn
  cases p with
  | none=>
   have:vs=[]:=by
    cases vs with
    | nil=>rfl
    | cons v r=>obtain⟨b,o,hp,_⟩:=hrow 0 v rfl;cases hp
   subst this
   have h1:es.length=0:=by
    rw[hfl] at hl
    simp at hl
    have hl:=hl.symm
    rcases Nat.mul_eq_zero.1 hl with h' | h'
    ·exact h'
    ·omega
   rw[h1]
   exact Src.ofNil w hk cap
  | some a=>
   refine Src.ofSlice w hk a es.length cap vs (by omega) (fun j u hj=>?_) h1
   obtain⟨b,o,hp,hzz⟩:=hrow j u hj
   cases hp
   rw[Addr.add_mid]
   exact pk_cell (hz _ _ _ hzz) (h1 u (List.mem_of_getElem? hj))
theorem Rep.olds{fz:Fz}{size:Nat}(h0:0<size){p:Option Addr}{n cap:Nat}{es:List AV}(hr:Rep fz (.slice p n cap) (.slice size es))(hz:∀ b o v,fz b o=some v→w.pk b o=some v):
 ∃ olds,(Builtin.firstCells size n (.slice p n cap)).run P w.drew=.ok olds.toArray w.drew∧olds.length=(flat es).length∧Ones olds∧∀ (i:Nat) u y,olds[i]?=some u→(flat es)[i]?=some y→Rep fz u y:=by
 cases hr with
 | slice _ _ _ _ _ vs hn hc hm hs h1 hrow hl h=>
  have hfl:=flat_length hs
  refine⟨vs,?_,hl,h1,h⟩
  cases p with
  | none=>
   have:vs=[]:=by
    cases vs with
    | nil=>rfl
    | cons v r=>obtain⟨b,o,hp,_⟩:=hrow 0 v rfl;cases hp
   subst this
   simp[Builtin.firstCells]
  | some a=>
   refine run_firstCells_some w.drew size n a n cap vs (by rw[hl,hfl,hn]) (fun j u hj=>?_)
   obtain⟨b,o,hp,hzz⟩:=hrow j u hj
   cases hp
   rw[Addr.add_mid]
   exact pk_cell (hz _ _ _ hzz) (h1 u (List.mem_of_getElem? hj))
end
section
variable {P:Program} {T:Tab} (hT:TabOk P T) {o:Oper} {env:Env} {h:AHp} {K:Kt}
def partsP(sz:Nat):Nat→List (Nat×EV)→Option (List AV)
 | _,[]=>some []
 | k,(i,e)::r=>bif Nat.beq i k then (match toP e with | some x=>bif Nat.beq x.cells.length sz then (partsP sz (k+1) r).map (x::·) else none | none=>none) else none
theorem fill_parts{g H}{sz:Nat}:∀ {ps:List (Nat×EV)} {qs:List (Nat×Value)} {k:Nat} {es:List AV},partsP sz k ps=some es→qs.length=ps.length →
 (∀ (i:Nat) a b,qs[i]?=some a→ps[i]?=some b→a.1=b.1∧ERep g H a.2 b.2)→∀ (pre post:List Value),pre.length=k*sz→post.length=es.length*sz →
 es.length=ps.length∧(∀ e∈es,e.cells.length=sz)∧∃ vs,Instr.fill (fun i=>some (i*sz,sz)) (pre++post).toArray qs=some (pre++vs).toArray∧vs.length=(flat es).length∧Ones vs∧∀ (i:Nat) v x,vs[i]?=some v→(flat es)[i]?=some x→Rep g.fz v x
 | [],qs,k,es,hp,hl,_,pre,post,h1,h2=>by
  simp only[partsP,Option.some.injEq] at hp;subst hp
  have:qs=[]:=by cases qs <;> simp_all
  subst this
  have:post=[]:=by cases post <;> simp_all
  subst this
  exact⟨rfl,by simp,[],rfl,rfl,by simp[Ones],by intro i v x hv;simp at hv⟩
 | (i,e)::r,qs,k,es,hp,hl,hq,pre,post,h1,h2=>by
  cases qs with
  | nil=>simp at hl
  | cons a qr=>
   obtain⟨j,v⟩:=a
   obtain⟨ha,hv⟩:=hq 0 _ _ rfl rfl
   dsimp only at ha hv
   subst ha
   simp only[partsP] at hp
   cases hk:Nat.beq j k with
   | false=>rw[hk] at hp;simp at hp
   | true=>
    have hk:=nbt hk
    subst hk
    cases hx:toP e with
    | none=>rw[hx] at hp;simp at hp
    | some x=>
     rw[hx] at hp
     simp only[Nat.beq_refl,cond_true] at hp
     cases hc:Nat.beq x.cells.length sz with
     | false=>rw[hc] at hp;simp at hp
     | true=>
      rw[hc] at hp
      simp only[cond_true] at hp
      have hc:=nbt hc
      cases hr:partsP sz (j+1) r with
      | none=>rw[hr] at hp;simp at hp
      | some es'=>
       rw[hr] at hp
       simp only[Option.map_some,Option.some.injEq] at hp
       subst hp
       obtain⟨c1,c2,c3⟩:=(toP_rep hx hv).cells
       simp only[List.length_cons,Nat.succ_mul] at h2
       obtain⟨r1,r2,vs,r3,r4,r5,r6⟩:=fill_parts (g:=g) (H:=H) (qs:=qr) hr (by simpa using hl) (fun i a b ha hb=>hq (i+1) a b (by simpa using ha) (by simpa using hb)) (pre++v.cells.toList) (post.drop sz)
        (by rw[List.length_append,c1,hc,h1,Nat.succ_mul]) (by rw[List.length_drop];omega)
       have hsz:v.cells.size=sz:=by simp at c1;omega
       refine⟨by simp[r1],by intro y hy;rcases List.mem_cons.1 hy with rfl | hy;exact hc;exact r2 y hy,v.cells.toList++vs,?_,by simp[flat,r4,c1],?_,fun i u y hu hy=>?_⟩
       ·have hfold:=foldl_set (j*sz) v.cells.toList 0 (pre++post).toArray
        simp only[Instr.fill]
        rw[if_neg (by simp[hsz,h1];omega)]
        rw[show(Array.foldl (fun cs (x:Value×Nat)=>match x with | (c,q)=>cs.setIfInBounds (j*sz+q) c) (pre++post).toArray v.cells.zipIdx)=(setSeg (pre++post) (j*sz) v.cells.toList).toArray from by
         rw[← Array.foldl_toList,Array.toList_zipIdx];exact hfold]
        rw[setSeg_eq _ _ _ (by simp only[List.length_append,c1,hc,h1];omega)]
        rw[show(pre++post).take (j*sz)++v.cells.toList++(pre++post).drop (j*sz+v.cells.toList.length)=(pre++v.cells.toList)++post.drop sz from by
         rw[← h1,List.take_left',List.drop_append,List.drop_eq_nil_of_le (as:=pre) (by omega),List.nil_append,c1,hc,show pre.length+sz - pre.length=sz by omega]
         rfl]
        rw[r3,List.append_assoc]
       ·intro u hu
        rcases List.mem_append.1 hu with hu | hu
        ·exact c2 u hu
        ·exact r5 u hu
       ·simp only[flat] at hy
        rw[List.getElem?_append] at hu hy
        rw[← c1] at hy
        split at hu
        ·rename_i h3
         rw[if_pos h3] at hy
         exact c3 _ _ _ hu hy
        ·rename_i h3
         rw[if_neg h3] at hy
         exact r6 _ _ _ hu hy
def aBuildSlice(T:Tab)(ty n:Nat)(parts:List (Nat×EV))(h:AHp)(K:Kt):Prop:=
 ogo (T.get ty) fun ti=>bgo (Nat.beq ti.kind 3&&(Nat.blt 0 ti.esz&&Nat.ble (n*ti.esz) 16777216)) (ogo (partsP ti.esz 0 parts) fun es=>bgo (Nat.beq es.length n) (K (.full ti.esz es) h nofp) False) False
theorem range_zero_cells(zero:Array Value)(n:Nat):((Array.range n).map (fun x=>zero[x % zero.size]!)).toList.length=n:=by simp
include hT in
theorem aBuildSlice_good{ty it n:Nat}{parts:Array (Nat×Operand)}(ho:o.op=.buildSlice ty n parts)(hh:aBuildSlice T ty n (parts.toList.map fun x=>(x.1,opv T env it x.2)) h K):Good P o env h K:=by
 replace hh:=ogo_out hh
 obtain⟨ti,hti,hh⟩:=hh
 obtain⟨inf,d,t1,t2,_,_,_,_,_,_,ts,_⟩:=tiOk_info (hT ty ti hti)
 replace hh:=bgo_outT hh
 obtain⟨hk,hh⟩:=hh
 simp only[Bool.and_eq_true] at hk
 obtain⟨rfl,he,_⟩:=ts (nbt hk.1)
 have h0:0<ti.esz:=by have:=hk.2.1;simp[Nat.blt] at this;omega
 have hmax:=Nat.le_of_ble_eq_true hk.2.2
 obtain⟨ie,u1,u2,u3,u4⟩:=elemOk_info he
 replace hh:=ogo_out hh
 obtain⟨es,hes,hh⟩:=hh
 replace hh:=bgo_outT hh
 obtain⟨hn,hh⟩:=hh
 have hn:=nbt hn
 refine fun _ _ _=>⟨_,h,[],[],⟨fun _ _=>rfl,fun Γ g a w env' H' ht hH hr hi hf next Q hnext=>?_⟩,hh⟩
 rw[ovr_nil] at hnext
 obtain⟨z,hz,_⟩:=zOk_rep (g:=g) (H:=H') u4
 obtain⟨r1,r2,vs,r3,r4,r5,r6⟩:=fill_parts (g:=g) (H:=H') (qs:=parts.toList.map fun x=>(x.1,a.eval x.2)) hes (by simp) (fun i a' b ha hb=>by
  rw[List.getElem?_map] at ha hb
  cases hq:parts.toList[i]? with
  | none=>rw[hq] at ha;cases ha
  | some y=>
   rw[hq] at ha hb;cases ha;cases hb
   refine⟨rfl,opv_rep hr ht ?_ it⟩
   simp only[ho,Op.operands,List.mem_map]
   exact⟨y,List.mem_of_getElem? hq,rfl⟩) [] ((Array.range (n*ti.esz)).map (fun x=>z.cells[x % z.cells.size]!)).toList (by simp) (by rw[range_zero_cells,hn])
 simp only[List.nil_append] at r3
 have hvl:vs.length=n*ti.esz:=by rw[r4,flat_length r2,hn]
 have hrun:(execOp a.eval o).run P w=.ok (.value (.slice (some ⟨w.heap.size,0,none⟩) n n)) (w.alloc (.cells vs.toArray ti.elem (0,0))):=by
  have hlim:¬ (16777216<n*ti.esz):=by omega
  have e2:(parts.map fun x=>(x.1,a.eval x.2)).toList=parts.toList.map fun x=>(x.1,a.eval x.2):=by simp
  have hfill:Instr.fill (fun i=>some (i*ti.esz,ti.esz)) ((Array.range (n*ti.esz)).map (fun x=>z.cells[x % z.cells.size]!)) (parts.toList.map fun x=>(x.1,a.eval x.2))=some vs.toArray:=by
   rw[← r3]
  by_cases hzero:n*ti.esz=0
  ·have hn0:n=0:=by rcases Nat.mul_eq_zero.1 hzero with h' | h' <;> omega
   have hp0:parts=#[]:=by
    apply Array.ext'
    have:parts.toList.length=0:=by simpa[hn,hn0] using r1.symm
    simpa using this
   have hv0:vs=[]:=by
    have:=hvl;rw[hzero] at this
    cases vs with
    | nil=>rfl
    | cons v r=>simp at this
   have hst:(Instr.buildSlice ty 0 (#[]:Array (Nat×Value))).run P w=.ok (.slice (some ⟨w.heap.size,0,none⟩) 0 0) (w.alloc (.cells #[] ti.elem (0,0))):=by
    simp[Instr.buildSlice,run_underlying t2,sizeOf,typeInfo,u1,u2,Instr.fill,newRow,Array.range_zero']
   rw[hv0,hn0]
   simp[execOp,ho,hp0,hn0,hst]
  ·simp[execOp,ho,Instr.buildSlice,run_underlying t2,sizeOf,typeInfo,zeroValue,u1,u2,hz,hlim,hzero,hfill,newRow]
 unfold Oper.wp
 rw[hrun]
 have hgr:=Grew.alloc w (.cells vs.toArray ti.elem (0,0))
 have hi':=hi.alloc hgr (f:=fun o=>vs[o]?) (fun o v e=>⟨by simpa using e,r5 v (List.mem_of_getElem? e)⟩)
 refine hnext _ _ _ (hi.le_fix _) hi' (hf.alloc hi hgr _) ?_
 refine .full _ _ _ _ (.slice _ n n ti.esz es vs hn.symm (Nat.le_refl _) ?_ r2 r5 (fun i v hv=>⟨w.heap.size,0,rfl,by rw[Gh.fix_eq];simpa using hv⟩) r4 fun i v x hv hx=>(r6 i v x hv hx).mono (hi.le_fix _).fz)
 have:n≤n*ti.esz:=Nat.le_mul_of_pos_right n h0
 omega
theorem append_new{w:World}{fz:Fz}(hz:∀ b o v,fz b o=some v→w.pk b o=some v){t0 t1 ty e e':TypeId}(ht:P.underlying t0=some (.slice e))(hx:P.underlying t1=some (.slice e')){i:TypeInfo}{z:Value}
 (hi:P.info? e=some i)(hzv:i.zero=some z)(h0:0<i.size)(hzs:z.cells.size=i.size){p:Option Addr}{cap:Nat}{es xs:List AV}(hrep:Rep fz (.slice p es.length cap) (.slice i.size es)){vx:Value}(hrx:Rep fz vx (.slice i.size xs))
 (hb1:es.length+xs.length≤140737488355328)(hb2:(es.length+xs.length)*i.bytes≤140737488355328)(hg:cap<es.length+xs.length):
 ∃ (cur:Array Value) (nc:Nat),(Builtin.append_ #[t0,t1] ty #[.slice p es.length cap,vx]).run P w=.ok (.slice (some ⟨w.heap.size,0,none⟩) (es.length+xs.length) nc) (w.drew.alloc (.cells cur e (0,0))) ∧
  cur.size=nc*i.size∧es.length+xs.length≤nc∧Ones (cur.toList.take ((es.length+xs.length)*i.size))∧∀ fz':Fz,FzLe fz fz'→(∀ q v,q<(es.length+xs.length)*i.size→cur[q]?=some v→fz' w.heap.size q=some v)→Rep fz' (.slice (some ⟨w.heap.size,0,none⟩) (es.length+xs.length) nc) (.slice i.size (es++xs)):=by
 obtain⟨olds,ho1,ho2,ho3,ho4⟩:=hrep.olds w h0 hz
 obtain⟨news,hs,hn2,hn3,hn4⟩:=hrx.src w h0 hx hz
 have hsz1:∀ e∈es,e.cells.length=i.size:=by obtain⟨_,_,_,_,_,h⟩:=hrep.slice_len;exact h
 have hsz2:∀ e∈xs,e.cells.length=i.size:=by obtain⟨_,_,_,_,_,h⟩:=hrx.slice_len;exact h
 have hf1:=flat_length hsz1
 have hf2:=flat_length hsz2
 have hrun:=run_append_grow_src w t0 t1 ty e i z ht hi hzv p es.length cap olds ho1 vx xs.length news hs hg (by omega) (growslice_fits hg hb2)
 have hge:=grownCap_ge w (es.length+xs.length) cap e
 refine⟨_,_,hrun,?_,hge,?_,fun fz' hle hfz=>?_⟩
 ·rw[Array.size_append,size_zeroCells,hzs]
  simp only[List.size_toArray,List.length_append,ho2,hn2,hf1,hf2]
  rw[← Nat.add_mul,← Nat.add_mul]
  congr 1
  omega
 ·have hlen:(olds++news).length=(es.length+xs.length)*i.size:=by rw[List.length_append,ho2,hn2,hf1,hf2,Nat.add_mul]
  intro v hv
  rw[Array.toList_append,← hlen,List.take_left] at hv
  rcases List.mem_append.1 hv with hv | hv
  ·exact ho3 v hv
  ·exact hn3 v hv
 ·have hlen:(olds++news).length=(es.length+xs.length)*i.size:=by rw[List.length_append,ho2,hn2,hf1,hf2,Nat.add_mul]
  refine .slice _ _ _ _ (es++xs) (olds++news) (by simp) hge (by omega) (fun y hy=>by rcases List.mem_append.1 hy with hy | hy;exact hsz1 y hy;exact hsz2 y hy) (fun v hv=>by rcases List.mem_append.1 hv with hv | hv;exact ho3 v hv;exact hn3 v hv)
   (fun q v hv=>⟨w.heap.size,0,rfl,?_⟩) (by rw[flat_append,List.length_append,List.length_append,ho2,hn2]) fun q v y hv hy=>?_
  ·have hq:q<(olds++news).length:=by
    rcases Nat.lt_or_ge q (olds++news).length with h' | h'
    ·exact h'
    ·rw[List.getElem?_eq_none h'] at hv;cases hv
   rw[Nat.zero_add]
   refine hfz q v (by omega) ?_
   rw[Array.getElem?_append_left (by simpa using hq)]
   simpa using hv
  ·rw[flat_append,List.getElem?_append] at hy
   rw[List.getElem?_append] at hv
   rw[← ho2] at hy
   split at hv
   ·rename_i h3
    rw[if_pos h3] at hy
    exact(ho4 _ _ _ hv hy).mono hle
   ·rename_i h3
    rw[if_neg h3] at hy
    exact(hn4 _ _ _ hv hy).mono hle
def isGone:AObj→Bool
 | .gone=>true
 | _=>false
def aAppend(T:Tab)(t0 t1:Nat)(s x:EV)(d:Option Tmp)(h:AHp)(K:Kt):Prop:=
 ogo (T.get t0) fun ti=>ogo (T.get t1) fun tx=>bgo (Nat.beq ti.kind 3&&(Nat.beq tx.kind 3&&(Nat.blt 0 ti.esz&&Nat.beq ti.ezero.length ti.esz))) (ogo2 (slOf x) fun xz xl=>bgo (Nat.beq xz ti.esz)
  (match s with
   | .full sz es=>ogo d fun d=>bgo (Nat.beq sz ti.esz&&isGone (hp h d)) (((es.length+xl.length)*ti.ebytes≤140737488355328∧es.length+xl.length≤140737488355328) ∧
    K (.own sz (es++xl) d) ((d,.tail (es.length+xl.length))::h) ([],[d])) False
   | .own sz es k=>bgo (Nat.beq sz ti.esz) (match hp h k with
    | .tail m=>m=es.length∧((es.length+xl.length)*ti.ebytes≤140737488355328∧es.length+xl.length≤140737488355328)∧K (.own sz (es++xl) k) ((k,.tail (es.length+xl.length))::h) ([],[k])
    | _=>False) False
   | _=>False) False) False
theorem zeroCells_sz{z:Value}{ezero:List EV}{oz:Option Value}(h:zOk oz ezero=true)(hz:oz=some z):z.cells.size=ezero.length:=by
 obtain⟨v,hv,h1,_⟩:=zOk_rep (g:=⟨fun _ _=>none,fun _=>0,fun _=>0,fun _=>0,fun _=>False⟩) (H:=fun _=>.gone) h
 rw[hz] at hv;cases hv
 simpa using h1
theorem Rep.app_nil{fz:Fz}{p:Option Addr}{n cap sz:Nat}{es xs:List AV}(h:Rep fz (.slice p n cap) (.slice sz es))(hx:xs=[]):Rep fz (.slice p n cap) (.slice sz (es++xs)):=by subst hx;simpa using h
include hT in
theorem aAppend_good{t0 t1:Nat}{s x:Operand}(ho:o.op=.call { callee:=.builtin .append,args:=#[s,x],argTypes:=#[t0,t1] })
 (hh:aAppend T t0 t1 (opv T env t0 s) (opv T env t1 x) o.dst h K):Good P o env h K:=by
 replace hh:=ogo_out hh
 obtain⟨ti,hti,hh⟩:=hh
 replace hh:=ogo_out hh
 obtain⟨tx,htx,hh⟩:=hh
 obtain⟨_,d,_,t2,_,_,_,_,_,_,ts,_⟩:=tiOk_info (hT t0 ti hti)
 obtain⟨_,dx,_,x2,_,_,_,_,_,_,xs,_⟩:=tiOk_info (hT t1 tx htx)
 replace hh:=bgo_outT hh
 obtain⟨hk,hh⟩:=hh
 simp only[Bool.and_eq_true] at hk
 obtain⟨rfl,he,_⟩:=ts (nbt hk.1)
 obtain⟨rfl,_,_⟩:=xs (nbt hk.2.1)
 have h0:0<ti.esz:=by have:=hk.2.2.1;simp[Nat.blt] at this;omega
 obtain⟨ie,u1,u2,u3,u4⟩:=elemOk_info he
 obtain⟨z,hz,_⟩:=zOk_rep (g:=⟨fun _ _=>none,fun _=>0,fun _=>0,fun _=>0,fun _=>False⟩) (H:=fun _=>.gone) u4
 have hzs:z.cells.size=ti.esz:=(zeroCells_sz u4 hz).trans (nbt hk.2.2.2)
 replace hh:=ogo2_out hh
 obtain⟨⟨sz,xs⟩,hsl,hh⟩:=hh
 replace hh:=bgo_outT hh
 obtain⟨hsz,hh⟩:=hh
 have hsz:sz=ti.esz:=nbt hsz
 subst hsz
 dsimp only at hh
 have hsm:s∈o.op.operands.toList:=by simp[ho,Op.operands,Call.operands]
 have hxm:x∈o.op.operands.toList:=by simp[ho,Op.operands,Call.operands]
 have run:∀ (ρ:Operand→Value) (w w':World) (v:Value),(Builtin.append_ #[t0,t1] o.type #[ρ s,ρ x]).run P w=.ok v w'→(execOp ρ o).run P w=.ok (.value v) w':=fun ρ w w' v hl=>by
  simp[execOp,ho,resolve,invoke,Go.builtin,hl]
 rw[← u2] at h0 hzs hsl hh
 rw[← u3] at hh
 split at hh
 ·rename_i sz2 es hs
  replace hh:=ogo_out hh
  obtain⟨d,hd0,hh⟩:=hh
  replace hh:=bgo_outT hh
  obtain⟨hb,hbd,hh⟩:=hh
  rw[Bool.and_eq_true] at hb
  have hsz2:sz2=ie.size:=nbt hb.1
  subst hsz2
  have hgone:hp h d=.gone:=by
   have:=hb.2
   cases hq:hp h d <;> rw[hq] at this <;> first | rfl | (simp[isGone] at this)
  refine fun _ _ _=>⟨_,_,[],[d],⟨fun j hj=>?_,fun Γ g a w env' H' ht hH hr hi hf next Q hn=>?_⟩,hh⟩
  ·have hjk:j≠d:=by simpa using hj
   rw[hp_cons,if_neg hjk]
  ·have hdd:H' d=.gone:=(hH d (.inr (by simp))).trans hgone
   have hH2:ovr [d] (hp ((d,.tail (es.length+xs.length))::h)) H'=upd H' d (.tail (es.length+xs.length)):=by rw[ovr_one,hp_cons,if_pos rfl]
   rw[hH2] at hn
   have rs:=opv_rep (T:=T) hr ht hsm t0
   have rx:=opv_rep (T:=T) hr ht hxm t1
   rw[hs] at rs
   obtain⟨px,nx,cx,ex,hnx,hrx⟩:=rx.slOf hsl
   obtain⟨p,n,es',hn',hrep⟩:∃ p n,∃ _:n=es.length,a.eval s=.slice p n n∧Rep g.fz (.slice p n n) (.slice ie.size es):=by
    generalize a.eval s=vs at rs
    cases rs with
    | full p n _ _ h=>obtain⟨p',c',e,_⟩:=h.slice_len;cases e;exact⟨_,_,rfl,rfl,h⟩
   subst es'
   unfold Oper.wp
   by_cases hx0:xs.length=0
   ·have hxn:xs=[]:=List.eq_nil_of_length_eq_zero hx0
    have hsrc:∃ news,Src P ie.size t1 (a.eval x) xs.length news w:=by obtain⟨news,hs,_⟩:=hrx.src w h0 x2 hi.fz;rw[← ex] at hs;exact⟨news,hs⟩
    obtain⟨news,hsrc⟩:=hsrc
    have hnews:news=[]:=by have:=hsrc.newsLen;rw[hx0] at this;simpa using this
    rw[hx0,hnews] at hsrc
    have hrun:=run_append_nothing w t0 t1 o.type ti.elem ie t2 u1 p es.length es.length (Nat.le_refl _) (a.eval x) hsrc
    rw[← hn'] at hrun
    rw[run _ _ _ _ hrun]
    have hle:=GLe.name (g:=g) hdd (.tail (es.length+xs.length)) 0 0 0
    refine hn _ (g.name d 0 0 0) w hle (hi.add hdd (fun hlt=>?_) fun b hb=>?_) (hf.add hdd fun b hb=>?_) ?_
    ·simp[Gh.name] at hlt
    ·simp[Bset,Gh.name] at hb
    ·simp[Bset,Gh.name] at hb
    ·rw[hn']
     exact .own p es.length es.length ie.size _ d (es.length+xs.length) (hrep.app_nil hxn) (by simp) (by omega) fun _=>.inl rfl
   ·obtain⟨cur,nc,hrun,c1,c2,c4,c3⟩:=append_new (P:=P) (ty:=o.type) hi.fz t2 x2 u1 hz h0 hzs hrep (ex▸hrx) hbd.2 hbd.1 (by omega)
    rw[← hn'] at hrun
    rw[run _ _ _ _ hrun]
    have hle0:=GLe.name (g:=g.fix w.heap.size fun q=>if q<(es.length+xs.length)*ie.size then cur[q]? else none) hdd (.tail (es.length+xs.length)) w.heap.size ((es.length+xs.length)*ie.size) cur.size
    obtain⟨hw,hle⟩:=hi.newRow (k:=d) (Grew.drew_alloc w (.cells cur ti.elem (0,0))) ((es.length+xs.length)*ie.size) (es.length+xs.length) (by rw[c1];exact Nat.mul_le_mul_right _ c2) c4 hle0
    refine hn _ _ _ hle hw (hf.newRow hi (by first | exact .inl hdd | exact .inr ⟨_,hdd⟩) (Grew.drew_alloc w _) _ (fun m hm=>by rw[hdd] at hm;cases hm) _ _ _) (.own _ _ _ _ _ d (es.length+xs.length) (c3 _ hle.fz fun q v hq hv=>?_) (by simp) (Nat.le_refl _) fun _=>.inr ⟨0,?_,?_,?_⟩)
    ·rw[Gh.name_fz,Gh.fix_eq,if_pos hq];exact hv
    ·rw[Gh.name_blk]
    ·rw[Gh.name_lo,Nat.zero_add]
    ·rw[Gh.name_hi,Nat.zero_add,c1]
 ·rename_i sz2 es k hs
  replace hh:=bgo_outT hh
  obtain⟨hb,hh⟩:=hh
  have hsz2:sz2=ie.size:=nbt hb
  subst hsz2
  split at hh
  ·rename_i m hm
   obtain⟨rfl,hbd,hh⟩:=hh
   refine fun _ _ _=>⟨_,_,[],[k],⟨fun j hj=>?_,fun Γ g a w env' H' ht hH hr hi hf next Q hn=>?_⟩,hh⟩
   ·have hjk:j≠k:=by simpa using hj
    rw[hp_cons,if_neg hjk]
   ·have hdd:H' k=.tail es.length:=(hH k (.inr (by simp))).trans hm
    have hH2:ovr [k] (hp ((k,.tail (es.length+xs.length))::h)) H'=upd H' k (.tail (es.length+xs.length)):=by rw[ovr_one,hp_cons,if_pos rfl]
    rw[hH2] at hn
    have rs:=opv_rep (T:=T) hr ht hsm t0
    have rx:=opv_rep (T:=T) hr ht hxm t1
    rw[hs] at rs
    obtain⟨px,nx,cx,ex,hnx,hrx⟩:=rx.slOf hsl
    obtain⟨p,cap,hn',hrep,hroom⟩:∃ p cap,a.eval s=.slice p es.length cap∧Rep g.fz (.slice p es.length cap) (.slice ie.size es)∧(cap=es.length∨∃ o,p=some ⟨g.blk k,o,none⟩∧o+es.length*ie.size=g.lo k∧o+cap*ie.size=g.hi k):=by
     generalize a.eval s=vs at rs
     cases rs with
     | own p n cap _ _ _ m h h1 h2 h3=>
      obtain⟨p',c',e,_⟩:=h.slice_len;cases e
      rw[hdd] at h1;cases h1
      exact⟨_,_,rfl,h,h3 rfl⟩
    obtain⟨_,_,ecap,hcap,_,hszs⟩:=hrep.slice_len
    cases ecap
    unfold Oper.wp
    have hsrc:∃ news,Src P ie.size t1 (a.eval x) xs.length news w∧news.length=(flat xs).length∧Ones news∧∀ (i:Nat) u y,news[i]?=some u→(flat xs)[i]?=some y→Rep g.fz u y:=by
     rw[ex];exact hrx.src w h0 x2 hi.fz
    obtain⟨news,hsrc,n1,n2,n3⟩:=hsrc
    have hszx:∀ e∈xs,e.cells.length=ie.size:=by obtain⟨_,_,_,_,_,h⟩:=hrx.slice_len;exact h
    have hnl:news.length=xs.length*ie.size:=by rw[n1,flat_length hszx]
    by_cases hx0:xs.length=0
    ·have hxn:xs=[]:=List.eq_nil_of_length_eq_zero hx0
     have hnews:news=[]:=by rw[hx0] at hnl;simpa using hnl
     rw[hx0,hnews] at hsrc
     have hrun:=run_append_nothing w t0 t1 o.type ti.elem ie t2 u1 p es.length cap hcap (a.eval x) hsrc
     rw[← hn'] at hrun
     rw[run _ _ _ _ hrun]
     have hHid:upd H' k (.tail (es.length+xs.length))=H':=by
      funext j
      by_cases hj:j=k
      ·subst hj;rw[upd_same,hdd,hx0];rfl
      ·rw[upd_ne hj]
     rw[hHid] at hn
     refine hn _ g w (GLe.refl _ _) hi hf ?_
     rw[hn']
     exact .own p es.length cap ie.size _ k _ (hrep.app_nil hxn) hdd (Nat.le_refl _) fun _=>hroom
    ·by_cases hroom2:es.length+xs.length≤cap
     ·rcases hroom with hroom | ⟨off,rfl,hlo,hhi⟩
      ·omega
      ·have hmul:es.length*ie.size+xs.length*ie.size≤cap*ie.size:=by rw[← Nat.add_mul];exact Nat.mul_le_mul_right _ hroom2
       have hpos:0<xs.length*ie.size:=Nat.mul_pos (by omega) h0
       have hlt:g.lo k<g.hi k:=by omega
       have hob:=hi.obj k
       rw[hdd] at hob
       obtain⟨cur,et,hcur,hcs,_⟩:=hob hlt
       have hrun:=run_append_row w t0 t1 o.type ti.elem ie t2 u1 (g.blk k) off es.length cap (a.eval x) xs.length news hsrc hroom2 hcur (by omega)
       rw[← hn',hlo] at hrun
       rw[run _ _ _ _ hrun]
       obtain⟨hw,hle⟩:=hi.grow (q:=xs.length) hdd hlt hcur (vs:=news) (by omega) n2 (fun _=>by omega)
       refine hn _ _ _ hle hw (hf.grow hi hdd hlt (by omega) _ (by omega)) ?_
       have hrep':Rep (g.grow k news).fz (.slice (some ⟨g.blk k,off,none⟩) (es.length+xs.length) cap) (.slice ie.size (es++xs)):=by
        cases hrep with
        | slice _ _ _ _ _ vs hn0 hc0 hm0 hs0 o1 hr0 hl0 h0'=>
         refine .slice _ _ _ _ (es++xs) (vs++news) (by simp) hroom2 (by omega) (fun y hy=>by rcases List.mem_append.1 hy with hy | hy;exact hszs y hy;exact hszx y hy)
          (fun v hv=>by rcases List.mem_append.1 hv with hv | hv;exact o1 v hv;exact n2 v hv) (fun q v hv=>⟨g.blk k,off,rfl,?_⟩) (by rw[flat_append,List.length_append,List.length_append,hl0,n1]) fun q v y hv hy=>?_
         ·rw[List.getElem?_append] at hv
          split at hv
          ·obtain⟨b',o',e',hz'⟩:=hr0 q v hv
           cases e'
           exact hle.fz _ _ _ hz'
          ·rename_i h3
           have hvl:vs.length=es.length*ie.size:=by rw[hl0,flat_length hszs]
           have hq:q - vs.length<news.length:=by
            rcases Nat.lt_or_ge (q - vs.length) news.length with h' | h'
            ·exact h'
            ·rw[List.getElem?_eq_none h'] at hv;cases hv
           show(if _ then _ else _)=_
           rw[if_pos ⟨rfl,by omega,by omega⟩,← hv]
           congr 1
           omega
         ·rw[flat_append,List.getElem?_append] at hy
          rw[List.getElem?_append] at hv
          rw[← hl0] at hy
          split at hv
          ·rename_i h3
           rw[if_pos h3] at hy
           exact(h0' _ _ _ hv hy).mono hle.fz
          ·rename_i h3
           rw[if_neg h3] at hy
           exact(n3 _ _ _ hv hy).mono hle.fz
       refine .own _ _ _ _ _ k (es.length+xs.length) hrep' (by simp) (Nat.le_refl _) fun _=>.inr ⟨off,rfl,?_,?_⟩
       ·simp only[Gh.grow,upd_same]
        rw[hnl,Nat.add_mul];omega
       ·exact hhi
     ·obtain⟨cur,nc,hrun,c1,c2,c4,c3⟩:=append_new (P:=P) (ty:=o.type) hi.fz t2 x2 u1 hz h0 hzs hrep (ex▸hrx) hbd.2 hbd.1 (by omega)
      rw[← hn'] at hrun
      rw[run _ _ _ _ hrun]
      have hle0:=GLe.retail (g:=g.fix w.heap.size fun q=>if q<(es.length+xs.length)*ie.size then cur[q]? else none) hdd (m':=es.length+xs.length) (by omega) w.heap.size ((es.length+xs.length)*ie.size) cur.size
      obtain⟨hw,hle⟩:=hi.newRow (k:=k) (Grew.drew_alloc w (.cells cur ti.elem (0,0))) ((es.length+xs.length)*ie.size) (es.length+xs.length) (by rw[c1];exact Nat.mul_le_mul_right _ c2) c4 hle0
      refine hn _ _ _ hle hw (hf.newRow hi (by first | exact .inl hdd | exact .inr ⟨_,hdd⟩) (Grew.drew_alloc w _) _ (fun m hm=>by rw[hdd] at hm;cases hm;omega) _ _ _) (.own _ _ _ _ _ k (es.length+xs.length) (c3 _ hle.fz fun q v hq hv=>?_) (by simp) (Nat.le_refl _) fun _=>.inr ⟨0,?_,?_,?_⟩)
      ·rw[Gh.name_fz,Gh.fix_eq,if_pos hq];exact hv
      ·rw[Gh.name_blk]
      ·rw[Gh.name_lo,Nat.zero_add]
      ·rw[Gh.name_hi,Nat.zero_add,c1]
  ·exact hh.elim
 ·exact hh.elim
end
def rep{α:Type}:Nat→List α→List α
 | 0,_=>[]
 | n+1,z=>z++rep n z
theorem rep_length{α:Type}(z:List α):∀ n,(rep n z).length=n*z.length
 | 0=>by simp[rep]
 | n+1=>by simp[rep,rep_length z n,Nat.succ_mul];omega
theorem rep_get{α:Type}(z:List α):∀ n i,i<n*z.length→(rep n z)[i]?=z[i % z.length]?
 | 0,i,h=>by simp at h
 | n+1,i,h=>by
  rw[rep]
  by_cases hi:i<z.length
  ·rw[List.getElem?_append_left hi,Nat.mod_eq_of_lt hi]
  ·rw[List.getElem?_append_right (by omega),rep_get z n (i - z.length) (by rw[Nat.succ_mul] at h;omega),← Nat.mod_eq_sub_mod (by omega)]
inductive AMake(ti:TI)(l c:EV)(d:Tmp)(h:AHp)(K:Kt):Prop
 | own (n:Nat) (hl:l=eint .i64 0) (hc:c=eint .i64 n) (hb:ti.ebytes*n≤281474976710656) (hn:n≤140737488355328) (hk:K (.own ti.esz [] d) ((d,.tail 0)::h) ([],[d]))
 | arr (n:Nat) (hl:l=eint .i64 n) (hc:c=eint .i64 n) (hb:ti.ebytes*n≤281474976710656) (hn:n≤140737488355328) (hk:K (.arr ti.esz d 0 n) ((d,.box ti.elem (rep n ti.ezero))::h) ([],[d]))
 | vec (n:Nat) (hl:l=eint .i64 0) (hc:c=eint .i64 n) (hb:ti.ebytes*n≤281474976710656) (hn:n≤140737488355328) (hk:K (.arr ti.esz d 0 0) ((d,.box ti.elem [])::h) ([],[d]))
def aMakeSlice(T:Tab)(t:Nat)(l c:EV)(d:Option Tmp)(h:AHp)(K:Kt):Prop:=
 ogo (T.get t) fun ti=>bgo (Nat.beq ti.kind 3&&(Nat.beq ti.ezero.length ti.esz&&Nat.blt 0 ti.esz)) (ogo d fun d=>match hp h d with | .gone=>AMake ti l c d h K | _=>False) False
section
variable {P:Program} {T:Tab} (hT:TabOk P T) {o:Oper} {env:Env} {h:AHp} {K:Kt}
include hT in
theorem aMakeSlice_good{t:Nat}{x y:Operand}(ho:o.op=.makeSlice t x y)(hh:aMakeSlice T t (opv T env 0 x) (opv T env 0 y) o.dst h K):Good P o env h K:=by
 obtain⟨ti,hti,hh⟩:=ogo_out hh
 obtain⟨hk3,hh⟩:=bgo_outT hh
 obtain⟨d,hd0,hh⟩:=ogo_out hh
 rw[Bool.and_eq_true,Bool.and_eq_true] at hk3
 obtain⟨hk3,hsz,hez⟩:=hk3
 have hez:0<ti.esz:=by simp[Nat.blt] at hez;omega
 replace hk3:=nbt hk3
 replace hsz:=nbt hsz
 obtain⟨inf,de,t1,t2,t3,_,t5,_,_,_,t9,_⟩:=tiOk_info (hT t ti hti)
 obtain⟨rfl,t10,t11⟩:=t9 hk3
 obtain⟨ie,e1,e2,e3,e4⟩:=elemOk_info t10
 split at hh
 ·rename_i hd
  have hxy:∀ {g:Gh} {H':Hp} {a:Act} {env':Nat→EV},(∀ t∈opTmps o.op,env' t=lk env t)→(∀ t,ERep g H' (a.tmps.getD t undef) (env' t))→∀ {n m:Nat},opv T env 0 x=eint .i64 (n:Nat)→opv T env 0 y=eint .i64 (m:Nat)→a.eval x=.int .i64 n∧a.eval y=.int .i64 m:=fun {g H' a env'} ht hr {n m} hx hy=>by
   have h1:=opv_rep (T:=T) hr ht (y:=x) (by simp[ho,Op.operands]) 0
   have h2:=opv_rep (T:=T) hr ht (y:=y) (by simp[ho,Op.operands]) 0
   rw[hx] at h1;rw[hy] at h2
   exact⟨h1.val,h2.val⟩
  have hrun:∀ {g:Gh} {H':Hp} {a:Act} {env':Nat→EV} (w:World),(∀ t∈opTmps o.op,env' t=lk env t)→(∀ t,ERep g H' (a.tmps.getD t undef) (env' t))→∀ {n m:Nat},opv T env 0 x=eint .i64 (n:Nat)→opv T env 0 y=eint .i64 (m:Nat)→n≤m→ti.ebytes*m≤281474976710656→m≤140737488355328 →
   ∃ z:Value,ie.zero=some z∧(execOp a.eval o).run P w=.ok (.value (.slice (some ⟨w.heap.size,0,none⟩) n m)) (w.alloc (.cells (madeCells z.cells (m*ti.esz)) ti.elem))∧z.cells.toList.length=ti.ezero.length∧Ones z.cells.toList∧∀ (i:Nat) u x,z.cells.toList[i]?=some u→ti.ezero[i]?=some x→ERep g H' u x:=fun {g H' a env'} w ht hr {n m} hx hy hnm hb hm=>by
   obtain⟨z,hz,z1,z2,z3⟩:=zOk_rep (g:=g) (H:=H') e4
   obtain⟨h1,h2⟩:=hxy ht hr hx hy
   refine⟨z,hz,?_,z1,z2,z3⟩
   have hb':(ie.bytes:Int)*(m:Int)≤281474976710656:=by
    have:((ti.ebytes*m:Nat):Int)≤281474976710656:=by omega
    rw[e3];rwa [Int.natCast_mul] at this
   have:=run_make (P:=P) w t ti.elem ie z t2 e1 hz .i64 .i64 n m (by omega) (by omega) hb' (by omega)
   simp only[Int.toNat_natCast,e2] at this
   simp[execOp,ho,h1,h2,this]
  cases hh with
  | own n hl hc hb hn hk=>
   refine fun _ _ _=>⟨_,_,[],[d],⟨fun j hj=>?_,fun Γ g a w env' H' ht hH hr hi hf next Q hnx=>?_⟩,hk⟩
   ·have hjk:j≠d:=by simpa using hj
    rw[hp_cons,if_neg hjk]
   ·have hdd:H' d=.gone:=(hH d (.inr (by simp))).trans hd
    obtain⟨z,hz,hrn,_⟩:=hrun (g:=g) (H':=H') w ht hr (n:=0) (m:=n) hl hc (by omega) hb hn
    have hH2:ovr [d] (hp ((d,.tail 0)::h)) H'=upd H' d (.tail 0):=by rw[ovr_one,hp_cons,if_pos rfl]
    rw[hH2] at hnx
    obtain⟨hw,hle⟩:=hi.newTail hdd (Grew.alloc w (.cells (madeCells z.cells (n*ti.esz)) ti.elem (0,0))) 0 0 (Nat.zero_le _) (by simp[Ones])
    have hv:=hnx (.slice (some ⟨w.heap.size,0,none⟩) 0 n) _ _ hle hw (hf.newBox hi hdd (Grew.alloc w _) _ _ _ _) (.own _ _ _ _ _ d 0
     (.slice _ 0 n _ [] [] rfl (Nat.zero_le _) (by omega) (by simp) (by simp[Ones]) (by intro i v hv;simp at hv) (by simp[Ab.flat]) (by intro i v x hv;simp at hv)) (by simp) (Nat.le_refl _) fun _=>.inr ⟨0,?_,?_,?_⟩)
    ·unfold Oper.wp
     rw[hrn]
     exact hv
    ·rw[Gh.name_blk]
    ·rw[Gh.name_lo];simp
    ·rw[Gh.name_hi];simp[size_madeCells]
  | arr n hl hc hb hn hk=>
   refine fun _ _ _=>⟨_,_,[],[d],⟨fun j hj=>?_,fun Γ g a w env' H' ht hH hr hi hf next Q hnx=>?_⟩,hk⟩
   ·have hjk:j≠d:=by simpa using hj
    rw[hp_cons,if_neg hjk]
   ·have hdd:H' d=.gone:=(hH d (.inr (by simp))).trans hd
    obtain⟨z,hz,hrn,z1,z2,z3⟩:=hrun (g:=g) (H':=H') w ht hr (n:=n) (m:=n) hl hc (by omega) hb hn
    have hH2:ovr [d] (hp ((d,.box ti.elem (rep n ti.ezero))::h)) H'=upd H' d (.box ti.elem (rep n ti.ezero)):=by rw[ovr_one,hp_cons,if_pos rfl]
    rw[hH2] at hnx
    have hlen:(madeCells z.cells (n*ti.esz)).toList.length=(rep n ti.ezero).length:=by rw[rep_length,hsz];simp[size_madeCells]
    have hget:∀ i,i<n*ti.esz→(madeCells z.cells (n*ti.esz)).toList[i]?=z.cells.toList[i % ti.esz]?:=fun i hi=>by
     have hz':z.cells.size=ti.esz:=by rw[← hsz,← z1,Array.length_toList]
     have h0:0<ti.esz:=by
      rcases Nat.eq_zero_or_pos ti.esz with h0 | h0
      ·rw[h0] at hi;omega
      ·exact h0
     have hm:i % ti.esz<z.cells.size:=by rw[hz'];exact Nat.mod_lt _ h0
     simp[madeCells,hi,hz',hm,getElem!_pos,Nat.mod_lt _ h0]
    have hone:Ones (madeCells z.cells (n*ti.esz)).toList:=fun v hv=>by
     obtain⟨i,hi,rfl⟩:=List.mem_iff_getElem.1 hv
     have hi':i<n*ti.esz:=by simpa[size_madeCells] using hi
     have:=hget i hi'
     rw[List.getElem?_eq_getElem hi] at this
     exact z2 _ (List.mem_of_getElem? this.symm)
    have hcell:∀ (i:Nat) v x,(madeCells z.cells (n*ti.esz)).toList[i]?=some v→(rep n ti.ezero)[i]?=some x→ERep g H' v x:=fun i v x hv hx=>by
     have hi':i<n*ti.esz:=by
      rcases Nat.lt_or_ge i (n*ti.esz) with h' | h'
      ·exact h'
      ·rw[List.getElem?_eq_none (by simpa[size_madeCells] using h')] at hv;cases hv
     rw[hget i hi'] at hv
     rw[rep_get _ _ _ (by rw[hsz];exact hi'),hsz] at hx
     exact z3 _ v x hv hx
    obtain⟨hw,hle⟩:=hi.newBox hdd (Grew.alloc w (.cells (madeCells z.cells (n*ti.esz)).toList.toArray ti.elem (0,0))) (Nat.le_of_eq hlen.symm) hone hcell
    have hv:=hnx (.slice (some ⟨w.heap.size,0,none⟩) n n) _ _ hle hw (hf.newBox hi hdd (Grew.alloc w _) _ _ _ _) (by
     refine .arr _ ti.esz d 0 n n (Nat.le_refl _) (by omega) (fun _=>⟨_,rfl⟩) (.inr ⟨ti.elem,rep n ti.ezero,by simp,by rw[rep_length,hsz];omega,?_⟩)
     rw[Gh.name_hi,Gh.name_blk,hlen,rep_length,hsz]
     rcases Nat.eq_zero_or_pos (n*ti.esz) with h0 | h0
     ·refine .inr ⟨h0,?_⟩
      rcases Nat.mul_eq_zero.1 h0 with h1 | h1
      ·exact h1
      ·omega
     ·exact .inl ⟨h0,rfl,by omega⟩)
    unfold Oper.wp
    rw[hrn]
    simp only[Array.toArray_toList] at hv
    exact hv
  | vec n hl hc hb hn hk=>
   refine fun _ _ _=>⟨_,_,[],[d],⟨fun j hj=>?_,fun Γ g a w env' H' ht hH hr hi hf next Q hnx=>?_⟩,hk⟩
   ·have hjk:j≠d:=by simpa using hj
    rw[hp_cons,if_neg hjk]
   ·have hdd:H' d=.gone:=(hH d (.inr (by simp))).trans hd
    obtain⟨z,hz,hrn,z1,z2,z3⟩:=hrun (g:=g) (H':=H') w ht hr (n:=0) (m:=n) hl hc (by omega) hb hn
    have hH2:ovr [d] (hp ((d,.box ti.elem [])::h)) H'=upd H' d (.box ti.elem []):=by rw[ovr_one,hp_cons,if_pos rfl]
    rw[hH2] at hnx
    have hlen:(madeCells z.cells (n*ti.esz)).toList.length=n*ti.esz:=by simp[size_madeCells]
    have hget:∀ i,i<n*ti.esz→(madeCells z.cells (n*ti.esz)).toList[i]?=z.cells.toList[i % ti.esz]?:=fun i hi=>by
     have hz':z.cells.size=ti.esz:=by rw[← hsz,← z1,Array.length_toList]
     have hm:i % ti.esz<z.cells.size:=by rw[hz'];exact Nat.mod_lt _ hez
     simp[madeCells,hi,hz',hm,getElem!_pos,Nat.mod_lt _ hez]
    have hone:Ones (madeCells z.cells (n*ti.esz)).toList:=fun v hv=>by
     obtain⟨i,hi,rfl⟩:=List.mem_iff_getElem.1 hv
     have hi':i<n*ti.esz:=by simpa[size_madeCells] using hi
     have:=hget i hi'
     rw[List.getElem?_eq_getElem hi] at this
     exact z2 _ (List.mem_of_getElem? this.symm)
    obtain⟨hw,hle⟩:=hi.newBox (cs:=[]) hdd (Grew.alloc w (.cells (madeCells z.cells (n*ti.esz)).toList.toArray ti.elem (0,0))) (Nat.zero_le _) hone (fun i v x _ hx=>by simp at hx)
    have hv:=hnx (.slice (some ⟨w.heap.size,0,none⟩) 0 n) _ _ hle hw (hf.newBox hi hdd (Grew.alloc w _) _ _ _ _) (by
     refine .arr _ ti.esz d 0 0 n (Nat.zero_le _) (by omega) (fun h=>absurd rfl h) (.inr ⟨ti.elem,[],by simp,by simp,?_⟩)
     rw[Gh.name_hi,Gh.name_blk,hlen]
     rcases Nat.eq_zero_or_pos (n*ti.esz) with h0 | h0
     ·refine .inr ⟨h0,?_⟩
      rcases Nat.mul_eq_zero.1 h0 with h1 | h1
      ·exact h1
      ·omega
     ·exact .inl ⟨h0,rfl,by omega⟩)
    unfold Oper.wp
    rw[hrn]
    simp only[Array.toArray_toList] at hv
    exact hv
 ·exact hh.elim
end
theorem Bset.of_upd{g:Gh}{H:Hp}{k d j:Nat}{o:AObj}{b B L M:Nat}(hjd:j≠d)(h:Bset (g.name d B L M) j (upd (upd H k .lost) d o j) b):j≠k∧Bset g j (H j) b:=by
 rw[upd_ne hjd] at h
 by_cases hjk:j=k
 ·subst hjk;rw[upd_same] at h;exact h.elim
 ·rw[upd_ne hjk,Bset.name hjd] at h;exact⟨hjk,h⟩
theorem WInv.moved{g H w}(h:WInv g H w){k d:Nat}{t:TypeId}{cs cs':List EV}(hk:H k=.box t cs)(hd:H d=.gone){w':World}
 (hw:∀ b,¬ (0<g.hi k∧b=g.blk k)→b<w.heap.size→w'.heap[b]?=w.heap[b]?)
 (ho:GLe g H (g.name d (g.blk k) (g.lo k) (g.hi k)) (upd (upd H k .lost) d (.box t cs'))→ObjOk (g.name d (g.blk k) (g.lo k) (g.hi k)) (upd (upd H k .lost) d (.box t cs')) w' d (.box t cs')):
 WInv (g.name d (g.blk k) (g.lo k) (g.hi k)) (upd (upd H k .lost) d (.box t cs')) w'∧GLe g H (g.name d (g.blk k) (g.lo k) (g.hi k)) (upd (upd H k .lost) d (.box t cs')):=by
 have hdk:d≠k:=fun e=>by rw[e,hk] at hd;cases hd
 have hle:GLe g H (g.name d (g.blk k) (g.lo k) (g.hi k)) (upd (upd H k .lost) d (.box t cs')):=by
  refine⟨FzLe.refl _,fun j u ds hj=>?_,fun j hj=>?_,fun j m hj=>?_,fun j kp es hj=>?_⟩
  ·have hne:j≠d:=fun e=>by rw[e,hd] at hj;cases hj
   rw[upd_ne hne]
   by_cases hjk:j=k
   ·subst hjk;exact .inl (by simp)
   ·exact .inr ⟨(Gh.name_ne hne).1,(Gh.name_ne hne).2.2,ds,by rw[upd_ne hjk];exact hj,rfl⟩
  ·have hne:j≠d:=fun e=>by rw[e,hd] at hj;cases hj
   rw[upd_ne hne]
   by_cases hjk:j=k
   ·subst hjk;simp
   ·rw[upd_ne hjk];exact hj
  ·have hne:j≠d:=fun e=>by rw[e,hd] at hj;cases hj
   have hjk:j≠k:=fun e=>by rw[e,hk] at hj;cases hj
   exact⟨m,by rw[upd_ne hne,upd_ne hjk];exact hj,Nat.le_refl _,fun _=>Gh.name_ne hne⟩
  ·have hne:j≠d:=fun e=>by rw[e,hd] at hj;cases hj
   have hjk:j≠k:=fun e=>by rw[e,hk] at hj;cases hj
   exact .inr ⟨(Gh.name_ne hne).1,es,by rw[upd_ne hne,upd_ne hjk];exact hj⟩
 have hob:=h.obj k
 rw[hk] at hob
 have hB:∀ b,Bset (g.name d (g.blk k) (g.lo k) (g.hi k)) d (upd (upd H k .lost) d (.box t cs') d) b→Bset g k (H k) b:=fun b hb=>by
  rw[upd_same] at hb
  rw[hk]
  obtain⟨h1,h2⟩:=hb
  rw[Gh.name_hi] at h1
  rw[Gh.name_blk] at h2
  exact⟨h1,h2⟩
 refine⟨⟨fun b o v hz=>?_,fun j=>?_,fun i j b h1 h2=>?_⟩,hle⟩
 ·have hz':g.fz b o=some v:=hz
  have hne:¬ (0<g.hi k∧b=g.blk k):=fun ⟨h0,e⟩=>by
   obtain⟨_,_,_,_,_,h5⟩:=hob.2 h0
   rw[e,h5] at hz';cases hz'
  have hc:=h.fz b o v hz'
  rw[pk_congr (hw b hne (pk_lt hc))]
  exact hc
 ·by_cases hjd:j=d
  ·subst hjd;rw[upd_same];exact ho hle
  ·rw[upd_ne hjd]
   by_cases hjk:j=k
   ·subst hjk;rw[upd_same];trivial
   ·rw[upd_ne hjk]
    obtain⟨e1,e2,e3⟩:=Gh.name_ne (g:=g) (B:=g.blk k) (L:=g.lo k) (M:=g.hi k) hjd
    exact(h.obj j).mono hle e1 e2 e3 (fun b hb=>hw b (fun ⟨h0,e⟩=>hjk (h.inj j k b hb (by rw[hk];exact⟨h0,e⟩))) (h.blk_lt hb)) fun _ _ _=>rfl
 ·by_cases hi:i=d
  ·by_cases hj:j=d
   ·rw[hi,hj]
   ·subst hi
    obtain⟨hjk,h2⟩:=Bset.of_upd hj h2
    exact absurd (h.inj j k b h2 (hB b h1)) hjk
  ·by_cases hj:j=d
   ·subst hj
    obtain⟨hik,h1⟩:=Bset.of_upd hi h1
    exact absurd (h.inj i k b h1 (hB b h2)) hik
   ·exact h.inj i j b (Bset.of_upd hi h1).2 (Bset.of_upd hj h2).2
theorem Fr.moved{Γ g H w}(h:Fr Γ g H w){k d:Nat}{t:TypeId}{cs cs':List EV}(hk:H k=.box t cs)(hd:H d=.gone){w':World}(hkept:Kept (fun b=>0<g.hi k∧b=g.blk k) w w'):
 Fr Γ (g.name d (g.blk k) (g.lo k) (g.hi k)) (upd (upd H k .lost) d (.box t cs')) w':=by
 refine⟨h.kept.trans hkept fun i hi hx=>?_,h.fz,h.low,fun j b hb=>?_,fun j u ds hj=>?_,fun j kp es hj=>?_,fun j m hj=>?_⟩
 ·rcases h.own k i (by rw[hk];exact hx) with hX | hX
  ·exact hX
  ·omega
 ·by_cases hjd:j=d
  ·subst hjd
   rw[upd_same] at hb
   obtain⟨h1,h2⟩:=hb
   rw[Gh.name_hi] at h1
   rw[Gh.name_blk] at h2
   exact h.own k b (by rw[hk];exact⟨h1,h2⟩)
  ·exact h.own j b (Bset.of_upd hjd hb).2
 ·rcases h.box j u ds hj with h0 | ⟨ds',h1,h2,h3,h4⟩
  ·have hjd:j≠d:=fun e=>by rw[e,hd] at h0;cases h0
   left
   rw[upd_ne hjd]
   by_cases hjk:j=k
   ·subst hjk;simp
   ·rw[upd_ne hjk];exact h0
  ·have hjd:j≠d:=fun e=>by rw[e,hd] at h1;cases h1
   rw[upd_ne hjd]
   by_cases hjk:j=k
   ·subst hjk;left;simp
   ·right;exact⟨ds',by rw[upd_ne hjk];exact h1,h2,(Gh.name_ne hjd).1.trans h3,(Gh.name_ne hjd).2.2.trans h4⟩
 ·rcases h.map j kp es hj with h0 | ⟨es',h1,h2⟩
  ·have hjd:j≠d:=fun e=>by rw[e,hd] at h0;cases h0
   have hjk:j≠k:=fun e=>by rw[e,hk] at h0;cases h0
   exact .inl (by rw[upd_ne hjd,upd_ne hjk];exact h0)
  ·have hjd:j≠d:=fun e=>by rw[e,hd] at h1;cases h1
   have hjk:j≠k:=fun e=>by rw[e,hk] at h1;cases h1
   exact .inr ⟨es',by rw[upd_ne hjd,upd_ne hjk];exact h1,(Gh.name_ne hjd).1.trans h2⟩
 ·obtain⟨m',h1,h2,h3⟩:=h.tail j m hj
  have hjd:j≠d:=fun e=>by rw[e,hd] at h1;cases h1
  have hjk:j≠k:=fun e=>by rw[e,hk] at h1;cases h1
  exact⟨m',by rw[upd_ne hjd,upd_ne hjk];exact h1,h2,fun e=>by obtain⟨a,b,c⟩:=h3 e;exact⟨(Gh.name_ne hjd).1.trans a,(Gh.name_ne hjd).2.1.trans b,(Gh.name_ne hjd).2.2.trans c⟩⟩
theorem WInv.lose{g H w}(h:WInv g H w){k:Nat}{t:TypeId}{cs:List EV}(hk:H k=.box t cs):WInv g (upd H k .lost) w∧GLe g H g (upd H k .lost):=by
 have hle:GLe g H g (upd H k .lost):=by
  refine⟨FzLe.refl _,fun j u ds hj=>?_,fun j hj=>?_,fun j m hj=>?_,fun j kp es hj=>?_⟩
  ·by_cases hjk:j=k
   ·subst hjk;exact .inl (by simp)
   ·exact .inr ⟨rfl,rfl,ds,by rw[upd_ne hjk];exact hj,rfl⟩
  ·by_cases hjk:j=k
   ·subst hjk;simp
   ·rw[upd_ne hjk];exact hj
  ·have hjk:j≠k:=fun e=>by rw[e,hk] at hj;cases hj
   exact⟨m,by rw[upd_ne hjk];exact hj,Nat.le_refl _,fun _=>⟨rfl,rfl,rfl⟩⟩
  ·have hjk:j≠k:=fun e=>by rw[e,hk] at hj;cases hj
   exact .inr ⟨rfl,es,by rw[upd_ne hjk];exact hj⟩
 have hB:∀ j b,Bset g j (upd H k .lost j) b→Bset g j (H j) b:=fun j b hb=>by
  by_cases hjk:j=k
  ·subst hjk;rw[upd_same] at hb;exact hb.elim
  ·rwa [upd_ne hjk] at hb
 refine⟨⟨h.fz,fun j=>?_,fun i j b h1 h2=>h.inj i j b (hB i b h1) (hB j b h2)⟩,hle⟩
 by_cases hjk:j=k
 ·subst hjk;rw[upd_same];trivial
 ·rw[upd_ne hjk];exact(h.obj j).mono hle rfl rfl rfl (fun _ _=>rfl) fun _ _ _=>rfl
theorem Fr.lose{Γ g H w}(h:Fr Γ g H w){k:Nat}{t:TypeId}{cs:List EV}(hk:H k=.box t cs):Fr Γ g (upd H k .lost) w:=by
 refine⟨h.kept,h.fz,h.low,fun j b hb=>h.own j b ?_,fun j u ds hj=>?_,fun j kp es hj=>?_,fun j m hj=>?_⟩
 ·by_cases hjk:j=k
  ·subst hjk;rw[upd_same] at hb;exact hb.elim
  ·rwa [upd_ne hjk] at hb
 ·by_cases hjk:j=k
  ·subst hjk;left;simp
  ·rw[upd_ne hjk];exact h.box j u ds hj
 ·by_cases hjk:j=k
  ·subst hjk;left;simp
  ·rw[upd_ne hjk];exact h.map j kp es hj
 ·obtain⟨m',h1,h2⟩:=h.tail j m hj
  have hjk:j≠k:=fun e=>by rw[e,hk] at h1;cases h1
  exact⟨m',by rw[upd_ne hjk];exact h1,h2⟩
theorem ovr_two{H H':Hp}{k d:Nat}:ovr [k,d] H' H=upd (upd H k (H' k)) d (H' d):=by
 funext j
 simp only[ovr,upd]
 by_cases hd:j=d
 ·subst hd;simp
 ·by_cases hk:j=k
  ·subst hk;simp[hd]
  ·simp[hd,hk]
def aAppendV(T:Tab)(t0 t1:Nat)(s x:EV)(d:Option Tmp)(h:AHp)(K:Kt):Prop:=
 ogo (T.get t0) fun ti=>ogo (T.get t1) fun tx=>bgo (Nat.beq ti.kind 3&&(Nat.beq tx.kind 3&&(Nat.blt 0 ti.esz&&Nat.beq ti.ezero.length ti.esz))) (ogo2 (slOf x) fun xz xl=>bgo (Nat.beq xz ti.esz)
  (match s with
   | .arr sz k 0 n=>ogo d fun d=>bgo (Nat.beq sz ti.esz&&isGone (hp h d)) (match hp h k with
    | .box t cs=>bgo (Nat.beq t ti.elem) (n*sz=cs.length∧((n+xl.length)*ti.ebytes≤140737488355328∧n+xl.length≤140737488355328) ∧
     K (.arr sz d 0 (n+xl.length)) ((d,.box t (cs++(flat xl).map .p))::(k,.lost)::h) ([],[k,d])) False
    | _=>False) False
   | _=>False) False) False
section
variable {P:Program} {T:Tab} (hT:TabOk P T) {o:Oper} {env:Env} {h:AHp} {K:Kt}
theorem app_cells{g H}{vs news:List Value}{cs:List EV}{xs:List AV}(hl:vs.length=cs.length)(h1:∀ (i:Nat) v x,vs[i]?=some v→cs[i]?=some x→ERep g H v x)(h2:∀ (i:Nat) u y,news[i]?=some u→xs[i]?=some y→Rep g.fz u y)(tl:List Value)(hn:news.length=xs.length):
 ∀ (i:Nat) v x,(vs++news++tl)[i]?=some v→(cs++xs.map .p)[i]?=some x→ERep g H v x:=fun i v x hv hx=>by
 have hi:i<cs.length+xs.length:=by
  rcases Nat.lt_or_ge i (cs.length+xs.length) with h' | h'
  ·exact h'
  ·rw[List.getElem?_eq_none (by simpa using h')] at hx;cases hx
 rw[List.getElem?_append_left (by rw[List.length_append];omega),List.getElem?_append] at hv
 rw[List.getElem?_append,← hl] at hx
 split at hv
 ·rename_i h3
  rw[if_pos h3] at hx
  exact h1 i v x hv hx
 ·rename_i h3
  rw[if_neg h3,List.getElem?_map] at hx
  cases hq:xs[i - vs.length]? with
  | none=>rw[hq] at hx;cases hx
  | some y=>rw[hq] at hx;cases hx;exact .p _ _ (h2 _ v y hv hq)
theorem zeroCells_ones{z:Array Value}(h:Ones z.toList)(h0:0<z.size)(n:Nat):Ones (Builtin.zeroCells z n).toList:=fun v hv=>by
 simp only[Builtin.zeroCells,Array.toList_map,List.mem_map] at hv
 obtain⟨i,_,rfl⟩:=hv
 have hi:=Nat.mod_lt i h0
 rw[getElem!_pos z _ hi]
 exact h _ (by simp)
include hT in
theorem aAppendV_good{t0 t1:Nat}{s x:Operand}(ho:o.op=.call { callee:=.builtin .append,args:=#[s,x],argTypes:=#[t0,t1] })
 (hh:aAppendV T t0 t1 (opv T env t0 s) (opv T env t1 x) o.dst h K):Good P o env h K:=by
 replace hh:=ogo_out hh
 obtain⟨ti,hti,hh⟩:=hh
 replace hh:=ogo_out hh
 obtain⟨tx,htx,hh⟩:=hh
 obtain⟨_,dd,_,t2,_,_,_,_,_,_,ts,_⟩:=tiOk_info (hT t0 ti hti)
 obtain⟨_,dx,_,x2,_,_,_,_,_,_,xs,_⟩:=tiOk_info (hT t1 tx htx)
 replace hh:=bgo_outT hh
 obtain⟨hk,hh⟩:=hh
 simp only[Bool.and_eq_true] at hk
 obtain⟨rfl,he,_⟩:=ts (nbt hk.1)
 obtain⟨rfl,_,_⟩:=xs (nbt hk.2.1)
 have h0:0<ti.esz:=by have:=hk.2.2.1;simp[Nat.blt] at this;omega
 obtain⟨ie,u1,u2,u3,u4⟩:=elemOk_info he
 obtain⟨z,hz,_,zones,_⟩:=zOk_rep (g:=⟨fun _ _=>none,fun _=>0,fun _=>0,fun _=>0,fun _=>False⟩) (H:=fun _=>.gone) u4
 have hzs:z.cells.size=ti.esz:=(zeroCells_sz u4 hz).trans (nbt hk.2.2.2)
 replace hh:=ogo2_out hh
 obtain⟨⟨sz,xs⟩,hsl,hh⟩:=hh
 replace hh:=bgo_outT hh
 obtain⟨hsz,hh⟩:=hh
 have hsz:sz=ti.esz:=nbt hsz
 subst hsz
 dsimp only at hh
 have hsm:s∈o.op.operands.toList:=by simp[ho,Op.operands,Call.operands]
 have hxm:x∈o.op.operands.toList:=by simp[ho,Op.operands,Call.operands]
 have run:∀ (ρ:Operand→Value) (w w':World) (v:Value),(Builtin.append_ #[t0,t1] o.type #[ρ s,ρ x]).run P w=.ok v w'→(execOp ρ o).run P w=.ok (.value v) w':=fun ρ w w' v hl=>by
  simp[execOp,ho,resolve,invoke,Go.builtin,hl]
 rw[← u2] at h0 hzs hsl hh
 rw[← u3] at hh
 split at hh
 ·rename_i sz2 k n hs
  replace hh:=ogo_out hh
  obtain⟨d,hd0,hh⟩:=hh
  replace hh:=bgo_outT hh
  obtain⟨hb,hh⟩:=hh
  rw[Bool.and_eq_true] at hb
  have hsz2:sz2=ie.size:=nbt hb.1
  subst hsz2
  have hgone:hp h d=.gone:=by
   have:=hb.2
   cases hq:hp h d <;> rw[hq] at this <;> first | rfl | (simp[isGone] at this)
  split at hh
  ·rename_i t cs hm
   replace hh:=bgo_outT hh
   obtain⟨ht0,hlen,hbd,hh⟩:=hh
   have ht0:t=ti.elem:=nbt ht0
   subst ht0
   refine fun _ _ _=>⟨_,_,[],[k,d],⟨fun j hj=>?_,fun Γ g a w env' H' ht hH hr hi hf next Q hn=>?_⟩,hh⟩
   ·simp only[List.mem_cons,not_or,List.not_mem_nil,not_false_eq_true,and_true] at hj
    rw[hp_cons,if_neg hj.2,hp_cons,if_neg hj.1]
   ·have hkk:H' k=.box ti.elem cs:=(hH k (.inr (by simp))).trans hm
    have hdd:H' d=.gone:=(hH d (.inr (by simp))).trans hgone
    have hdk:d≠k:=fun e=>by rw[e,hkk] at hdd;cases hdd
    have hH2:ovr [k,d] (hp ((d,.box ti.elem (cs++(flat xs).map .p))::(k,.lost)::h)) H'=upd (upd H' k .lost) d (.box ti.elem (cs++(flat xs).map .p)):=by
     rw[ovr_two,hp_cons,hp_cons,hp_cons,if_neg (Ne.symm hdk),if_pos rfl,if_pos rfl]
    rw[hH2] at hn
    have rs:=opv_rep (T:=T) hr ht hsm t0
    have rx:=opv_rep (T:=T) hr ht hxm t1
    rw[hs] at rs
    obtain⟨px,nx,cx,ex,hnx,hrx⟩:=rx.slOf hsl
    obtain⟨p,cap,hn',hcap,hm47,_,hro⟩:=rs.arr_inv
    rcases hro with h9 | ⟨t',cs',hk',_,hroom⟩
    ·rw[hkk] at h9;cases h9
    rw[hkk] at hk'
    cases hk'
    unfold Oper.wp
    have hsrc:∃ news,Src P ie.size t1 (a.eval x) xs.length news w∧news.length=(flat xs).length∧Ones news∧∀ (i:Nat) u y,news[i]?=some u→(flat xs)[i]?=some y→Rep g.fz u y:=by
     rw[ex];exact hrx.src w h0 x2 hi.fz
    obtain⟨news,hsrc,n1,n2,n3⟩:=hsrc
    have hszx:∀ e∈xs,e.cells.length=ie.size:=by obtain⟨_,_,_,_,_,h⟩:=hrx.slice_len;exact h
    have hnl:news.length=xs.length*ie.size:=by rw[n1,flat_length hszx]
    have hob:=hi.obj k
    rw[hkk] at hob
    by_cases hx0:xs.length=0
    ·have hxn:xs=[]:=List.eq_nil_of_length_eq_zero hx0
     subst hxn
     have hnews:news=[]:=by rw[hx0] at hnl;simpa using hnl
     rw[hx0,hnews] at hsrc
     have hrun:=run_append_nothing w t0 t1 o.type ti.elem ie t2 u1 p n cap hcap (a.eval x) hsrc
     rw[← hn'] at hrun
     rw[run _ _ _ _ hrun]
     simp only[Ab.flat,List.map_nil,List.append_nil,List.length_nil,Nat.add_zero] at hn ⊢
     obtain⟨hw,hle⟩:=hi.moved (cs':=cs) hkk hdd (w':=w) (fun _ _ _=>rfl) fun hle=>(by
      refine⟨fun h3=>hob.1 (by rwa [Gh.name_hi] at h3),fun h3=>?_⟩
      rw[Gh.name_hi] at h3
      obtain⟨vs,h1,h2,h3,h4,h5⟩:=hob.2 h3
      exact⟨vs,by rw[Gh.name_blk];exact h1,by rw[Gh.name_hi];exact h2,h3,fun i v x hv hx=>(h4 i v x hv hx).mono hle,by rw[Gh.name_blk];exact h5⟩)
     refine hn _ _ w hle hw (hf.moved hkk hdd (Kept.refl _ w)) ?_
     rw[hn']
     refine .arr p _ d 0 n cap hcap hm47 (fun h3=>?_) (.inr ⟨ti.elem,cs,by simp,by omega,by rw[Gh.name_hi,Gh.name_blk];exact hroom⟩)
     rcases hroom with ⟨_,rfl,_⟩ | ⟨_,rfl⟩
     ·exact⟨_,rfl⟩
     ·omega
    ·obtain⟨vs,w2,w3,w4,w1⟩:=hob.cells
     by_cases hroom2:n+xs.length≤cap
     ·rcases hroom with ⟨hlt,rfl,hhi⟩ | ⟨_,rfl⟩
      ·have hmul:n*ie.size+xs.length*ie.size≤cap*ie.size:=by rw[← Nat.add_mul];exact Nat.mul_le_mul_right _ hroom2
       obtain⟨row,q1,⟨q2,q2'⟩,q3,q4,q5⟩:=hob.2 hlt
       have hrun:=run_append_row w t0 t1 o.type ti.elem ie t2 u1 (g.blk k) 0 n cap (a.eval x) xs.length news hsrc hroom2 q1 (by simp only[List.size_toArray];omega)
       rw[← hn',Nat.zero_add] at hrun
       rw[run _ _ _ _ hrun]
       simp only[] at hrun ⊢
       have hlen':(row.take (n*ie.size)++news++row.drop (n*ie.size+news.length)).length=g.hi k:=by
        simp only[List.length_append,List.length_take,List.length_drop];omega
       have hcell:∀ (i:Nat) v x,(row.take (n*ie.size)++news++row.drop (n*ie.size+news.length))[i]?=some v→(cs++(flat xs).map .p)[i]?=some x→ERep g H' v x:=
        app_cells (by rw[List.length_take];omega) (fun i v x hv hx=>by
         rw[List.getElem?_take] at hv
         split at hv
         ·exact q4 i v x hv hx
         ·cases hv) n3 _ n1
       obtain⟨hw,hle⟩:=hi.moved (cs':=cs++(flat xs).map .p) hkk hdd (w':=w.setRow (g.blk k) (row.take (n*ie.size)++news++row.drop (n*ie.size+news.length)).toArray) (fun b hb _=>setRow_other _ _ _ _ fun e=>hb ⟨hlt,e⟩) fun hle=>(by
        refine⟨fun h3=>by rw[Gh.name_hi] at h3;omega,fun _=>⟨_,by rw[Gh.name_blk];exact setRow_heap _ _ _ _ _ _ q1,⟨by rw[Gh.name_hi];exact hlen',?_⟩,fun v hv=>?_,fun i v x hv hx=>(hcell i v x hv hx).mono hle,by rw[Gh.name_blk];exact q5⟩⟩
        ·rw[hlen',List.length_append,List.length_map,← n1,hnl];omega
        ·rcases List.mem_append.1 hv with hv | hv
         ·rcases List.mem_append.1 hv with hv | hv
          ·exact q3 v (List.mem_of_mem_take hv)
          ·exact n2 v hv
         ·exact q3 v (List.mem_of_mem_drop hv))
       refine hn _ _ _ hle hw (hf.moved hkk hdd (Kept.setRow _ w (g.blk k) _ ⟨hlt,rfl⟩)) ?_
       refine .arr _ _ d 0 _ cap hroom2 (by omega) (fun _=>⟨_,rfl⟩) (.inr ⟨ti.elem,cs++(flat xs).map EV.p,by simp,?_,.inl ?_⟩)
       ·rw[List.length_append,List.length_map,← n1,hnl,Nat.add_mul];omega
       ·rw[Gh.name_hi,Gh.name_blk];exact⟨hlt,rfl,hhi⟩
      ·omega
     ·have hold:(Builtin.firstCells ie.size n (.slice p n cap)).run P w.drew=.ok vs.toArray w.drew:=by
       cases p with
       | none=>
        have:n=0:=by
         rcases hroom with ⟨_,hpp,_⟩ | ⟨_,rfl⟩
         ·cases hpp
         ·omega
        subst this
        have:vs=[]:=List.eq_nil_of_length_eq_zero (by omega)
        subst this
        simp[Builtin.firstCells]
       | some q=>
        refine run_firstCells_some w.drew ie.size n q n cap vs (by omega) (fun j u hj=>?_)
        rcases hroom with ⟨_,hpp,_⟩ | ⟨_,rfl⟩
        ·cases hpp
         rw[Addr.add_mid,Nat.zero_add]
         exact w1 j u hj
        ·have:n=0:=by omega
         subst this
         have:vs=[]:=List.eq_nil_of_length_eq_zero (by omega)
         subst this
         simp at hj
      have hrun:=run_append_grow_src w t0 t1 o.type ti.elem ie z t2 u1 hz p n cap vs hold (a.eval x) xs.length news hsrc (by omega) (by omega) (growslice_fits (by omega) hbd.1)
      have hge:=grownCap_ge w (n+xs.length) cap ti.elem
      rw[← hn'] at hrun
      rw[run _ _ _ _ hrun]
      obtain⟨hi1,hle1⟩:=hi.lose hkk
      have hf1:=hf.lose hkk
      generalize grownCap w (n+xs.length) cap ti.elem=nc at hge
      have hdd1:upd H' k .lost d=.gone:=by rw[upd_ne hdk];exact hdd
      have hzone:Ones (Builtin.zeroCells z.cells (nc - (n+xs.length))).toList:=zeroCells_ones zones (by omega) _
      have hrow:((vs++news).toArray++Builtin.zeroCells z.cells (nc - (n+xs.length)))=(vs++news++(Builtin.zeroCells z.cells (nc - (n+xs.length))).toList).toArray:=by apply Array.ext';simp
      have hrl:(vs++news++(Builtin.zeroCells z.cells (nc - (n+xs.length))).toList).length=nc*ie.size:=by
       simp only[List.length_append,Array.length_toList,size_zeroCells,hzs,w2,hnl,← hlen]
       rw[← Nat.add_mul,← Nat.add_mul]
       congr 1
       omega
      have hcl:(cs++(flat xs).map EV.p).length=(n+xs.length)*ie.size:=by rw[List.length_append,List.length_map,← n1,hnl,← hlen,Nat.add_mul]
      rw[hrow]
      obtain⟨hw,hle⟩:=hi1.newBox (t:=ti.elem) (cs:=cs++(flat xs).map .p) hdd1 (Grew.drew_alloc w (.cells (vs++news++(Builtin.zeroCells z.cells (nc - (n+xs.length))).toList).toArray ti.elem (0,0))) (by rw[hrl,hcl];exact Nat.mul_le_mul_right _ hge)
       (fun v hv=>by
        rcases List.mem_append.1 hv with hv | hv
        ·rcases List.mem_append.1 hv with hv | hv
         ·exact w3 v hv
         ·exact n2 v hv
        ·exact hzone v hv)
       (app_cells w2 (fun i v x hv hx=>(w4 i v x hv hx).mono hle1) n3 _ n1)
      refine hn _ _ _ (hle1.trans hle) hw (hf1.newBox hi1 hdd1 (Grew.drew_alloc w _) _ _ _ _) ?_
      refine .arr _ _ d 0 _ nc hge (by omega) (fun _=>⟨_,rfl⟩) (.inr ⟨ti.elem,cs++(flat xs).map EV.p,by simp,by rw[hcl];omega,.inl ?_⟩)
      rw[Gh.name_hi,Gh.name_blk,hrl]
      exact⟨Nat.mul_pos (by omega) h0,rfl,by omega⟩
  ·exact hh.elim
 ·exact hh.elim
end
def kv1:AV→Value
 | .imm v=>v
 | _=>undef
def kv:AV→Value
 | .imm v=>v
 | .agg cs=>.agg (cs.map kv1).toArray
 | _=>undef
theorem kfitL_reps{fz:Fz}:∀ {ks:List IntKind} {cs:List AV} {vs:List Value},kfitL ks cs=true→vs.length=cs.length→(∀ (i:Nat) v x,vs[i]?=some v→cs[i]?=some x→Rep fz v x)→vs=cs.map kv1
 | [],[],[],_,_,_=>rfl
 | [],[],_::_,_,h,_=>by simp at h
 | [],_::_,_,h,_,_=>by simp[kfitL] at h
 | _::_,[],_,h,_,_=>by simp[kfitL] at h
 | _::_,_::_,[],_,h,_=>by simp at h
 | k::r,x::s,v::vs,h1,h2,h3=>by
  have ih:=kfitL_reps (fz:=fz) (ks:=r) (cs:=s) (vs:=vs)
  cases x with
  | imm u=>
   cases u with
   | int k1 a=>
    simp only[kfitL,Bool.and_eq_true] at h1
    have e:=(h3 0 v _ rfl rfl).val
    subst e
    rw[List.map_cons,← ih h1.2 (by simpa using h2) fun i v x hv hx=>h3 (i+1) v x (by simpa using hv) (by simpa using hx)]
    rfl
   | _=>simp[kfitL] at h1
  | _=>simp[kfitL] at h1
theorem Rep.kv{fz:Fz}{kp:KP}{v:Value}{x:AV}(hf:kfit kp x=true)(h:Rep fz v x):v=kv x:=by
 cases kp with
 | int k=>cases x <;> first | exact h.val | (simp[kfit] at hf)
 | str=>cases x <;> first | exact h.val | (simp[kfit] at hf)
 | ints ks=>
  cases x with
  | agg cs=>
   simp only[kfit] at hf
   cases h with
   | agg vs _ h1 hl h=>rw[kfitL_reps hf hl h];rfl
  | _=>simp[kfit] at hf
 | iter=>simp[kfit] at hf
theorem kfitL_cell:∀ {ks:List IntKind} {cs:List AV},kfitL ks cs=true→cs.length=ks.length∧∀ (i:Nat) k,ks[i]?=some k→∃ a,cs[i]?=some (.imm (.int k a))
 | [],[],_=>⟨rfl,by intro i k h;simp at h⟩
 | [],_::_,h=>by simp[kfitL] at h
 | _::_,[],h=>by simp[kfitL] at h
 | k::r,x::s,h=>by
  cases x with
  | imm u=>
   cases u with
   | int k1 a=>
    simp only[kfitL,Bool.and_eq_true,decide_eq_true_eq] at h
    obtain⟨rfl,h⟩:=h
    obtain⟨h1,h2⟩:=kfitL_cell h
    refine⟨by simp[h1],fun i k' hk=>?_⟩
    cases i with
    | zero=>simp at hk;subst hk;exact⟨a,rfl⟩
    | succ i=>simpa using h2 i k' (by simpa using hk)
   | _=>simp[kfitL] at h
  | _=>simp[kfitL] at h
section
variable {P:Program} (w:World)
theorem bytes_beq(x y:ByteArray):(x==y)=decide (x=y):=by
 cases x;cases y
 rename_i a b
 show((a:Array UInt8)==b)=_
 simp only[ByteArray.mk.injEq]
 by_cases h:a=b
 ·subst h;simp
 ·simp[h]
theorem run_part_int{e:TypeId}{k:IntKind}(hu:P.underlying e=some (.int k)){cs:Array Value}{off:Nat}{v:Value}(hv:cs[off]?=some v):(part e cs off).run P w=.ok v w:=by
 simp[part,isAgg,run_underlying hu,hv]
theorem run_eqItems_ints(d:Nat){e:TypeId}{k:IntKind}(hu:P.underlying e=some (.int k))(xs ys:Array Value):∀ (n o:Nat) (as bs:List AV),kfitL (List.replicate n k) as=true→kfitL (List.replicate n k) bs=true →
 (∀ i v,(as.map kv1)[i]?=some v→xs[o+i]?=some v)→(∀ i v,(bs.map kv1)[i]?=some v→ys[o+i]?=some v)→(Op.eqItems (d+1) e 1 xs ys (List.range' o n)).run P w=.ok (keyB.keyL as bs) w
 | 0,o,[],[],_,_,_,_=>by simp[Op.eqItems,keyB.keyL]
 | 0,o,_::_,_,h,_,_,_=>by simp[kfitL] at h
 | 0,o,[],_::_,_,h,_,_=>by simp[kfitL] at h
 | n+1,o,[],_,h,_,_,_=>by simp[List.replicate_succ,kfitL] at h
 | n+1,o,_::_,[],_,h,_,_=>by simp[List.replicate_succ,kfitL] at h
 | n+1,o,x::as,y::bs,h1,h2,h3,h4=>by
  rw[List.replicate_succ] at h1 h2
  cases x with
  | imm u=>
   cases u with
   | int k1 a=>
    cases y with
    | imm u'=>
     cases u' with
     | int k2 b=>
      simp only[kfitL,Bool.and_eq_true,decide_eq_true_eq] at h1 h2
      obtain⟨rfl,h1⟩:=h1
      obtain⟨e2,h2⟩:=h2
      subst e2
      have e1:=run_part_int w hu (h3 0 _ rfl)
      have e2:=run_part_int w hu (h4 0 _ rfl)
      have ih:=run_eqItems_ints d hu xs ys n (o+1) as bs h1 h2 (fun i v hv=>by rw[show o+1+i=o+(i+1) by omega];exact h3 (i+1) v (by simpa using hv)) fun i v hv=>by rw[show o+1+i=o+(i+1) by omega];exact h4 (i+1) v (by simpa using hv)
      rw[List.range'_succ]
      simp only[Nat.add_zero] at e1 e2
      simp only[Op.eqItems,Sem.run_bind,Nat.mul_one,e1,e2,Result.andThen_ok,run_equalIn_int w d e k k a b hu,kv1]
      by_cases hab:a=b
      ·subst hab
       simp[ih,keyB.keyL]
      ·have:(a==b)=false:=by simpa using hab
       simp[this,keyB.keyL,hab]
     | _=>simp[kfitL] at h2
    | _=>simp[kfitL] at h2
   | _=>simp[kfitL] at h1
  | _=>simp[kfitL] at h1
theorem run_eqFields_ints(d:Nat)(xs ys:Array Value):∀ (fs:List Field) (ks:List IntKind) (o:Nat) (as bs:List AV),intFlds P fs ks o=true→kfitL ks as=true→kfitL ks bs=true →
 (∀ i v,(as.map kv1)[i]?=some v→xs[o+i]?=some v)→(∀ i v,(bs.map kv1)[i]?=some v→ys[o+i]?=some v)→(Op.eqFields (d+1) xs ys fs).run P w=.ok (keyB.keyL as bs) w
 | [],[],o,[],[],_,_,_,_,_=>by simp[Op.eqFields,keyB.keyL]
 | [],[],o,_::_,_,_,h,_,_,_=>by simp[kfitL] at h
 | [],[],o,[],_::_,_,_,h,_,_=>by simp[kfitL] at h
 | [],_::_,_,_,_,h,_,_,_,_=>by simp[intFlds] at h
 | _::_,[],_,_,_,h,_,_,_,_=>by simp[intFlds] at h
 | f::fs,k::ks,o,[],_,_,h,_,_,_=>by simp[kfitL] at h
 | f::fs,k::ks,o,_::_,[],_,_,h,_,_=>by simp[kfitL] at h
 | f::fs,k::ks,o,x::as,y::bs,hF,h1,h2,h3,h4=>by
  simp only[intFlds,Bool.and_eq_true] at hF
  obtain⟨⟨⟨hn,ho⟩,hk⟩,hF⟩:=hF
  have ho:=nbt ho
  cases hu:P.underlying f.type with
  | none=>rw[hu] at hk;simp at hk
  | some dd=>
   rw[hu] at hk
   cases dd <;> simp only[Bool.false_eq_true] at hk
   have hk:=odt hk
   subst hk
   cases x with
   | imm u=>
    cases u with
    | int k1 a=>
     cases y with
     | imm u'=>
      cases u' with
      | int k2 b=>
       simp only[kfitL,Bool.and_eq_true,decide_eq_true_eq] at h1 h2
       obtain⟨rfl,h1⟩:=h1
       obtain⟨e2,h2⟩:=h2
       subst e2
       have e1:=run_part_int w hu (h3 0 _ rfl)
       have e2:=run_part_int w hu (h4 0 _ rfl)
       have ih:=run_eqFields_ints d xs ys fs ks (o+1) as bs hF h1 h2 (fun i v hv=>by rw[show o+1+i=o+(i+1) by omega];exact h3 (i+1) v (by simpa using hv)) fun i v hv=>by rw[show o+1+i=o+(i+1) by omega];exact h4 (i+1) v (by simpa using hv)
       simp only[Nat.add_zero] at e1 e2
       rw[← ho] at e1 e2
       have hn' : f.name ≠ "_" := by simpa using hn
       simp only[Op.eqFields,hn',ne_eq,not_false_eq_true,if_true,Sem.run_bind,e1,e2,Result.andThen_ok,run_equalIn_int w d f.type k k a b hu,kv1]
       by_cases hab:a=b
       ·subst hab
        simp[ih,keyB.keyL]
       ·have:(a==b)=false:=by simpa using hab
        simp[this,keyB.keyL,hab]
      | _=>simp[kfitL] at h2
     | _=>simp[kfitL] at h2
    | _=>simp[kfitL] at h1
   | _=>simp[kfitL] at h1
theorem run_equal_key{t:TypeId}{kp:KP}(hk:kpOk P t kp=true){a b:AV}(ha:kfit kp a=true)(hb:kfit kp b=true):(Op.equal t (kv a) (kv b)).run P w=.ok (keyB a b) w:=by
 have e0:Op.equal t (kv a) (kv b)=Op.equalIn (9998+1+1) t (kv a) (kv b):=rfl
 rw[e0]
 cases kp with
 | int k=>
  simp only[kpOk] at hk
  cases hu:P.underlying t with
  | none=>rw[hu] at hk;simp at hk
  | some dd=>
   rw[hu] at hk
   cases dd <;> simp only[Bool.false_eq_true] at hk
   have hk:=odt hk
   subst hk
   cases a with
   | imm u=>cases u with
    | int k1 x=>cases b with
     | imm u'=>cases u' with
      | int k2 y=>
       simp only[kfit,decide_eq_true_eq] at ha hb
       subst ha;subst hb
       simp only[kv,keyB]
       rw[run_equalIn_int w _ t k k x y hu]
       congr 1
      | _=>simp[kfit] at hb
     | _=>simp[kfit] at hb
    | _=>simp[kfit] at ha
   | _=>simp[kfit] at ha
 | str=>
  simp only[kpOk] at hk
  cases hu:P.underlying t with
  | none=>rw[hu] at hk;simp at hk
  | some dd=>
   rw[hu] at hk
   cases dd <;> simp only[Bool.false_eq_true] at hk
   cases a with
   | imm u=>cases u with
    | string x=>cases b with
     | imm u'=>cases u' with
      | string y=>
       simp only[kv,keyB]
       rw[run_equalIn_string w _ t x y hu,← beq_toListBytes]
       congr 1
       exact bytes_beq x y
      | _=>simp[kfit] at hb
     | _=>simp[kfit] at hb
    | _=>simp[kfit] at ha
   | _=>simp[kfit] at ha
 | ints ks=>
  cases a with
  | agg as=>cases b with
   | agg bs=>
    simp only[kfit] at ha hb
    simp only[kv,keyB]
    simp only[kpOk] at hk
    cases hu:P.underlying t with
    | none=>rw[hu] at hk;simp at hk
    | some dd=>
     rw[hu] at hk
     cases dd <;> simp only[Bool.false_eq_true] at hk
     case array n e=>
      cases he:P.underlying e with
      | none=>rw[he] at hk;simp at hk
      | some de=>
       cases hi:P.info? e with
       | none=>rw[he,hi] at hk;cases de <;> simp at hk
       | some ie=>
        rw[he,hi] at hk
        cases de <;> simp only[Bool.false_eq_true,Bool.and_eq_true] at hk
        rename_i k
        obtain⟨h1,h2⟩:=hk
        have h1:=nbt h1
        have h2:=odt h2
        subst h2
        rw[run_equalIn_array w _ _ _ hu hi]
        have hc:P.cellsOf e=1:=by rw[← h1];simp[Program.cellsOf,hi]
        rw[hc,List.range_eq_range']
        exact run_eqItems_ints w _ he _ _ n 0 as bs ha hb (fun i v hv=>by simpa using hv) fun i v hv=>by simpa using hv
     case struct fs=>
      simp only[Bool.and_eq_true,Bool.not_eq_true'] at hk
      have hfs:P.fieldsOf t=fs:=by simp[Program.fieldsOf,hu]
      rw[run_equalIn_struct w _ t _ _ (by rw[hfs];exact hu) hk.1,hfs]
      exact run_eqFields_ints w _ _ _ _ _ 0 as bs hk.2 ha hb (fun i v hv=>by simpa using hv) fun i v hv=>by simpa using hv
   | _=>simp[kfit] at hb
  | _=>simp[kfit] at ha
 | iter=>simp[kfit] at ha
end
section
variable {P:Program} (w:World)
theorem run_checkKey_int(em:Bool)(d:Nat){t:TypeId}{k k':IntKind}(a:Int)(hu:P.underlying t=some (.int k)):(Instr.checkKey em (d+1) t (.int k' a)).run P w=.ok () w:=by
 unfold Instr.checkKey
 simp[run_underlying hu]
theorem run_checkKey_kv(em:Bool){t:TypeId}{kp:KP}(hk:kpOk P t kp=true){a:AV}(ha:kfit kp a=true):(Instr.checkKey em 10000 t (kv a)).run P w=.ok () w:=by
 show(Instr.checkKey em (9998+1+1) t (kv a)).run P w=_
 cases kp with
 | int k=>
  simp only[kpOk] at hk
  cases hu:P.underlying t with
  | none=>rw[hu] at hk;simp at hk
  | some dd=>
   rw[hu] at hk
   cases dd <;> simp only[Bool.false_eq_true] at hk
   cases a with
   | imm u=>cases u with
    | int k1 x=>exact run_checkKey_int w em _ x hu
    | _=>simp[kfit] at ha
   | _=>simp[kfit] at ha
 | str=>
  simp only[kpOk] at hk
  cases hu:P.underlying t with
  | none=>rw[hu] at hk;simp at hk
  | some dd=>
   rw[hu] at hk
   cases dd <;> simp only[Bool.false_eq_true] at hk
   cases a with
   | imm u=>cases u with
    | string x=>unfold Instr.checkKey;simp[run_underlying hu,kv]
    | _=>simp[kfit] at ha
   | _=>simp[kfit] at ha
 | ints ks=>
  cases a with
  | agg as=>
   simp only[kfit] at ha
   simp only[kv]
   obtain⟨hlen,hcell⟩:=kfitL_cell ha
   simp only[kpOk] at hk
   cases hu:P.underlying t with
   | none=>rw[hu] at hk;simp at hk
   | some dd=>
    rw[hu] at hk
    cases dd <;> simp only[Bool.false_eq_true] at hk
    case array n e=>
     cases he:P.underlying e with
     | none=>rw[he] at hk;simp at hk
     | some de=>
      cases hi:P.info? e with
      | none=>rw[he,hi] at hk;cases de <;> simp at hk
      | some ie=>
       rw[he,hi] at hk
       cases de <;> simp only[Bool.false_eq_true,Bool.and_eq_true] at hk
       rename_i k
       obtain⟨h1,h2⟩:=hk
       have h1:=nbt h1
       have h2:=odt h2
       subst h2
       have hc:P.cellsOf e=1:=by rw[← h1];simp[Program.cellsOf,hi]
       unfold Instr.checkKey
       simp only[Sem.run_bind,run_underlying hu,Result.andThen_ok]
       simp only[Std.Legacy.Range.forIn_eq_forIn_range',Std.Legacy.Range.size,Nat.sub_zero,Nat.add_one_sub_one,Nat.div_one]
       have each:∀ j∈List.range' 0 n,∃ a:Int,(as.map kv1).toArray[j]?=some (.int k a):=fun j hj=>by
        simp only[List.mem_range'_1] at hj
        obtain⟨a,h3⟩:=hcell j k (by rw[List.getElem?_replicate,if_pos (by omega)])
        exact⟨a,by simp[h3,kv1]⟩
       generalize List.range' 0 n=is at each
       induction is with
       | nil=>simp
       | cons j is ih=>
        obtain⟨a,h3⟩:=each j (by simp)
        have p1:=run_part_int (P:=P) w he h3
        have p2:=run_checkKey_int (P:=P) w em 9998 (k':=k) a he
        simp only[List.forIn_cons,Sem.run_bind,run_sizeOf w hi,Result.andThen_ok,hc,Nat.mul_one,p1,p2,Sem.run_pure]
        exact ih (fun y hy=>each y (by simp[hy]))
    case struct fs=>
     simp only[Bool.and_eq_true,Bool.not_eq_true'] at hk
     unfold Instr.checkKey
     simp only[Sem.run_bind,run_underlying hu,Result.andThen_ok]
     rw[← Array.forIn_toList]
     have hF:=hk.2
     have hc2:∀ i v,(as.map kv1)[i]?=some v→(as.map kv1).toArray[0+i]?=some v:=fun i v hv=>by simpa using hv
     generalize (as.map kv1).toArray=cs at hc2
     generalize fs.toList=L at hF
     generalize 0=o at hF hc2
     clear hk hu hlen hcell
     induction L generalizing ks o as with
     | nil=>simp
     | cons f L ih=>
      cases ks with
      | nil=>simp[intFlds] at hF
      | cons k ks=>
       cases as with
       | nil=>simp[kfitL] at ha
       | cons x as=>
        simp only[intFlds,Bool.and_eq_true] at hF
        obtain⟨⟨⟨hn,ho⟩,hkk⟩,hF⟩:=hF
        have ho:=nbt ho
        cases hu:P.underlying f.type with
        | none=>rw[hu] at hkk;simp at hkk
        | some dd=>
         rw[hu] at hkk
         cases dd <;> simp only[Bool.false_eq_true] at hkk
         have hkk:=odt hkk
         subst hkk
         cases x with
         | imm u=>
          cases u with
          | int k1 a=>
           simp only[kfitL,Bool.and_eq_true,decide_eq_true_eq] at ha
           obtain⟨rfl,ha⟩:=ha
           have p1:=run_part_int (P:=P) w hu (hc2 0 _ rfl)
           rw[Nat.add_zero,← ho] at p1
           have p2:=run_checkKey_int (P:=P) w em 9998 (k':=k) a hu
           have hn' : f.name ≠ "_" := by simpa using hn
           simp only[kv1] at p1
           simp only[List.forIn_cons,Sem.run_bind,hn',ne_eq,not_false_eq_true,if_true,Result.andThen_ok,p1,p2,Sem.run_pure]
           exact ih _ _ ha _ hF fun i v hv=>by rw[show o+1+i=o+(i+1) by omega];exact hc2 (i+1) v (by simpa using hv)
          | _=>simp[kfitL] at ha
         | _=>simp[kfitL] at ha
  | _=>simp[kfit] at ha
 | iter=>simp[kfit] at ha
theorem run_findNow_kv{t:TypeId}{kp:KP}(hk:kpOk P t kp=true)(hns:∀ ks,kp≠.ints ks){d:TypeDesc}(hu:P.underlying t=some d){k:AV}(hf:kfit kp k=true):∀ (l:List MapEntry) (es:List (AV×AV)) (i:Nat),l.length=es.length→(∀ (j:Nat) (e:MapEntry) (x:AV×AV),l[j]?=some e→es[j]?=some x→e.key=kv x.1)→(∀ x∈es,kfit kp x.1=true) →
 (Instr.findNow d (kv k) l i=some none∧∀ x∈es,x.1≠k)∨∃ (j:Nat) (e:MapEntry) (x:AV×AV),Instr.findNow d (kv k) l i=some (some (i+j,e.val))∧l[j]?=some e∧es[j]?=some x∧x.1=k
 | [],[],i,_,_,_=>.inl ⟨rfl,by simp⟩
 | [],_::_,_,h,_,_=>by simp at h
 | _::_,[],_,h,_,_=>by simp at h
 | e::l,x::es,i,hl,hkey,hfit=>by
  have hx:=hfit x (by simp)
  have hs:Instr.sameNow d (kv k) e.key=some (keyB k x.1):=by
   rw[hkey 0 e x rfl rfl]
   cases kp with
   | ints ks=>exact absurd rfl (hns ks)
   | iter=>simp[kfit] at hf
   | int q=>
    simp only[kpOk,hu] at hk
    cases d <;> simp only[Bool.false_eq_true] at hk
    obtain⟨x1,x2⟩:=x
    cases k with
    | imm u=>cases u with
     | int k1 a=>cases x1 with
      | imm u'=>cases u' with
       | int k2 b=>
        simp only[kfit,decide_eq_true_eq] at hf hx
        subst hf;subst hx
        simp only[kv,Instr.sameNow,if_true,keyB]
        congr 1
       | _=>simp[kfit] at hx
      | _=>simp[kfit] at hx
     | _=>simp[kfit] at hf
    | _=>simp[kfit] at hf
   | str=>
    simp only[kpOk,hu] at hk
    cases d <;> simp only[Bool.false_eq_true] at hk
    obtain⟨x1,x2⟩:=x
    cases k with
    | imm u=>cases u with
     | string a=>cases x1 with
      | imm u'=>cases u' with
       | string b=>
        simp only[kv,Instr.sameNow,keyB,bytes_beq]
       | _=>simp[kfit] at hx
      | _=>simp[kfit] at hx
     | _=>simp[kfit] at hf
    | _=>simp[kfit] at hf
  have hiff:=keyB_iff hf hx
  by_cases hq:k=x.1
  ·exact .inr ⟨0,e,x,by simp[Instr.findNow,hs,hiff.2 hq],rfl,rfl,hq.symm⟩
  ·have hb:keyB k x.1=false:=by
    cases h:keyB k x.1 with
    | false=>rfl
    | true=>exact absurd (hiff.1 h) hq
   rcases run_findNow_kv hk hns hu hf l es (i+1) (by simpa using hl) (fun j e x h1 h2=>hkey (j+1) e x (by simpa using h1) (by simpa using h2)) (fun y hy=>hfit y (by simp[hy])) with ⟨h1,h2⟩ | ⟨j,e',x',h1,h2,h3,h4⟩
   ·refine .inl ⟨by simp[Instr.findNow,hs,hb,h1],fun y hy=>?_⟩
    rcases List.mem_cons.1 hy with rfl | hy
    ·exact fun e=>hq e.symm
    ·exact h2 y hy
   ·exact .inr ⟨j+1,e',x',by simp[Instr.findNow,hs,hb,h1];omega,by simpa using h2,by simpa using h3,h4⟩
theorem run_findAsking_kv{t:TypeId}{kp:KP}(hk:kpOk P t kp=true){k:AV}(hf:kfit kp k=true):∀ (l:List MapEntry) (es:List (AV×AV)) (i:Nat),l.length=es.length→(∀ (j:Nat) (e:MapEntry) (x:AV×AV),l[j]?=some e→es[j]?=some x→e.key=kv x.1)→(∀ x∈es,kfit kp x.1=true) →
 ((Instr.findAsking t (kv k) l i).run P w=.ok none w∧∀ x∈es,x.1≠k)∨∃ (j:Nat) (e:MapEntry) (x:AV×AV),(Instr.findAsking t (kv k) l i).run P w=.ok (some (i+j,e.val)) w∧l[j]?=some e∧es[j]?=some x∧x.1=k
 | [],[],i,_,_,_=>.inl ⟨rfl,by simp⟩
 | [],_::_,_,h,_,_=>by simp at h
 | _::_,[],_,h,_,_=>by simp at h
 | e::l,x::es,i,hl,hkey,hfit=>by
  have hx:=hfit x (by simp)
  have hs:(Op.equal t (kv k) e.key).run P w=.ok (keyB k x.1) w:=by
   rw[hkey 0 e x rfl rfl];exact run_equal_key w hk hf hx
  have hiff:=keyB_iff hf hx
  by_cases hq:k=x.1
  ·exact .inr ⟨0,e,x,by simp[Instr.findAsking,hs,hiff.2 hq],rfl,rfl,hq.symm⟩
  ·have hb:keyB k x.1=false:=by
    cases h:keyB k x.1 with
    | false=>rfl
    | true=>exact absurd (hiff.1 h) hq
   rcases run_findAsking_kv hk hf l es (i+1) (by simpa using hl) (fun j e x h1 h2=>hkey (j+1) e x (by simpa using h1) (by simpa using h2)) (fun y hy=>hfit y (by simp[hy])) with ⟨h1,h2⟩ | ⟨j,e',x',h1,h2,h3,h4⟩
   ·refine .inl ⟨by simp[Instr.findAsking,hs,hb,h1],fun y hy=>?_⟩
    rcases List.mem_cons.1 hy with rfl | hy
    ·exact fun e=>hq e.symm
    ·exact h2 y hy
   ·exact .inr ⟨j+1,e',x',by simp[Instr.findAsking,hs,hb,h1];omega,by simpa using h2,by simpa using h3,h4⟩
theorem run_findKey_kv{t:TypeId}{kp:KP}(hk:kpOk P t kp=true){k:AV}(hf:kfit kp k=true)(l:List MapEntry)(es:List (AV×AV))(hl:l.length=es.length)(hkey:∀ (j:Nat) (e:MapEntry) (x:AV×AV),l[j]?=some e→es[j]?=some x→e.key=kv x.1)(hfit:∀ x∈es,kfit kp x.1=true):
 ((Instr.findKey t (kv k) l).run P w=.ok none w∧∀ x∈es,x.1≠k)∨∃ (j:Nat) (e:MapEntry) (x:AV×AV),(Instr.findKey t (kv k) l).run P w=.ok (some (j,e.val)) w∧l[j]?=some e∧es[j]?=some x∧x.1=k:=by
 obtain⟨d,hu⟩:∃ d,P.underlying t=some d:=by
  cases hq:P.underlying t with
  | none=>cases kp <;> simp[kpOk,hq] at hk
  | some d=>exact⟨d,rfl⟩
 have hask:(∀ r,Instr.findNow d (kv k) l 0≠some r)→_:=fun hn=>show((Instr.findKey t (kv k) l).run P w=.ok none w∧∀ x∈es,x.1≠k)∨∃ (j:Nat) (e:MapEntry) (x:AV×AV),(Instr.findKey t (kv k) l).run P w=.ok (some (j,e.val)) w∧l[j]?=some e∧es[j]?=some x∧x.1=k from by
  have e0:(Instr.findKey t (kv k) l).run P w=(Instr.findAsking t (kv k) l).run P w:=by
   cases hq:Instr.findNow d (kv k) l 0 with
   | none=>simp[Instr.findKey,run_underlying hu,hq]
   | some r=>exact absurd hq (hn r)
  rw[e0]
  rcases run_findAsking_kv w hk hf l es 0 hl hkey hfit with h | ⟨j,e,x,h1,h2,h3,h4⟩
  ·exact .inl h
  ·exact .inr ⟨j,e,x,by rw[h1,Nat.zero_add],h2,h3,h4⟩
 have hnow:∀ r,Instr.findNow d (kv k) l 0=some r→(Instr.findKey t (kv k) l).run P w=.ok r w:=fun r hr=>by simp[Instr.findKey,run_underlying hu,hr]
 cases kp with
 | ints ks=>
  cases l with
  | nil=>
   cases es with
   | nil=>exact .inl ⟨hnow none rfl,by simp⟩
   | cons _ _=>simp at hl
  | cons e l=>
   refine hask fun r hr=>?_
   cases k with
   | agg as=>
    have:Instr.sameNow d (kv (.agg as)) e.key=none:=by
     simp only[kv]
     cases d <;> rfl
    simp[Instr.findNow,this] at hr
   | _=>simp[kfit] at hf
 | iter=>simp[kfit] at hf
 | int q=>
  rcases run_findNow_kv hk (fun ks=>by simp) hu hf l es 0 hl hkey hfit with ⟨h1,h2⟩ | ⟨j,e,x,h1,h2,h3,h4⟩
  ·exact .inl ⟨hnow _ h1,h2⟩
  ·exact .inr ⟨j,e,x,by rw[hnow _ h1,Nat.zero_add],h2,h3,h4⟩
 | str=>
  rcases run_findNow_kv hk (fun ks=>by simp) hu hf l es 0 hl hkey hfit with ⟨h1,h2⟩ | ⟨j,e,x,h1,h2,h3,h4⟩
  ·exact .inl ⟨hnow _ h1,h2⟩
  ·exact .inr ⟨j,e,x,by rw[hnow _ h1,Nat.zero_add],h2,h3,h4⟩
theorem sameBits_kv{kp:KP}{x:AV}(hf:kfit kp x=true):Instr.sameBits 10000 (kv x) (kv x)=true:=by
 cases kp with
 | int k=>
  cases x with
  | imm u=>cases u with
   | int k1 a=>simp[kv,Instr.sameBits]
   | _=>simp[kfit] at hf
  | _=>simp[kfit] at hf
 | str=>
  cases x with
  | imm u=>cases u with
   | string a=>simp[kv,Instr.sameBits,bytes_beq]
   | _=>simp[kfit] at hf
  | _=>simp[kfit] at hf
 | ints ks=>
  cases x with
  | agg as=>
   simp only[kfit] at hf
   show Instr.sameBits (9999+1) _ _=true
   simp only[kv,Instr.sameBits,BEq.rfl,Bool.true_and]
   generalize 9999=n
   induction as generalizing ks with
   | nil=>simp
   | cons y r ih=>
    cases ks with
    | nil=>simp[kfitL] at hf
    | cons k ks=>
     cases y with
     | imm u=>cases u with
      | int k1 a=>
       simp only[kfitL,Bool.and_eq_true] at hf
       have:=ih _ hf.2
       simp only[List.map_cons,kv1]
       simp only[List.zip_cons_cons,List.all_cons]
       rw[this]
       cases n <;> simp[Instr.sameBits]
      | _=>simp[kfitL] at hf
     | _=>simp[kfitL] at hf
  | _=>simp[kfit] at hf
 | iter=>simp[kfit] at hf
end
def mgo(es:List (AV×AV))(k:AV)(A:AV→Prop)(B:Prop):Prop:=
 List.rec (motive:=fun _=>Prop) B (fun x _ ih=>bgo (keyB x.1 k) (A x.2) ih) es
theorem mgo_cons{x r k A B}:mgo (x::r) k A B=bgo (keyB x.1 k) (A x.2) (mgo r k A B):=rfl
theorem mgo_out{k:AV}{A:AV→Prop}{B:Prop}:∀ {es:List (AV×AV)},mgo es k A B→(∃ x∈es,keyB x.1 k=true∧A x.2)∨((∀ x∈es,keyB x.1 k=false)∧B)
 | [],h=>.inr ⟨by simp,h⟩
 | x::r,h=>by
  rw[mgo_cons] at h
  rcases bgo_out h with ⟨h1,h2⟩ | ⟨h1,h2⟩
  ·exact .inl ⟨x,by simp,h1,h2⟩
  ·rcases mgo_out h2 with ⟨y,hy,h3⟩ | ⟨h3,h4⟩
   ·exact .inl ⟨y,by simp[hy],h3⟩
   ·refine .inr ⟨fun y hy=>?_,h4⟩
    rcases List.mem_cons.1 hy with rfl | hy
    ·exact h1
    ·exact h3 y hy
def mset(es:List (AV×AV))(k v:AV):List (AV×AV):=bif es.any (fun x=>keyB x.1 k) then es.map (fun x=>bif keyB x.1 k then (k,v) else x) else es++[(k,v)]
def zeroE(te:TI):EV:=bif te.agg then .agg te.zero else (match te.zero with | e::_=>e | []=>.dead)
def okRes(ok:Bool)(e:EV)(b:Bool):EV:=match ok with | true=>.tup [e,ebool b] | false=>e
def aLookup(T:Tab)(ty:Nat)(m k:EV)(ok:Bool)(h:AHp)(K:Kt):Prop:=
 ogo (T.get ty) fun ti=>bgo (Nat.beq ti.kind 7) (ogo (T.get ti.elem) fun te=>ogo (toP k) fun kx=>bgo (kfit ti.kp kx) (
  match m with
  | .p (.imm (.map none))=>K (okRes ok (zeroE te) false) h nofp
  | .p (.mp kp es)=>bgo (decide (kp=ti.kp)) (mgo es kx (fun v=>K (okRes ok (.p v) true) h nofp) (K (okRes ok (zeroE te) false) h nofp)) False
  | .mtok j=>(match hp h j with | .map kp es=>bgo (decide (kp=ti.kp)) (mgo es kx (fun v=>K (okRes ok (.p v) true) h ([j],[])) (K (okRes ok (zeroE te) false) h ([j],[]))) False | _=>False)
  | _=>False) False) False
def aMapSet(T:Tab)(ty:Nat)(m k v:EV)(h:AHp)(K:Kt):Prop:=
 ogo (T.get ty) fun ti=>bgo (Nat.beq ti.kind 7) (ogo (toP k) fun kx=>ogo (toP v) fun vx=>bgo (kfit ti.kp kx) (
  match m with
  | .mtok j=>(match hp h j with | .map kp es=>bgo (decide (kp=ti.kp)) (K (.tup []) ((j,.map kp (mset es kx vx))::h) ([],[j])) False | _=>False)
  | _=>False) False) False
def aMakeMap(T:Tab)(ty:Nat)(d:Option Tmp)(h:AHp)(K:Kt):Prop:=
 ogo (T.get ty) fun ti=>bgo (Nat.beq ti.kind 7) (ogo d fun d=>match hp h d with | .gone=>K (.mtok d) ((d,.map ti.kp [])::h) ([],[d]) | _=>False) False
def aRange(T:Tab)(ty:Nat)(x:EV)(d:Option Tmp)(h:AHp)(K:Kt):Prop:=
 ogo (T.get ty) fun ti=>bgo (Nat.beq ti.kind 7) (match x with
  | .p (.mp kp es)=>ogo d fun d=>(match hp h d with | .gone=>K (.mtok d) ((d,.map .iter [(.mp kp es,.imm (.bool true))])::h) ([],[d]) | _=>False)
  | _=>False) False
def aEntry(e:EV)(h:AHp)(K:Kt):Prop:=
 match e with
 | .mtok j=>(match hp h j with | .map .iter (_::x::_)=>K (.tup [.p x.1,.p x.2]) h ([j],[]) | _=>False)
 | _=>False
def aLenM(T:Tab)(ty:Nat)(m:EV)(h:AHp)(K:Kt):Prop:=
 ogo (T.get ty) fun ti=>bgo (Nat.beq ti.kind 7) (
  match m with
  | .p (.imm (.map none))=>K (eint .i64 0) h nofp
  | .p (.mp _ es)=>K (eint .i64 es.length) h nofp
  | .mtok j=>(match hp h j with | .map kp es=>bgo (decide (kp=ti.kp)) (K (eint .i64 es.length) h ([j],[])) False | _=>False)
  | _=>False) False
end Go.Ab
