/- Texts P2, AbW, Sh, P3, P4, P5, P6, P7, P8, Seq, SeqM. Conditions: none. -/
import Derived.Test.YtmllhjbnbhapoaaGreatGG
import Derived.Test.YtmllhjbnbhapoaaGreatGE
import Derived.Shelf.Small.Bits
import Derived.Shelf.Small.Wraps
import Derived.Shelf.Strconv.Itoa0
import Derived.Shelf.Sort.Plain
import Derived.Ground.Names2Prog
import Derived.Shelf.Slices.Clone
import Derived.Shelf.Slices.CompactI
import Derived.Shelf.Slices.Cells
import Derived.Shelf.Slices.In.SortNone
import Derived.Test.YtmllhjbnbhapoaaGreatProg
import Derived.WalkKit
import Derived.WalkSpells
import Derived.WalkLawsBesides
import Derived.Handy
import Derived.OwnWalk
import Derived.Lib.AppendZerosOnto
import Derived.OrdersHeld
import Derived.Deep.RegionHeld
set_option linter.unusedSimpArgs false
set_option linter.unusedVariables false
namespace Go.Ab
open Go Go.Proofs
set_option maxRecDepth 10000
theorem interP(a b:Rl)(hlen:a.tuples.length≤1000000000):AFun Tryz.prog 113 [a.av,b.av] (.p (Rl.av ⟨a.arity,a.tuples.filter fun x=>decide (x∈b.tuples)⟩)):=by
 obtain⟨l,hl,hf⟩:=setP b 181 [] (fun x=>x) (fun x _=>sameP x)
 refine AFun.of hT Tryz.func113 rfl rfl (by simp) (AD.cut hT hmix 2 (fun _:Unit=>True) (fun _=>[(2,.loc 2 0),(4,.loc 4 0),(5,.p (mref l))]) (fun _=>[(2,.box 50 (a.cs.map .p)),(4,.box 50 [.p (eI 0),.p (.slice 1 [])])]) ?_ fun _ _=>AD.run hT hmix ?_)
 ·exact .pure [b.av,.fn (.func 181) [] []] _ rfl hf ⟨(),trivial,.sealB 5⟩
 ·exact .pure [ints a.tuples,.fn (.func 183) [] [mref l]] _ rfl (keepP a.tuples hlen _ _ _ fun x _=>interF hl x) ⟨by kernel_rfl,_,_,rfl,rfl,rfl⟩
theorem diffP(a b:Rl)(hlen:a.tuples.length≤1000000000):AFun Tryz.prog 114 [a.av,b.av] (.p (Rl.av ⟨a.arity,a.tuples.filter fun x=>decide (x∉b.tuples)⟩)):=by
 obtain⟨l,hl,hf⟩:=setP b 181 [] (fun x=>x) (fun x _=>sameP x)
 refine AFun.of hT Tryz.func114 rfl rfl (by simp) (AD.cut hT hmix 2 (fun _:Unit=>True) (fun _=>[(2,.loc 2 0),(4,.loc 4 0),(5,.p (mref l))]) (fun _=>[(2,.box 50 (a.cs.map .p)),(4,.box 50 [.p (eI 0),.p (.slice 1 [])])]) ?_ fun _ _=>AD.run hT hmix ?_)
 ·exact .pure [b.av,.fn (.func 181) [] []] _ rfl hf ⟨(),trivial,.sealB 5⟩
 ·exact .pure [ints a.tuples,.fn (.func 184) [] [mref l]] _ rfl (keepP a.tuples hlen _ _ _ fun x _=>diffF hl x) ⟨by kernel_rfl,_,_,rfl,rfl,rfl⟩
theorem inP(a b:Rl)(hlen:a.tuples.length≤1000000000):AFun Tryz.prog 78 [a.av,b.av] (.p (eB (decide (∀ x∈a.tuples,x∈b.tuples)))):=by
 refine AFun.of hT Tryz.func78 rfl rfl (by simp) (AD.run hT hmix (.pure [a.av,b.av] _ rfl (diffP a b hlen) ?_))
 intro h
 refine⟨_,_,rfl,rfl,?_⟩
 rw[show(decide (∀ x∈a.tuples,x∈b.tuples))=((((a.tuples.filter fun x=>decide (x∉b.tuples)).map eI).length:Int)==0) from ?_]
 ·rfl
 ·rw[Bool.eq_iff_iff]
  simp
theorem up_pairs{f:Nat→Int}(hf:∀ i j,i<j→f i<f j)(n:Nat):Up ((List.range n).map f):=List.pairwise_map.2 (List.pairwise_lt_range.imp fun {i j} h=>hf i j h)
theorem idenP(n:Nat)(hn:n≤12):AFun Tryz.prog 74 [eI n] (.p (rIden n).av):=by
 have hb:∀ i:Nat,i<n→0≤(i:Int)*n∧(i:Int)*n≤144:=fun i hi=>⟨Int.mul_nonneg (by omega) (by omega),Int.le_trans (Int.mul_le_mul (by omega:(i:Int)≤12) (by omega:(n:Int)≤12) (by omega) (by omega)) (by omega)⟩
 have hres:(rIden n).tuples=(List.range n).map fun i:Nat=>(i:Int)*n+i:=by
  refine(cl_eq (up_pairs (fun i j h=>?_) n) fun x=>?_).symm
  ·have:(i:Int)*n≤(j:Int)*n:=Int.mul_le_mul_of_nonneg_right (by omega) (by omega)
   omega
  ·constructor
   ·intro hx
    obtain⟨i,hi,rfl⟩:=List.mem_map.1 hx
    have hi:=List.mem_range.1 hi
    have:=hb i hi
    exact⟨⟨by omega,by omega⟩,i,by omega,by omega,rfl⟩
   ·rintro⟨_,y,h0,h1,rfl⟩
    exact List.mem_map.2 ⟨y.toNat,List.mem_range.2 (by omega),by rw[Int.toNat_of_nonneg h0]⟩
 refine AFun.of hT Tryz.func74 rfl rfl (by simp) (AD.run hT hmix ?_)
 refine AD.loopI (fun x:Nat×List AV=>x.1≤n∧x.2=((List.range x.1).map fun i:Nat=>(i:Int)*n+i).map eI) (fun x=>n - x.1) (fun x=>[(0,.p (eI n)),(2,.loc 2 0),(3,.loc 3 0),(6,.p (eI n)),(7,eint .i64 x.1)]) (fun x=>[(2,.box 50 [.p (eI 0),.full 1 []]),(3,.box 50 [.p (eI 2),.own 1 x.2 18]),(18,.tail x.2.length)]) (0,[]) ⟨Nat.zero_le _,rfl⟩ .of fun ⟨i,es⟩ ⟨g1,g2⟩=>AD.run hT hmix ?_
 dsimp only at g1 g2 ⊢
 have hes:es.length=i:=by rw[g2];simp
 refine bgs (fun h2=>?_) (fun h2=>?_)
 ·replace h2:=odt h2
  have:=hb i (by omega)
  refine ngo_in (by omega) (by omega) (ngo_in (by omega) (by omega) ⟨rfl,⟨by simp;omega,by simp;omega⟩,ngo_in (by omega) (by omega) ⟨(i+1,es++[eI ((i:Int)*n+i)]),⟨by dsimp only;omega,?_⟩,by dsimp only;omega,.of⟩⟩)
  dsimp only
  rw[List.range_succ,List.map_append,List.map_append,g2];rfl
 ·replace h2:=of_decide_eq_false h2
  obtain rfl:i=n:=by omega
  exact⟨_,_,rfl,rfl,by rw[g2,← hres];rfl⟩
theorem overF1(n:Int)(k:Nat)(hn:0<n∧n≤12)(x:Int)(hx:0≤x∧x<2000):AFun Tryz.prog 186 [eI x,.ref [eI (n ^ k)]] (.p (eI (x / n ^ k))):=by
 have hp:0<n ^ k:=Int.pow_pos hn.1
 have h1:0≤x / n ^ k:=Int.ediv_nonneg hx.1 (by omega)
 have h2:x / n ^ k≤x:=Int.ediv_le_self _ hx.1
 refine AFun.of hT Tryz.func186 rfl rfl (by simp) (AD.run hT hmix ?_)
 have h3:IntKind.i64.wrap (x.tdiv (n ^ k))=x / n ^ k:=by rw[Int.tdiv_eq_ediv_of_nonneg hx.1];exact wrap64_in (by omega) (by omega)
 refine⟨by omega,x / n ^ k,h3,?_⟩
 exact⟨_,_,rfl,rfl,rfl⟩
theorem overF2(n:Int)(k:Nat)(hn:0<n∧n≤12){r:List Int}{l:List (Int×Int)}(h:Cnt r (fun v=>v / n ^ k) l)(x:Int)(hx:0≤x∧x<2000):AFun Tryz.prog 187 [eI x,mref l,.ref [.fn (.func 186) [] [.ref [eI (n ^ k)]]]] (.p (eB (decide (∀ v∈r,v / n ^ k≠x / n ^ k)))):=by
 refine AFun.of hT Tryz.func187 rfl rfl (by simp) (AD.run hT hmix ?_)
 refine .pure [eI x,.ref [eI (n ^ k)]] _ rfl (overF1 n k hn x hx) ?_
 refine mgo_ints (fun v hv=>?_) (fun hv=>?_)
 ·have h1:=h.pos _ _ hv
  obtain⟨y,hy,e⟩:=(h.key _).1 ⟨v,hv⟩
  exact⟨by kernel_rfl,_,_,rfl,rfl,by rw[decide_eq_false (fun h=>h y hy e)];rw[show(v==0)=false by simp;omega];rfl⟩
 ·have:∀ v∈r,v / n ^ k≠x / n ^ k:=fun y hy e=>by
   obtain⟨w,hw⟩:=(h.key (x / n ^ k)).2 ⟨y,hy,e⟩
   exact hv w hw
  exact⟨by kernel_rfl,_,_,rfl,rfl,by rw[decide_eq_true this];rfl⟩
def prodL(P:Int)(a b:List Int):List Int:=a.flatMap fun u=>b.map fun v=>u*P+v
theorem prodL_up{P:Int}(b:List Int)(hb:Up b)(hr:∀ v∈b,0≤v∧v<P):∀ (a:List Int),Up a→Up (prodL P a b)
 | [],_=>List.Pairwise.nil
 | u::a,ha=>by
  have ha':=List.pairwise_cons.1 ha
  rw[prodL,List.flatMap_cons]
  refine List.pairwise_append.2 ⟨List.pairwise_map.2 (hb.imp fun h=>by omega),prodL_up b hb hr a ha'.2,fun x hx y hy=>?_⟩
  obtain⟨v,hv,rfl⟩:=List.mem_map.1 hx
  obtain⟨u',hu',hy⟩:=List.mem_flatMap.1 hy
  obtain⟨v',hv',rfl⟩:=List.mem_map.1 hy
  have h1:=ha'.1 u' hu'
  have h2:=hr v hv
  have h3:=hr v' hv'
  have h4:(u+1)*P≤u'*P:=Int.mul_le_mul_of_nonneg_right (by omega) (by omega)
  rw[Int.add_mul,Int.one_mul] at h4
  omega
theorem up_len{l:List Int}(h:Up l)(hr:∀ x∈l,0≤x∧x<2000):l.length≤2000:=by
 have:∀ (l:List Int) (lo:Int),Up l→(∀ x∈l,lo≤x∧x<2000)→(l.length:Int)≤max 0 (2000 - lo):=by
  intro l
  induction l with
  | nil=>intro lo _ _;simp;omega
  | cons x r ih=>
   intro lo h hr
   have h':=List.pairwise_cons.1 h
   have h1:=hr x (List.mem_cons_self ..)
   have:=ih (x+1) h'.2 fun y hy=>⟨by have:=h'.1 y hy;omega,(hr y (List.mem_cons_of_mem _ hy)).2⟩
   simp only[List.length_cons]
   omega
 have:=this l 0 h hr
 omega
end Go.Ab
namespace Go.Ab
open Go Go.RowKit
mutual
theorem renE_inv(d k:Nat):∀ e:EV,renE d k (renE d k e)=e
 | .dead=>rfl
 | .p _=>rfl
 | .loc j off=>by simp only[renE,sw_sw]
 | .own sz es j=>by simp only[renE,sw_sw]
 | .full _ _=>rfl
 | .eptr _ _=>rfl
 | .arr sz j off n=>by simp only[renE,sw_sw]
 | .agg cs=>by simp only[renE,renL_inv d k cs]
 | .fn f a b=>by simp only[renE,renL_inv d k a,renL_inv d k b]
 | .tup vs=>by simp only[renE,renL_inv d k vs]
 | .mtok j=>by simp only[renE,sw_sw]
theorem renL_inv(d k:Nat):∀ l:List EV,renE.renL d k (renE.renL d k l)=l
 | []=>rfl
 | e::r=>by simp only[renE.renL,renE_inv d k e,renL_inv d k r]
end
theorem renO_inv(d k:Nat)(o:AObj):renO d k (renO d k o)=o:=by
 cases o <;> simp only[renO,renL_inv]
theorem renHp_inv(d k:Nat)(H:Hp):renHp d k (renHp d k H)=H:=by
 funext j;simp only[renHp,sw_sw,renO_inv]
theorem hp_renH(d k:Nat)(h:AHp):hp (renH d k h)=renHp d k (hp h):=funext fun j=>hp_ren d k h j
theorem Gh.ren_inv(g:Gh)(d k:Nat):(g.ren d k).ren d k=g:=by
 cases g;simp only[Gh.ren,sw_sw]
theorem WInv.ren{g H w}(hi:WInv g H w)(d k:Nat):WInv (g.ren d k) (renHp d k H) w:=by
 refine⟨hi.fz,fun j=>?_,fun i j b h1 h2=>?_⟩
 ·have hob:=hi.obj (sw d k j)
  simp only[renHp]
  cases hq:H (sw d k j) with
  | gone=>trivial
  | lost=>trivial
  | tail m=>rw[hq] at hob;exact hob
  | map kp es=>rw[hq] at hob;exact hob
  | ext e=>rw[hq] at hob;exact hob
  | box t cs=>
   rw[hq] at hob
   refine⟨fun h0=>?_,fun hlt=>?_⟩
   ·have:=hob.1 h0
    exact List.eq_nil_of_length_eq_zero (by rw[renL_length,this];rfl)
   ·obtain⟨vs,h1,h2,h3,h4,h5⟩:=hob.2 hlt
    refine⟨vs,h1,by rw[renL_length];exact h2,h3,fun i v x hv hx=>?_,h5⟩
    rw[renL_get] at hx
    cases hq:cs[i]? with
    | none=>rw[hq] at hx;cases hx
    | some y=>rw[hq] at hx;cases hx;exact(h4 i v y hv hq).ren d k
 ·have:=hi.inj _ _ b (Bset.ren h1) (Bset.ren h2)
  have h3:=congrArg (sw d k) this
  rwa [sw_sw,sw_sw] at h3
theorem renO_eq{d k:Nat}{o o':AObj}(h:renO d k o=o'):o=renO d k o':=by rw[← h,renO_inv]
theorem GLe.ren{g H g' H'}(h:GLe g H g' H')(d k:Nat):GLe (g.ren d k) (renHp d k H) (g'.ren d k) (renHp d k H'):=by
 refine⟨h.fz,fun j t cs hj=>?_,fun j hj=>?_,fun j m hj=>?_,fun j kp es hj=>?_⟩
 ·rcases h.box (sw d k j) t _ (renO_eq hj) with h1 | ⟨h1,h2,cs',h3,h4⟩
  ·exact .inl (by simp only[renHp,h1,renO])
  ·exact .inr ⟨h1,h2,renE.renL d k cs',by simp only[renHp,h3,renO],by rw[renL_length,h4,renL_length]⟩
 ·have:=h.lost (sw d k j) (renO_eq hj)
  simp only[renHp,this,renO]
 ·obtain⟨m',h1,h2,h3⟩:=h.tail (sw d k j) m (renO_eq hj)
  exact⟨m',by simp only[renHp,h1,renO],h2,h3⟩
 ·rcases h.map (sw d k j) kp es (renO_eq hj) with h1 | ⟨h1,es',h2⟩
  ·exact .inl (by simp only[renHp,h1,renO])
  ·exact .inr ⟨h1,es',by simp only[renHp,h2,renO]⟩
theorem Fr.ren{g H w g' H' w' n ds ro}(h:Fr ⟨w,g,H,n,ds,ro⟩ g' H' w')(d k:Nat):Fr ⟨w,g.ren d k,renHp d k H,n,ds,ro⟩ (g'.ren d k) (renHp d k H') w':=by
 have hX:∀ b,Ctx.X ⟨w,g,H,n,ds,ro⟩ b→Ctx.X ⟨w,g.ren d k,renHp d k H,n,ds,ro⟩ b:=fun b ⟨j,hj⟩=>by
  refine⟨sw d k j,?_⟩
  have hj:Bset g j (H j) b:=hj
  show Bset (g.ren d k) (sw d k j) (renHp d k H (sw d k j)) b
  rw[← Gh.ren_inv g d k,← sw_sw d k j,← renHp_inv d k H] at hj
  have:=Bset.ren (g:=g.ren d k) (H:=renHp d k H) (d:=d) (k:=k) (j:=sw d k (sw d k j)) (by simpa only[renHp_inv,Gh.ren_inv] using hj)
  simpa only[sw_sw] using this
 have hX2:∀ b,Ctx.X ⟨w,g.ren d k,renHp d k H,n,ds,ro⟩ b→Ctx.X ⟨w,g,H,n,ds,ro⟩ b:=fun b ⟨j,hj⟩=>⟨_,Bset.ren hj⟩
 refine⟨h.kept.mono fun b _ hb=>hX b hb,h.fz,fun b hb hx=>h.low b hb fun hx'=>hx (hX b hx'),fun j b hb=>?_,fun j t cs hj=>?_,fun j kp es hj=>?_,fun j m hj=>?_⟩
 ·rcases h.own _ b (Bset.ren hb) with h1 | h1
  ·exact .inl (hX b h1)
  ·exact .inr h1
 ·rcases h.box (sw d k j) t _ (renO_eq hj) with h1 | ⟨cs',h3,h4,h1,h2⟩
  ·exact .inl (by simp only[renHp,h1,renO])
  ·exact .inr ⟨renE.renL d k cs',by simp only[renHp,h3,renO],by rw[renL_length,h4,renL_length],h1,h2⟩
 ·rcases h.map (sw d k j) kp es (renO_eq hj) with h1 | ⟨es',h2,h1⟩
  ·exact .inl (by simp only[renHp,h1,renO])
  ·exact .inr ⟨es',by simp only[renHp,h2,renO],h1⟩
 ·obtain⟨m',h1,h2,h3⟩:=h.tail (sw d k j) m (renO_eq hj)
  exact⟨m',by simp only[renHp,h1,renO],h2,h3⟩
theorem EFun.ren{P:Program}{f:FuncId}{args:List EV}{h0:AHp}{y:EV}{h1:AHp}(h:EFun P f args h0 y h1)(d k:Nat):EFun P f (renE.renL d k args) (renH d k h0) (renE d k y) (renH d k h1):=by
 refine⟨h.1,fun g w vs hi hl hr=>?_⟩
 rw[hp_renH] at hi hr ⊢
 have hi':=hi.ren d k
 rw[renHp_inv] at hi'
 refine(h.2 (g.ren d k) w vs hi' (by rw[hl,renL_length]) fun i v x hv hx=>?_).mono ?_
 ·have:=(hr i v (renE d k x) hv (by rw[renL_get,hx];rfl)).ren d k
  rwa [renHp_inv,renE_inv] at this
 ·rintro e w' ⟨v,g',rfl,h1',h2,h3,h4⟩
  have a1:=h1'.ren d k
  have a3:=h3.ren d k
  rw[Gh.ren_inv] at a1 a3
  refine⟨v,g'.ren d k,rfl,?_,?_,?_,?_⟩
  ·rw[hp_renH];exact a1
  ·rw[hp_renH];exact h2.ren d k
  ·rw[hp_renH];exact a3
  ·rw[hp_renH];exact h4.ren d k
def argLe:List EV→List EV→Prop
 | [],[]=>True
 | a::r,b::s=>(a=b∨∃ y,toP a=some y∧b=.p y)∧argLe r s
 | _,_=>False
theorem argLe_at:∀ {a b:List EV},argLe a b→a.length=b.length∧∀ (i:Nat) (y:EV),b[i]?=some y→∃ x,a[i]?=some x∧(x=y∨∃ z,toP x=some z∧y=.p z)
 | [],[],_=>⟨rfl,fun i y h=>by simp at h⟩
 | [],_::_,h=>h.elim
 | _::_,[],h=>h.elim
 | a::r,b::s,h=>by
  obtain⟨h1,h2⟩:=argLe_at h.2
  refine⟨by simp[h1],fun i y hy=>?_⟩
  cases i with
  | zero=>simp at hy;subst hy;exact⟨a,rfl,h.1⟩
  | succ i=>simpa using h2 i y (by simpa using hy)
theorem EFun.le{P:Program}{f:FuncId}{args:List EV}{h0:AHp}{y:EV}{h1:AHp}(h:EFun P f args h0 y h1){args':List EV}(ha:argLe args' args):EFun P f args' h0 y h1:=by
 obtain⟨e1,e2⟩:=argLe_at ha
 refine⟨h.1,fun g w vs hi hl hr=>h.2 g w vs hi (hl.trans e1) fun i v x hv hx=>?_⟩
 obtain⟨x',hx',h3⟩:=e2 i x hx
 have:=hr i v x' hv hx'
 rcases h3 with rfl | ⟨z,hz,rfl⟩
 ·exact this
 ·exact .p _ _ (toP_rep hz this)
end Go.Ab
namespace Go.Proofs
open Go.Shelf
def Tryz.lays125_ren:Go.Shelf.Ren:=⟨fun | 125=>77 | 128=>135 | 129=>136 | n=>n,fun | 46=>145 | 3=>3 | 51=>39 | 53=>214 | 4=>4 | 5=>5 | 9=>9 | n=>n,fun | n=>n⟩
theorem Tryz.lays125:Go.Proofs.Lays.n125 Tryz.prog Tryz.lays125_ren:={
 mixed:=by kernel_rfl
 f125:=Tryz.func77.trans (congrArg some (by kernel_rfl))
 f128:=Tryz.func135.trans (congrArg some (by kernel_rfl))
 f129:=Tryz.func136.trans (congrArg some (by kernel_rfl))
 t3:=Tryz.underlying3
 a3:=Tryz.isAgg3
 z3:=Tryz.sizeOf3
 v3:=Tryz.zeroValue3
 t4:=Tryz.underlying4
 a4:=Tryz.isAgg4
 z4:=Tryz.sizeOf4
 v4:=Tryz.zeroValue4
 t5:=Tryz.underlying5
 a5:=Tryz.isAgg5
 z5:=Tryz.sizeOf5
 v5:=Tryz.zeroValue5
 t9:=Tryz.underlying9
 a9:=Tryz.isAgg9
 z9:=Tryz.sizeOf9
 v9:=Tryz.zeroValue9
 t46:=Tryz.underlying145
 a46:=Tryz.isAgg145
 z46:=Tryz.sizeOf145
 v46:=Tryz.zeroValue145
 t51:=Tryz.underlying39
 a51:=Tryz.isAgg39
 z51:=Tryz.sizeOf39
 v51:=Tryz.zeroValue39
 t53:=Tryz.underlying214
 a53:=Tryz.isAgg214
 z53:=Tryz.sizeOf214
 v53:=Tryz.zeroValue214 }
theorem Tryz.bits_Len(x:Int)(w:World)(h0:0≤x)(h1:x≤18446744073709551615):
 Calls Tryz.prog 77 #[.int .u64 x] w fun e w'=>e=.returned (.int .i64 (Lib.bitLen x.toNat))∧w'=w:=Any.bits_Len Tryz.lays125 x w h0 h1
def Tryz.lays122_ren:Go.Shelf.Ren:=⟨fun | 122=>96 | 215=>162 | n=>n,fun | 3=>3 | 4=>4 | n=>n,fun | n=>n⟩
theorem Tryz.lays122:Go.Proofs.Lays.n122 Tryz.prog Tryz.lays122_ren:={
 mixed:=by kernel_rfl
 f122:=Tryz.func96.trans (congrArg some (by kernel_rfl))
 f215:=Tryz.func162.trans (congrArg some (by kernel_rfl))
 t3:=Tryz.underlying3
 a3:=Tryz.isAgg3
 z3:=Tryz.sizeOf3
 v3:=Tryz.zeroValue3
 t4:=Tryz.underlying4
 a4:=Tryz.isAgg4
 z4:=Tryz.sizeOf4
 v4:=Tryz.zeroValue4 }
open Go.RowKit in
theorem Tryz.cmp_Compare_int(x y:Int)(w:World):
 Calls Tryz.prog 96 #[.int .i64 x,.int .i64 y] w fun e w'=>e=.returned (.int .i64 (Lib.compareInt x y))∧w'=w:=Any.cmp_Compare_int Tryz.lays122 x y w
def Tryz.lays189_ren:Go.Shelf.Ren:=⟨fun | 189=>36 | 125=>77 | 257=>76 | 128=>135 | 129=>136 | 294=>126 | 295=>127 | 296=>128 | 297=>129 | 298=>130 | 299=>131 | 216=>132 | 300=>133 | 301=>134 | 328=>192 | 329=>193 | 330=>194 | 331=>195 | 332=>196 | 215=>162 | 343=>234 | n=>n,fun | 28=>28 | 3=>3 | 46=>145 | 0=>0 | 51=>39 | 53=>214 | 4=>4 | 183=>205 | 182=>204 | 131=>210 | 5=>5 | 9=>9 | 218=>265 | 222=>269 | 228=>306 | 229=>307 | n=>n,fun | n=>n⟩
theorem Tryz.lays189:Go.Proofs.Lays.n189 Tryz.prog Tryz.lays189_ren:={
 mixed:=by kernel_rfl
 f125:=Tryz.func77.trans (congrArg some (by kernel_rfl))
 f128:=Tryz.func135.trans (congrArg some (by kernel_rfl))
 f129:=Tryz.func136.trans (congrArg some (by kernel_rfl))
 f189:=Tryz.func36.trans (congrArg some (by kernel_rfl))
 f215:=Tryz.func162.trans (congrArg some (by kernel_rfl))
 f216:=Tryz.func132.trans (congrArg some (by kernel_rfl))
 f257:=Tryz.func76.trans (congrArg some (by kernel_rfl))
 f294:=Tryz.func126.trans (congrArg some (by kernel_rfl))
 f295:=Tryz.func127.trans (congrArg some (by kernel_rfl))
 f296:=Tryz.func128.trans (congrArg some (by kernel_rfl))
 f297:=Tryz.func129.trans (congrArg some (by kernel_rfl))
 f298:=Tryz.func130.trans (congrArg some (by kernel_rfl))
 f299:=Tryz.func131.trans (congrArg some (by kernel_rfl))
 f300:=Tryz.func133.trans (congrArg some (by kernel_rfl))
 f301:=Tryz.func134.trans (congrArg some (by kernel_rfl))
 f328:=Tryz.func192.trans (congrArg some (by kernel_rfl))
 f329:=Tryz.func193.trans (congrArg some (by kernel_rfl))
 f330:=Tryz.func194.trans (congrArg some (by kernel_rfl))
 f331:=Tryz.func195.trans (congrArg some (by kernel_rfl))
 f332:=Tryz.func196.trans (congrArg some (by kernel_rfl))
 f343:=Tryz.func234.trans (congrArg some (by kernel_rfl))
 t0:=Tryz.underlying0
 a0:=Tryz.isAgg0
 z0:=Tryz.sizeOf0
 v0:=Tryz.zeroValue0
 t3:=Tryz.underlying3
 a3:=Tryz.isAgg3
 z3:=Tryz.sizeOf3
 v3:=Tryz.zeroValue3
 t4:=Tryz.underlying4
 a4:=Tryz.isAgg4
 z4:=Tryz.sizeOf4
 v4:=Tryz.zeroValue4
 t5:=Tryz.underlying5
 a5:=Tryz.isAgg5
 z5:=Tryz.sizeOf5
 v5:=Tryz.zeroValue5
 t9:=Tryz.underlying9
 a9:=Tryz.isAgg9
 z9:=Tryz.sizeOf9
 v9:=Tryz.zeroValue9
 t28:=Tryz.underlying28
 a28:=Tryz.isAgg28
 z28:=Tryz.sizeOf28
 v28:=Tryz.zeroValue28
 t46:=Tryz.underlying145
 a46:=Tryz.isAgg145
 z46:=Tryz.sizeOf145
 v46:=Tryz.zeroValue145
 t51:=Tryz.underlying39
 a51:=Tryz.isAgg39
 z51:=Tryz.sizeOf39
 v51:=Tryz.zeroValue39
 t53:=Tryz.underlying214
 a53:=Tryz.isAgg214
 z53:=Tryz.sizeOf214
 v53:=Tryz.zeroValue214
 t131:=Tryz.underlying210
 a131:=Tryz.isAgg210
 z131:=Tryz.sizeOf210
 v131:=Tryz.zeroValue210
 t182:=Tryz.underlying204
 a182:=Tryz.isAgg204
 z182:=Tryz.sizeOf204
 v182:=Tryz.zeroValue204
 t183:=Tryz.underlying205
 a183:=Tryz.isAgg205
 z183:=Tryz.sizeOf205
 v183:=Tryz.zeroValue205
 t218:=Tryz.underlying265
 a218:=Tryz.isAgg265
 z218:=Tryz.sizeOf265
 v218:=Tryz.zeroValue265
 t222:=Tryz.underlying269
 a222:=Tryz.isAgg269
 z222:=Tryz.sizeOf269
 v222:=Tryz.zeroValue269
 t228:=Tryz.underlying306
 a228:=Tryz.isAgg306
 z228:=Tryz.sizeOf306
 v228:=Tryz.zeroValue306
 t229:=Tryz.underlying307
 a229:=Tryz.isAgg307
 z229:=Tryz.sizeOf307
 v229:=Tryz.zeroValue307 }
open Go.Sort Go.RowKit in
theorem Tryz.slices_Sort_int(blk off cap:Nat)(zs:List Int)(w:World)(hH:Holds (Value.int .i64) w blk off zs.toArray)(hblk:blk<w.heap.size)(hsz:zs.length<4611686018427387904):
 Calls Tryz.prog 36 #[.slice (some ⟨blk,off,none⟩) zs.length cap] w fun e w'=>
  e=.returned (.tuple #[])∧∃ n os,w'=grow (putRow (Value.int .i64) (Sort.ahead w n) blk off (zs.mergeSort fun x y=>decide (x≤y)).toArray) os:=Any.slices_Sort_int Tryz.lays189 blk off cap zs w hH hblk hsz
def Tryz.laysNm215_ren:Go.Shelf.Ren:=⟨fun | 15=>189 | n=>n,fun | 22=>28 | 3=>3 | 4=>4 | n=>n,fun | n=>n⟩
theorem Tryz.laysNm215:Go.Proofs.Lays2.n15 Tryz.prog Tryz.laysNm215_ren:={
 mixed:=by kernel_rfl
 f15:=Tryz.func189.trans (congrArg some (by kernel_rfl))
 t3:=Tryz.underlying3
 a3:=Tryz.isAgg3
 z3:=Tryz.sizeOf3
 v3:=Tryz.zeroValue3
 t4:=Tryz.underlying4
 a4:=Tryz.isAgg4
 z4:=Tryz.sizeOf4
 v4:=Tryz.zeroValue4
 t22:=Tryz.underlying28
 a22:=Tryz.isAgg28
 z22:=Tryz.sizeOf28
 v22:=Tryz.zeroValue28
 i3:=by kernel_rfl }
open Go.RowKit Go.Lib in
theorem Tryz.slices_Clone_int(b off n c:Nat)(zs:List Int)(w:World)(hz:n≤zs.length)(hbig:n*8≤140737488355328)(hc:∀ j,j<zs.length→w.cell? ⟨b,off+j,none⟩=some (.int .i64 (zs.getD j 0))):
 Calls Tryz.prog 189 #[.slice (some ⟨b,off,none⟩) n c] w fun e w'=>∃ v',e=.returned v'∧w'.ownsRow w.heap.size 3 1 v' n ((zs.take n).map (Value.int .i64))∧v'≠.slice none 0 0∧Below w.heap.size w w':=Any.slices_Clone_int Tryz.laysNm215 b off n c zs w hz hbig hc
open Go.RowKit Go.Lib in
theorem Tryz.slices_Clone_int_nil(n c:Nat)(w:World):
 Calls Tryz.prog 189 #[.slice none n c] w fun e w'=>e=.returned (.slice none 0 0)∧w'=w:=Any.slices_Clone_int_nil Tryz.laysNm215 n c w
open Go.RowKit Go.Lib in
theorem Tryz.slices_Clone_int_zero(a:Addr)(c:Nat)(w:World):
 Calls Tryz.prog 189 #[.slice (some a) 0 c] w fun e w'=>∃ v',e=.returned v'∧w'.ownsRow w.heap.size 3 1 v' 0 []∧v'≠.slice none 0 0∧Below w.heap.size w w':=Any.slices_Clone_int_zero Tryz.laysNm215 a c w
def Tryz.laysNm220_ren:Go.Shelf.Ren:=⟨fun | 20=>229 | n=>n,fun | 22=>28 | 3=>3 | 4=>4 | 0=>0 | n=>n,fun | n=>n⟩
theorem Tryz.laysNm220:Go.Proofs.Lays2.n20 Tryz.prog Tryz.laysNm220_ren:={
 mixed:=by kernel_rfl
 f20:=Tryz.func229.trans (congrArg some (by kernel_rfl))
 t0:=Tryz.underlying0
 a0:=Tryz.isAgg0
 z0:=Tryz.sizeOf0
 v0:=Tryz.zeroValue0
 t3:=Tryz.underlying3
 a3:=Tryz.isAgg3
 z3:=Tryz.sizeOf3
 v3:=Tryz.zeroValue3
 t4:=Tryz.underlying4
 a4:=Tryz.isAgg4
 z4:=Tryz.sizeOf4
 v4:=Tryz.zeroValue4
 t22:=Tryz.underlying28
 a22:=Tryz.isAgg28
 z22:=Tryz.sizeOf28
 v22:=Tryz.zeroValue28
 i3:=by kernel_rfl }
open Go.RowKit Go.Lib Go.Sort in
theorem Tryz.slices_Compact_int(blk off cap:Nat)(zs:List Int)(w:World)(hH:Holds (Value.int .i64) w blk off zs.toArray)(hsz:zs.length≤9223372036854775807)(hcap:zs.length≤cap):
 Calls Tryz.prog 229 #[.slice (some ⟨blk,off,none⟩) zs.length cap] w fun e w'=>e=.returned (.slice (some ⟨blk,off,none⟩) (Lib.compact zs).length cap)∧∃ q,w'=putRow (Value.int .i64) (Sort.ahead w q) blk off (Lib.compact zs++List.replicate (zs.length - (Lib.compact zs).length) 0).toArray:=Any.slices_Compact_int Tryz.laysNm220 blk off cap zs w hH hsz hcap
open Go.RowKit Go.Lib Go.Sort in
theorem Tryz.slices_Compact_int_empty(a:Option Addr)(cap:Nat)(w:World):
 Calls Tryz.prog 229 #[.slice a 0 cap] w fun e w'=>e=.returned (.slice a 0 cap)∧w'=w:=Any.slices_Compact_int_empty Tryz.laysNm220 a cap w
open Go.RowKit Go.Sort in
theorem Tryz.slices_Sort_int_none(p:Option Addr)(cap:Nat)(w:World):
 Calls Tryz.prog 36 #[.slice p 0 cap] w fun e w'=>e=.returned (.tuple #[])∧w'=w:=Any.slices_Sort_int_none Tryz.lays189 p cap w
end Go.Proofs
namespace Go.Ab
open Go Go.Proofs Go.RowKit
set_option maxRecDepth 10000
def rvOf(p:Option Addr)(cap:Nat):Option Nat→Value
 | none=>.tuple #[]
 | some m=>.slice p m cap
def yvOf(k:Nat):Option Nat→EV
 | none=>.tup []
 | some m=>.arr 1 k 0 m
theorem FzOk.kept{fz:Fz}{w w':World}(h:FzOk fz w)(hk:Kept (fun _=>False) w w'):FzOk fz w':=fun b o v hz=>by
 have h1:=h b o v hz
 rw[pk_congr (hk.block b (pk_lt h1) (fun h=>h))]
 exact h1
theorem FzStep.same(N:Nat)(fz:Fz):FzStep N fz fz:=⟨FzLe.refl _,fun _ _=>rfl⟩
theorem EFun.ints{P:Program}{f:FuncId}(k0:Nat)(hc:callable P f){t:TypeId}{xs ys:List Int}(hl:ys.length=xs.length)(res:Option Nat)(hm:∀ m,res=some m→m≤xs.length)
 (hcall:∀ (b cap:Nat) (w:World) (cur:List Value),w.heap[b]?=some (.cells cur.toArray t (0,0))→cur.take xs.length=xs.map (Value.int .i64)→xs.length≤cap→cap≤cur.length→xs≠[] →
  Calls P f #[.slice (some ⟨b,0,none⟩) xs.length cap] w fun e w'=>e=.returned (rvOf (some ⟨b,0,none⟩) cap res)∧Kept (fun _=>False) (w.setRow b (ys.map (Value.int .i64)++cur.drop xs.length).toArray) w')
 (h0:xs=[]→∀ (p:Option Addr) (cap:Nat) (w:World),Calls P f #[.slice p 0 cap] w fun e w'=>e=.returned (rvOf p cap res)∧w'=w):
 EFun P f [.arr 1 k0 0 xs.length] [(k0,.box t ((xs.map eI).map .p))] (yvOf k0 res) [(k0,.box t ((ys.map eI).map .p))]:=by
 refine⟨hc,fun g w vs hi hlen hr=>?_⟩
 obtain⟨v,rfl⟩:∃ v,vs=[v]:=by
  match vs,hlen with
  | [v],_=>exact⟨v,rfl⟩
 have hv:=hr 0 v _ rfl rfl
 have hk:hp [(k0,AObj.box t ((xs.map eI).map .p))] k0=.box t ((xs.map eI).map .p):=by rw[hp_cons,if_pos rfl]
 have hob:=hi.obj k0
 rw[hk] at hob
 by_cases he:xs=[]
 ·subst he
  obtain rfl:ys=[]:=List.length_eq_zero_iff.1 hl
  cases hv with
  | arr p sz k off n cap hcap hn hne ho=>
   refine(h0 rfl p cap w).mono ?_
   rintro e w' ⟨rfl,rfl⟩
   refine⟨_,g,rfl,GLe.refl _ _,hi,Fr.start g _ _ 0 [] none,?_⟩
   cases res with
   | none=>exact .tup [] [] rfl (by intro i v x h;simp at h)
   | some m=>
    have:=hm m rfl
    obtain rfl:m=0:=by simpa using this
    exact .arr p 1 k0 0 0 cap hcap hn hne ho
 ·have hpos:0<xs.length:=List.length_pos_iff.2 he
  cases hv with
  | arr p sz k off n cap hcap hn hne ho=>
   rcases ho with ho | ⟨t',cs',ho,hle,hp2⟩
   ·rw[hk] at ho;cases ho
   ·rw[hk] at ho
    cases ho
    rcases hp2 with ⟨hlt,rfl,hcl⟩ | ⟨hz,rfl⟩
    ·obtain⟨cur,hh,⟨hv1,hv2⟩,ho1,hre,hfz⟩:=hob.2 hlt
     have hv2':xs.length≤cur.length:=by simpa using hv2
     have htk:cur.take xs.length=xs.map (Value.int .i64):=by
      refine List.ext_getElem? fun j=>?_
      by_cases hj:j<xs.length
      ·have h3:j<cur.length:=by omega
       have h4:=hre j cur[j] (.p (eI xs[j])) (List.getElem?_eq_getElem h3) (by simp[hj])
       rw[List.getElem?_take_of_lt hj,List.getElem?_eq_getElem h3,List.getElem?_map,List.getElem?_eq_getElem hj]
       generalize cur[j]=v at h4
       cases h4 with
       | p _ _ h4=>cases h4 with
        | imm _ _=>rfl
      ·rw[List.getElem?_eq_none (by simp;omega),List.getElem?_eq_none (by simp;omega)]
     have hone:Ones (ys.map (Value.int .i64)++cur.drop xs.length):=by
      intro v hv
      rcases List.mem_append.1 hv with hv | hv
      ·obtain⟨x,_,rfl⟩:=List.mem_map.1 hv;rfl
      ·exact ho1 v (List.mem_of_mem_drop hv)
     refine(hcall (g.blk k0) cap w cur hh htk hcap (by omega) he).mono ?_
     rintro e w' ⟨rfl,hkp⟩
     have hW:=hi.setBox (cs':=(ys.map eI).map .p) hk hlt (by simp[hl]) (vs:=ys.map (Value.int .i64)++cur.drop xs.length) (by simp;omega) hone fun i v x hv hx=>?_
     ·have hF:=(Fr.start g _ w 0 [] none).setBox (cs':=(ys.map eI).map .p) hk hlt (by simp[hl]) (ys.map (Value.int .i64)++cur.drop xs.length).toArray
      have hC:=hW.call hkp (FzStep.same _ _) (FzOk.kept hW.fz hkp)
      have hup:upd (hp [(k0,AObj.box t ((xs.map eI).map .p))]) k0 (.box t ((ys.map eI).map .p))=hp [(k0,.box t ((ys.map eI).map .p))]:=by
       funext k
       by_cases h:k=k0
       ·subst h;rw[upd_same,hp_cons,if_pos rfl]
       ·rw[upd_ne h,hp_cons,hp_cons,if_neg h,if_neg h]
      rw[hup] at hW hF hC
      have hle:=GLe.of_box (g:=g) (cs':=(ys.map eI).map .p) hk (by simp[hl])
      rw[hup] at hle
      refine⟨_,g,rfl,hle,hC.1,hF.call hkp (FzStep.same _ _),?_⟩
      cases res with
      | none=>exact .tup [] [] rfl (by intro i v x h;simp at h)
      | some m=>
       have:=hm m rfl
       exact .arr _ 1 k0 0 m cap (by omega) (by omega) (fun _=>⟨_,rfl⟩) (.inr ⟨t,_,by rw[hp_cons,if_pos rfl],by simp;omega,.inl ⟨hlt,rfl,hcl⟩⟩)
     ·rw[List.getElem?_map,List.getElem?_map] at hx
      cases hy:ys[i]? with
      | none=>rw[hy] at hx;simp at hx
      | some z=>
       rw[hy] at hx
       simp only[Option.map_some,Option.some.injEq] at hx
       subst hx
       have hi2:=(List.getElem?_eq_some_iff.1 hy).1
       rw[List.getElem?_append_left (by simpa using hi2),List.getElem?_map,hy] at hv
       simp only[Option.map_some,Option.some.injEq] at hv
       subst hv
       exact .p _ _ (.imm _ rfl)
    ·omega
theorem heap_putRow{w:World}{g n:Nat}{os:Array Obj}{cur:List Value}{e:TypeId}(xs ys:List Int)(hl:ys.length=xs.length)(hle:xs.length≤cur.length)(hb:w.heap[g]?=some (.cells cur.toArray e (0,0))):
 Kept (fun _=>False) (w.setRow g (ys.map (Value.int .i64)++cur.drop xs.length).toArray) (Sort.grow (Sort.putRow (Value.int .i64) (Sort.ahead w n) g 0 ys.toArray) os):=by
 have hg:g<w.heap.size:=(Array.getElem?_eq_some_iff.1 hb).1
 have harr:Sort.putCells (Value.int .i64) 0 ys.toArray cur.toArray=(ys.map (Value.int .i64)++cur.drop xs.length).toArray:=by
  refine Array.ext_getElem? fun j=>?_
  by_cases hj:j<ys.length
  ·simp[Sort.putCells,hj,show j<cur.length by omega]
   rw[List.getElem?_append_left (by simpa using hj)];simp[hj]
  ·by_cases hj2:j<cur.length
   ·simp[Sort.putCells,hj,hj2,List.getElem?_append_right,show ys.length≤j by omega,show xs.length+(j - ys.length)=j by omega]
   ·simp[Sort.putCells,hj,hj2,List.getElem?_append_right,show ys.length≤j by omega,show xs.length+(j - ys.length)=j by omega]
 refine⟨rfl,rfl,rfl,by simp[Sort.grow,Sort.putRow,Sort.mapBlock,Sort.ahead],fun k hk _=>?_⟩
 have hk':k<w.heap.size:=by simpa using hk
 rw[Sort.heap_grow_old _ _ (by simpa using hk')]
 by_cases e:k=g
 ·subst e
  rw[setRow_heap _ _ _ _ _ _ hb]
  simp[Sort.putRow,Sort.mapBlock,Sort.ahead,Array.getElem?_modify,hb,Sort.onCells,harr]
 ·rw[setRow_other _ _ _ _ e]
  simp[Sort.putRow,Sort.mapBlock,Sort.ahead,Array.getElem?_modify,Ne.symm e]
theorem holds_row{w:World}{g:Nat}{cur:List Value}{e:TypeId}{ss:List Int}(hb:w.heap[g]?=some (.cells cur.toArray e (0,0)))(ht:cur.take ss.length=ss.map (Value.int .i64)):Sort.Holds (Value.int .i64) w g 0 ss.toArray:=by
 intro j hj
 have hj':j<ss.length:=by simpa using hj
 refine⟨?_,by simp[World.frozen?,hb]⟩
 have h1:(cur.take ss.length)[j]?=(ss.map (Value.int .i64))[j]?:=by rw[ht]
 rw[List.getElem?_take_of_lt hj'] at h1
 simp only[World.cell?,hb,Nat.zero_add]
 simp only[Option.isSome_none,Bool.false_eq_true,if_false]
 rw[← Array.getElem?_toList,h1]
 simp[hj']
def sortI(l:List Int):List Int:=l.mergeSort fun x y=>decide (x≤y)
theorem sortE(k:Nat)(xs:List Int)(hx:xs.length≤1000000000):EFun Tryz.prog 36 [.arr 1 k 0 xs.length] [(k,.box 3 ((xs.map eI).map .p))] (.tup []) [(k,.box 3 (((sortI xs).map eI).map .p))]:=by
 have hl:(sortI xs).length=xs.length:=List.length_mergeSort xs
 refine EFun.ints k ⟨_,Tryz.func36,rfl,rfl⟩ hl none (by nofun) (fun b cap w cur hb ht hcap hcl he=>?_) fun he p cap w=>?_
 ·refine(Tryz.slices_Sort_int b 0 cap xs w (holds_row hb ht) (Array.getElem?_eq_some_iff.1 hb).1 (by omega)).mono ?_
  rintro e w' ⟨rfl,n,os,rfl⟩
  exact⟨rfl,heap_putRow xs (sortI xs) hl (by omega) hb⟩
 ·refine(Tryz.slices_Sort_int_none p cap w).mono ?_
  rintro e w' ⟨rfl,rfl⟩
  exact⟨rfl,rfl⟩
theorem compactE(k:Nat)(xs:List Int)(hx:xs.length≤1000000000):EFun Tryz.prog 229 [.arr 1 k 0 xs.length] [(k,.box 3 ((xs.map eI).map .p))] (.arr 1 k 0 (Lib.compact xs).length) [(k,.box 3 (((Lib.compact xs++List.replicate (xs.length - (Lib.compact xs).length) 0).map eI).map .p))]:=by
 have hcl:=Lib.compact_length_le xs
 have hl:(Lib.compact xs++List.replicate (xs.length - (Lib.compact xs).length) 0).length=xs.length:=by simp;omega
 refine EFun.ints k ⟨_,Tryz.func229,rfl,rfl⟩ hl (some (Lib.compact xs).length) (fun m h=>by cases h;exact hcl) (fun b cap w cur hb ht hcap hcl he=>?_) fun he p cap w=>?_
 ·refine(Tryz.slices_Compact_int b 0 cap xs w (holds_row hb ht) (by omega) hcap).mono ?_
  rintro e w' ⟨rfl,n,rfl⟩
  refine⟨rfl,?_⟩
  have:=heap_putRow (n:=n) (os:=#[]) xs _ hl (by omega) hb
  rw[Sort.grow_empty] at this
  exact this
 ·subst he
  refine(Tryz.slices_Compact_int_empty p cap w).mono ?_
  rintro e w' ⟨rfl,rfl⟩
  exact⟨rfl,rfl⟩
theorem okH_one(h0:AHp)(k:Nat)(t:TypeId)(l:List AV):okH h0 [(k,.box t (l.map .p))]=true:=by
 simp only[okH,okL_p,Bool.and_self]
def srt(xs:List Int):List Int:=Lib.compact (sortI xs)
def srtC(xs:List Int):List Int:=srt xs++List.replicate (xs.length - (srt xs).length) 0
theorem sortedE(a:Int)(xs:List Int)(hx:xs.length≤1000000000):EFun Tryz.prog 178 [.p (eI a),.arr 1 9000 0 xs.length] [(9000,.box 3 ((xs.map eI).map .p))] (.agg [.p (eI a),.arr 1 9000 0 (srt xs).length]) [(9000,.box 3 (((srtC xs).map eI).map .p))]:=by
 have hl:(sortI xs).length=xs.length:=List.length_mergeSort xs
 have hc:=compactE 9000 (sortI xs) (by omega)
 rw[hl] at hc
 refine EFun.of hT Tryz.func178 rfl rfl (by simp) rfl (AD.run hT hmix ?_)
 refine .eff [(9000,.box 3 ((xs.map eI).map .p))] [(9000,.box 3 (((sortI xs).map eI).map .p))] _ (sortE 9000 xs hx) ⟨rfl,trivial⟩ rfl rfl (okH_one _ _ _ _) rfl ?_
 refine .eff [(9000,.box 3 (((sortI xs).map eI).map .p))] [(9000,.box 3 (((srtC xs).map eI).map .p))] _ hc ⟨rfl,trivial⟩ rfl rfl (okH_one _ _ _ _) rfl ?_
 exact⟨_,[.agg [.p (eI a),.arr 1 9000 0 (srt xs).length]],_,rfl,.of,rfl,rfl,rfl⟩
end Go.Ab
namespace Go.Ab
open Go Go.Proofs Go.RowKit
theorem info_int:(Tryz.prog.info? 3).map (fun i=>(i.zero,i.size,i.bytes))=some (some (.int .i64 0),1,8):=by kernel_rfl
theorem firstCells_zero(p:Option Addr)(size:Nat)(w:World):(Builtin.firstCells size 0 (.slice p 0 0)).run Tryz.prog w=.ok ([]:List Value).toArray w:=by
 cases p with
 | none=>exact run_firstCells_none w size 0 0 0
 | some b=>exact run_firstCells_some w size 0 b 0 0 [] (by simp) (by simp)
def GrowRes(w:World)(e:Ending)(w':World):Prop:=∃ q cap,e=.returned (.slice q 0 cap)∧Below w.heap.size w w'∧(cap=0∨∃ (b:Nat) (vs:List Value),q=some ⟨b,0,none⟩∧w.heap.size≤b∧w'.heap[b]?=some (.cells vs.toArray 3 (0,0))∧0<vs.length∧cap≤vs.length∧Ones vs)
set_option maxRecDepth 100000 in
set_option maxHeartbeats 2000000 in
theorem grow_p(p:Option Addr)(n:Nat)(w:World)(hn:n≤40000):
 Calls Tryz.prog 230 #[.slice p 0 0,.int .i64 n] w fun e w'=>GrowRes w e w':=by
 by_cases h0:n=0
 ·subst h0
  go_enter Tryz.func230,Tryz.ntmps230
  go_wp2_with fail
  go_ret
  exact⟨_,_,rfl,Below.refl _ _,.inl rfl⟩
 ·obtain⟨i0,hi0,hz0,hz1,hz2⟩:=info_parts info_int
  have h1:¬ ((n:Int)<0):=by omega
  have h4:(n:Int)>0:=by omega
  have h48:n*i0.bytes≤281474976710656:=by rw[hz2];omega
  have hfit:Builtin.nextslicecap (0+n) 0*i0.bytes≤281474976710656:=by
   refine growslice_fits (by omega) ?_
   rw[hz2];omega
  have hrz:∀ ty,(Builtin.append_ #[28,3] ty #[.slice p 0 0,.int .i64 (n:Int)]).run Tryz.prog w=.ok (.slice (some ⟨w.heap.size,0,none⟩) n (grownCap w n 0 3)) (w.drew.alloc (.cells (([]:List Value).toArray++Builtin.zeroCells (Value.int .i64 0).cells n++Builtin.zeroCells (Value.int .i64 0).cells (grownCap w n 0 3 - n)) 3)):=fun ty=>by
   have h:=Lib.run_append_grow_zeros w 28 3 ty 3 i0 _ .i64 .i64 Tryz.underlying28 Tryz.underlying3 hi0 hz0 p 0 0 [] (firstCells_zero p i0.size w.drew) n (by omega) (by rw[hz1];decide) (by omega) (by omega) h48 hfit
   simp only[Nat.zero_add] at h
   exact h
  have hG:=grownCap_ge w n 0 3
  have hG2:=grownCap_le_maxLen w n 0 3 (by unfold maxLen;omega)
  obtain⟨G,hGe⟩:∃ G,G=grownCap w n 0 3:=⟨_,rfl⟩
  rw[← hGe] at hrz hG hG2
  have hG63:G≤9223372036854775807:=by unfold maxLen at hG2;omega
  obtain⟨cur,hcur⟩:∃ c:List Value,c=List.replicate G (.int .i64 0):=⟨_,rfl⟩
  have hcc:(([]:List Value).toArray++Builtin.zeroCells (Value.int .i64 0).cells n++Builtin.zeroCells (Value.int .i64 0).cells (G - n))=cur.toArray:=by
   rw[hcur]
   refine Array.ext' ?_
   simp only[Builtin.zeroCells,Value.cells]
   refine List.eq_replicate_iff.2 ⟨by simp;omega,fun b hb=>?_⟩
   simp at hb
   rcases hb with ⟨_,_,h⟩ | ⟨_,_,h⟩ <;> rw[← h] <;> simp[Nat.mod_one]
  have hcs:cur.length=G:=by rw[hcur];simp
  have hone:Ones cur:=fun v hv=>by
   rw[hcur] at hv
   rw[List.eq_of_mem_replicate hv];rfl
  rw[hcc] at hrz
  clear hi0 hz0 hz1 hz2 hfit hGe hcur h48 i0 hcc
  have hfin:GrowRes w (.returned (.slice (some ⟨w.heap.size,0,none⟩) 0 G)) (w.alloc (.cells cur.toArray 3)).drew:=
   ⟨_,_,rfl,by go_grown,.inr ⟨_,cur,rfl,Nat.le_refl _,(show(w.alloc (.cells cur.toArray 3)).heap[w.heap.size]?=_ from by unfold World.alloc;simp),by omega,by omega,hone⟩⟩
  go_enter Tryz.func230,Tryz.ntmps230
  go_wp2_with (at_builtin;refine Lib.wpList_append_run _ rfl _ _ _ _ rfl _ _ rfl rfl _ _ (hrz _) ?_)
  all_goals go_ret
  all_goals exact hfin
theorem growE(n:Nat)(hn:n≤40000):EFun Tryz.prog 230 [.full 1 [],.p (eI n)] [] (.arr 1 9000 0 0) [(9000,.box 3 (([]:List AV).map .p))]:=by
 refine⟨⟨_,Tryz.func230,rfl,rfl⟩,fun g w vs hi hl hr=>?_⟩
 obtain⟨v1,v2,rfl⟩:∃ v1 v2,vs=[v1,v2]:=by
  match vs,hl with
  | [a,b],_=>exact⟨a,b,rfl⟩
 have r1:=hr 0 v1 _ rfl rfl
 have r2:=hr 1 v2 _ rfl rfl
 obtain rfl:v2=.int .i64 n:=by
  cases r2 with
  | p _ _ h=>cases h with
   | imm _ _=>rfl
 obtain⟨p,rfl⟩:∃ p,v1=.slice p 0 0:=by
  cases r1 with
  | full p m sz es h=>cases h with
   | slice=>rename_i hm0 _;obtain rfl:m=0:=hm0;exact⟨p,rfl⟩
 refine(grow_p p n w hn).mono ?_
 rintro e w' ⟨q,cap,rfl,hB,hc⟩
 have hkp:=Kept.of_below hB
 have hC:=hi.call hkp (FzStep.same _ _) (FzOk.kept hi.fz hkp)
 have hF:=(Fr.start g (hp []) w 0 [] none).call hkp (FzStep.same _ _)
 have hg:(hp []:Hp) 9000=.gone:=rfl
 have hup:∀ o,upd (hp []) 9000 o=hp [(9000,o)]:=fun o=>by
  funext k
  by_cases h:k=9000
  ·subst h;rw[upd_same];rfl
  ·rw[upd_ne h,hp_cons,if_neg h]
 rcases hc with rfl | ⟨b,vs,rfl,hb,hh,hpos,hcap,hone⟩
 ·have h1:=hC.1.add hg (o:=.box 3 (([]:List AV).map .p)) (B:=0) (L:=0) (M:=0) ⟨fun _=>rfl,fun h0=>by rw[Gh.name_hi] at h0;omega⟩ (fun b hb=>by have h:=hb.1;rw[Gh.name_hi] at h;omega)
  have h2:=hF.add hg (o:=.box 3 (([]:List AV).map .p)) (B:=0) (L:=0) (M:=0) (fun b hb=>by have h:=hb.1;rw[Gh.name_hi] at h;omega)
  have h3:=hC.2.trans (GLe.name hg (.box 3 (([]:List AV).map .p)) 0 0 0)
  rw[hup] at h1 h2 h3
  exact⟨_,_,rfl,h3,h1,h2,.arr q 1 9000 0 0 0 (Nat.le_refl _) (by omega) (fun h=>absurd rfl h) (.inr ⟨_,_,rfl,Nat.le_refl _,.inr ⟨Gh.name_hi _ _ _ _ _,rfl⟩⟩)⟩
 ·have hi2:WInv { g with fz:=g.fz } (hp []) w':=hC.1
  have hfzn:∀ o,g.fz b o=none:=fun o=>by
   cases hz:g.fz b o with
   | none=>rfl
   | some v=>have:=hi.fz_lt hz;omega
  have h1:=hi2.add hg (o:=.box 3 (([]:List AV).map .p)) (B:=b) (L:=0) (M:=vs.length) ⟨fun _=>rfl,fun _=>⟨vs,by rw[Gh.name_blk];exact hh,⟨by rw[Gh.name_hi],by simp⟩,hone,fun i v x hv hx=>by simp at hx,fun o=>by rw[Gh.name_blk];exact hfzn o⟩⟩ (fun b' hb' j hj=>by exact hj)
  have h2:=hF.add hg (o:=.box 3 (([]:List AV).map .p)) (B:=b) (L:=0) (M:=vs.length) (fun b' hb'=>.inr (by have:=hb'.2;rw[Gh.name_blk] at this;subst this;exact hb))
  have h3:=hC.2.trans (GLe.name hg (.box 3 (([]:List AV).map .p)) b 0 vs.length)
  rw[hup] at h1 h2 h3
  exact⟨_,_,rfl,h3,h1,h2,.arr _ 1 9000 0 0 cap (Nat.zero_le _) (by omega) (fun _=>⟨_,rfl⟩) (.inr ⟨_,_,rfl,Nat.zero_le _,.inl ⟨by rw[Gh.name_hi];exact hpos,by rw[Gh.name_blk],by rw[Gh.name_hi];omega⟩⟩)⟩
theorem compactUp(d:Array Int)(hs:∀ i j,i≤j→j<d.size→d[i]!≤d[j]!):∀ m,m≤d.size→Up (Lib.compactUpTo d m)∧∀ x,x∈Lib.compactUpTo d m↔∃ j,j<m∧d[j]! = x
 | 0,_=>⟨List.Pairwise.nil,fun x=>⟨fun h=>by simp[Lib.compactUpTo] at h,fun ⟨j,h,_⟩=>by omega⟩⟩
 | m+1,hm=>by
  obtain⟨h1,h2⟩:=compactUp d hs m (by omega)
  rw[Lib.compactUpTo_succ]
  by_cases hk:Lib.keeps d m=true
  ·rw[if_pos hk]
   have hlt:∀ x∈Lib.compactUpTo d m,x<d[m]!:=fun x hx=>by
    obtain⟨j,hj,rfl⟩:=(h2 x).1 hx
    have hne:d[m]!≠d[m - 1]!:=by
     unfold Lib.keeps at hk
     rcases odt hk with e | e
     ·omega
     ·exact e
    have a1:=hs j (m - 1) (by omega) (by omega)
    have a2:=hs (m - 1) m (by omega) (by omega)
    omega
   refine⟨List.pairwise_append.2 ⟨h1,List.pairwise_singleton _ _,fun x hx y hy=>by rw[List.mem_singleton.1 hy];exact hlt x hx⟩,fun x=>?_⟩
   rw[List.mem_append,h2,List.mem_singleton]
   constructor
   ·rintro (⟨j,hj,e⟩ | e)
    ·exact⟨j,by omega,e⟩
    ·exact⟨m,by omega,e.symm⟩
   ·rintro⟨j,hj,e⟩
    by_cases hjm:j=m
    ·subst hjm;exact .inr e.symm
    ·exact .inl ⟨j,by omega,e⟩
  ·rw[if_neg hk,List.append_nil]
   refine⟨h1,fun x=>?_⟩
   rw[h2]
   constructor
   ·rintro⟨j,hj,e⟩;exact⟨j,by omega,e⟩
   ·rintro⟨j,hj,e⟩
    by_cases hjm:j=m
    ·subst hjm
     have hne:¬ (j=0∨d[j]!≠d[j - 1]!):=by unfold Lib.keeps at hk;simpa using hk
     exact⟨j - 1,by omega,by rw[← e];exact(Classical.byContradiction fun h=>hne (.inr fun e'=>h e'.symm))⟩
    ·exact⟨j,by omega,e⟩
theorem srt_ok(l:List Int):Up (srt l)∧∀ x,x∈srt l↔x∈l:=by
 obtain⟨m,hm⟩:∃ m,sortI l=m:=⟨_,rfl⟩
 have hp:m.Pairwise (fun x y=>decide (x≤y)=true):=by
  rw[← hm];exact List.pairwise_mergeSort (fun a b c h1 h2=>by simp at *;omega) (fun a b=>by simp;omega) l
 have hmem:∀ x,x∈m↔x∈l:=fun x=>by rw[← hm];exact List.mem_mergeSort
 have hs:∀ i j,i≤j→j<m.toArray.size→m.toArray[i]!≤m.toArray[j]!:=fun i j hij hj=>by
  have hj':j<m.length:=by simpa using hj
  have hi':i<m.length:=by omega
  rcases Nat.lt_or_eq_of_le hij with h | rfl
  ·have:=List.pairwise_iff_getElem.1 hp i j hi' hj' h
   simpa[getElem!_pos,hi',hj'] using this
  ·exact Int.le_refl _
 obtain⟨h1,h2⟩:=compactUp m.toArray hs m.length (by simp)
 unfold srt Lib.compact
 rw[hm]
 refine⟨h1,fun x=>?_⟩
 rw[h2,← hmem]
 constructor
 ·rintro⟨j,hj,e⟩
  rw[← e];simp[getElem!_pos,hj]
 ·intro h
  obtain⟨j,hj,e⟩:=List.getElem_of_mem h
  exact⟨j,hj,by simp[getElem!_pos,hj,e]⟩
theorem srt_cl{l:List Int}{S:Int→Prop}(h:∀ x,x∈l↔(0≤x∧x<2000)∧S x):srt l=cl S:=cl_eq (srt_ok l).1 fun x=>((srt_ok l).2 x).trans (h x)
end Go.Ab
namespace Go.Ab
open Go Go.Proofs
set_option maxRecDepth 10000
def intss(ls:List (List Int)):AV:=.slice 1 (ls.map ints)
def sumL(ls:List (List Int)):Nat:=(ls.map List.length).sum
theorem sumL_app(a b:List (List Int)):sumL (a++b)=sumL a+sumL b:=by simp[sumL]
theorem sumL_take{ls:List (List Int)}{i:Nat}(h:i<ls.length):sumL (ls.take (i+1))=sumL (ls.take i)+ls[i].length:=by
 rw[List.take_succ_eq_append_getElem h,sumL_app];simp[sumL]
theorem sumL_le(ls:List (List Int))(i:Nat):sumL (ls.take i)≤sumL ls:=by
 conv=>rhs;rw[← List.take_append_drop i ls,sumL_app]
 omega
theorem sumL_flat(ls:List (List Int)):ls.flatten.length=sumL ls:=by simp[sumL,List.length_flatten]
theorem flat_ints(l:List Int):flat (l.map eI)=l.map eI:=by
 induction l with
 | nil=>rfl
 | cons x r ih=>show eI x::flat (r.map eI)=_;rw[ih];rfl
theorem concatV(ls:List (List Int))(h2:ls.length≤1000)(hs:sumL ls≤40000):AFunV Tryz.prog 179 [intss ls] 1 3 (sumL ls) (ls.flatten.map eI):=by
 suffices hh:∃ n cs,(n=sumL ls∧cs=ls.flatten.map eI)∧AFunV Tryz.prog 179 [intss ls] 1 3 n cs by
  obtain⟨n,cs,⟨rfl,rfl⟩,hv⟩:=hh
  exact hv
 have hl:(ls.map ints).length=ls.length:=List.length_map _
 refine AFunVE.intro hT Tryz.func179 rfl rfl (by simp) ⟨_,_,rfl,rfl⟩ (AD.run hT hmix ?_)
 intro h1
 refine AD.loopI (fun i:Nat=>i≤ls.length) (fun i=>ls.length - i) (fun i=>[(0,.p (intss ls)),(3,.p (eI (sumL (ls.take i):Nat))),(9,.p (intss ls)),(10,eint .i64 (ls.map ints).length),(11,eint .i64 i)]) (fun _=>[]) 0 (Nat.zero_le _) .of fun i g1=>AD.run hT hmix ?_
 refine bgs (fun hb=>?_) (fun hb=>?_)
 ·replace hb:=odt hb
  have hlt:i<ls.length:=by omega
  have e1:=sumL_take hlt
  have e2:=sumL_le ls (i+1)
  refine igo_map i rfl hlt ?_
  intro h3
  have hli:(ls[i].map eI).length=ls[i].length:=List.length_map _
  refine ngo_in (by omega) (by omega) (ngo_in (by omega) (by omega) ⟨i+1,by omega,by omega,?_⟩)
  rw[e1,← hli]
  exact .of
 ·replace hb:=of_decide_eq_false hb
  obtain rfl:i=ls.length:=by omega
  rw[List.take_length]
  refine .eff [] [(9000,.box 3 (([]:List AV).map .p))] _ (growE (sumL ls) hs) ⟨rfl,trivial⟩ rfl rfl rfl rfl ?_
  intro h4
  refine AD.loopI (fun x:Nat×List EV=>x.1≤ls.length∧x.2=((ls.take x.1).flatten.map eI).map .p) (fun x=>ls.length - x.1) (fun x=>[(0,.p (intss ls)),(6,.arr 1 9000 0 (sumL (ls.take x.1))),(25,.p (intss ls)),(26,eint .i64 (ls.map ints).length),(27,eint .i64 x.1)]) (fun x=>[(9000,.box 3 x.2)]) (0,[]) ⟨Nat.zero_le _,rfl⟩ .of fun ⟨i,cE⟩ ⟨g1,g2⟩=>AD.run hT hmix ?_
  dsimp only at g1 g2 ⊢
  have hok:∀ h,okE.okL h cE=true:=fun h=>by rw[g2];exact okL_p _ _
  refine bgs (fun hb=>?_) (fun hb=>?_)
  ·replace hb:=odt hb
   have hlt:i<ls.length:=by omega
   have e1:=sumL_take hlt
   have e2:=sumL_le ls (i+1)
   refine igo_map i rfl hlt ?_
   have hcl:sumL (ls.take i)*1=cE.length:=by rw[g2,List.length_map,List.length_map,sumL_flat,Nat.mul_one]
   refine⟨hcl,⟨by simp;omega,by simp;omega⟩,ngo_in (by omega) (by omega) ?_⟩
   refine⟨(i+1,renE.renL 33 9000 (cE++(flat (ls[i].map eI)).map .p)),⟨by dsimp only;omega,?_⟩,by dsimp only;omega,?_⟩
   ·dsimp only
    rw[g2,← List.map_append,renL_p,flat_ints,List.take_succ_eq_append_getElem hlt,List.flatten_append,List.map_append,List.map_append]
    simp only[List.flatten_cons,List.flatten_nil,List.append_nil,List.map_append]
   ·rw[e1,show ls[i].length=(ls[i].map eI).length from (List.length_map _).symm]
    exact(SubAll.of (env':=[(0,.p (intss ls)),(6,.arr 1 33 0 (sumL (ls.take i)+(ls[i].map eI).length)),(25,.p (intss ls)),(26,eint .i64 (ls.map ints).length),(27,eint .i64 (((i+1:Nat)):Int))]) (h':=[(33,.box 3 (cE++(flat (ls[i].map eI)).map .p))])).trans (SubAll.ren 33 9000)
  ·replace hb:=of_decide_eq_false hb
   obtain rfl:i=ls.length:=by omega
   rw[List.take_length] at g2
   rw[List.take_length]
   exact⟨sumL ls,ls.flatten.map eI,9000,cE,rfl,rfl,by rw[g2];exact toPs_p _,by rw[g2,List.length_map,List.length_map,sumL_flat,Nat.mul_one],rfl,rfl⟩
theorem sortedK(k:Nat)(a:Int)(xs:List Int)(hx:xs.length≤1000000000):EFun Tryz.prog 178 [.p (eI a),.arr 1 k 0 xs.length] [(k,.box 3 ((xs.map eI).map .p))] (.agg [.p (eI a),.arr 1 k 0 (srt xs).length]) [(k,.box 3 (((srtC xs).map eI).map .p))]:=by
 have h:=(sortedE a xs hx).ren 9000 k
 have e1:renE.renL 9000 k [.p (eI a),.arr 1 9000 0 xs.length]=[.p (eI a),.arr 1 k 0 xs.length]:=by simp[renE.renL,renE,sw]
 have e2:renE 9000 k (.agg [.p (eI a),.arr 1 9000 0 (srt xs).length])=.agg [.p (eI a),.arr 1 k 0 (srt xs).length]:=by simp[renE.renL,renE,sw]
 have e3:∀ l:List AV,renH 9000 k [(9000,.box 3 (l.map .p))]=[(k,.box 3 (l.map .p))]:=fun l=>by simp[renH,renO,renL_p,sw]
 rw[e1,e2,e3,e3] at h
 exact h
theorem AD.finSub{P:Program}{N:Nat}{O:Hp}{ro:Bool}{c:Code}{Q:Kc}{env:Env}{h:AHp}(hh:AD P N O ro c (fun ae env h=>∃ env' h',SubAll N O env h env' h'∧Q ae env' h') env h):AD P N O ro c Q env h:=
 ⟨fun hl=>let ⟨ae,_,_,⟨e2,h2,hs,hq⟩,hl1,hg⟩:=hh.out hl;⟨ae,e2,h2,hq,hl1.sub hs,fun Γ hc _ hK=>AW.subEnd (hg Γ hc _ ⟨e2,h2,hs Γ hc.toCtxOk,hK⟩)⟩⟩
theorem ok_len{n:Int}(hn0:0<n)(hn:n≤12){a:Rl}(ha:a.Ok n):a.tuples.length≤2000:=up_len ha.up fun x hx=>by have:=ha.rng x hx;have:=ha.a;have:=pow_le_2000 hn0 hn (k:=a.arity.toNat) (by omega);omega
theorem ok_rng{n:Int}(hn0:0<n)(hn:n≤12){a:Rl}(ha:a.Ok n){x:Int}(hx:x∈a.tuples):0≤x∧x<2000:=by have:=ha.rng x hx;have:=ha.a;have:=pow_le_2000 hn0 hn (k:=a.arity.toNat) (by omega);omega
theorem seal_srt(k:Nat)(xs:List Int):sealE k ((srtC xs).map eI) (.arr 1 k 0 (srt xs).length) (.p (ints (srt xs))):=by
 refine .inr ⟨1,0,(srt xs).length,(srt xs).map eI,rfl,rfl,?_,fun e he=>?_,List.length_map _⟩
 ·rw[flat_ints,List.drop_zero,Nat.mul_one,srtC,List.map_append,List.take_left' (List.length_map _)]
 ·obtain⟨x,_,rfl⟩:=List.mem_map.1 he;rfl
theorem unionL{n:Int}(hn0:0<n)(hn:n≤12){a b:Rl}(hla:a.tuples.length≤10000)(hlb:b.tuples.length≤10000):AFun Tryz.prog 112 [a.av,b.av] (.p (Rl.av ⟨a.arity,srt (a.tuples++b.tuples)⟩)):=by
 refine AFun.of hT Tryz.func112 rfl rfl (by simp) (AD.finSub (AD.run hT hmix ?_))
 have hc:=concatV [a.tuples,b.tuples] (by simp) (by simp[sumL];omega)
 have hfl:([a.tuples,b.tuples].flatten)=a.tuples++b.tuples:=by simp
 have hsl:sumL [a.tuples,b.tuples]=(a.tuples++b.tuples).length:=by simp[sumL]
 rw[hfl,hsl] at hc
 refine .vec [intss [a.tuples,b.tuples]] _ _ _ _ 12 rfl hc rfl rfl ?_
 refine .eff [(12,.box 3 (((a.tuples++b.tuples).map eI).map .p))] [(12,.box 3 (((srtC (a.tuples++b.tuples)).map eI).map .p))] _ (sortedK 12 a.arity (a.tuples++b.tuples) (by simp;omega)) ⟨rfl,trivial⟩ rfl rfl (okH_one _ _ _ _) rfl ?_
 refine⟨by kernel_rfl,[(4,.loc 4 0)],[(4,.box 50 [.p (eI a.arity),.p (ints (srt (a.tuples++b.tuples)))])],.sealB 12 (hx:=toPs_p _) (h1:=⟨⟨.inl rfl,rfl⟩,trivial⟩) (h2:=⟨⟨rfl,.inl ⟨⟨.inl rfl,rfl⟩,⟨.inr (.inr (.inr (.inl ⟨_,_,rfl,seal_srt _ _⟩))),rfl⟩,trivial⟩⟩,trivial⟩),_,_,rfl,rfl,rfl⟩
theorem unionP{n:Int}(hn0:0<n)(hn:n≤12){a b:Rl}(ha:a.Ok n)(hb:b.Ok n):AFun Tryz.prog 112 [a.av,b.av] (.p (rUnion a b).av):=by
 have h:=unionL hn0 hn (a:=a) (b:=b) (by have:=ok_len hn0 hn ha;omega) (by have:=ok_len hn0 hn hb;omega)
 rwa [srt_cl (S:=fun x=>x∈a.tuples∨x∈b.tuples) fun x=>?_] at h
 rw[List.mem_append]
 exact⟨fun h=>⟨h.elim (ok_rng hn0 hn ha) (ok_rng hn0 hn hb),h⟩,fun h=>h.2⟩
theorem overP{n:Int}(hn0:0<n)(hn:n≤12){a b:Rl}(ha:a.Ok n)(hb:b.Ok n)(e:a.arity=b.arity):AFun Tryz.prog 115 [eI n,a.av,b.av] (.p (rOver n a b).av):=by
 obtain⟨k,hk⟩:∃ k:Nat,(b.arity - 1)=k:=⟨(b.arity - 1).toNat,by have:=hb.a;omega⟩
 have hk3:k≤3:=by have:=hb.a;omega
 have hpw:pw n (b.arity - 1)=n ^ k:=by rw[hk];rfl
 obtain⟨l,hl,hf⟩:=setP b 186 [.ref [eI (n ^ k)]] (fun x=>x / n ^ k) (fun x hx=>overF1 n k ⟨hn0,hn⟩ x (ok_rng hn0 hn hb hx))
 have hla:=ok_len hn0 hn ha
 have hlb:=ok_len hn0 hn hb
 have hkeep:=keepP a.tuples (by omega) 187 [mref l,.ref [.fn (.func 186) [] [.ref [eI (n ^ k)]]]] (fun x=>decide (∀ v∈b.tuples,v / n ^ k≠x / n ^ k)) (fun x hx=>overF2 n k ⟨hn0,hn⟩ hl x (ok_rng hn0 hn ha hx))
 obtain⟨fl,hfl⟩:∃ fl,(a.tuples.filter fun x=>decide (∀ v∈b.tuples,v / n ^ k≠x / n ^ k))=fl:=⟨_,rfl⟩
 rw[hfl] at hkeep
 have hll:fl.length≤2000:=by rw[← hfl];exact Nat.le_trans (List.length_filter_le ..) hla
 have hu:=unionL hn0 hn (a:=b) (b:=⟨a.arity,fl⟩) (by omega) (show fl.length≤10000 by omega)
 have hres:srt (b.tuples++fl)=(rOver n a b).tuples:=by
  refine srt_cl fun x=>?_
  rw[List.mem_append,← hfl,List.mem_filter,decide_eq_true_eq,hpw]
  exact⟨fun h=>⟨h.elim (ok_rng hn0 hn hb) (fun h=>ok_rng hn0 hn ha h.1),h⟩,fun h=>h.2⟩
 refine AFun.of hT Tryz.func115 rfl rfl (by simp) (AD.cut hT hmix 4 (fun _:Unit=>True) (fun _=>[(4,.loc 4 0),(5,.loc 5 0),(6,.loc 6 0),(7,.p (.ref [eI (n ^ k)]))]) (fun _=>[(4,.box 50 (a.cs.map .p)),(5,.box 50 (b.cs.map .p)),(6,.box 50 [.p (eI 0),.full 1 []])]) ?_ fun _ _=>?_)
 ·refine bgo_false (show(n==0)=false by simp;omega) ?_
  refine⟨(k:Int),by rw[wrap64_in (by omega) (by omega),hk],?_⟩
  exact .pure [eI n,eI k] _ rfl (powerP n k ⟨by omega,hn⟩ hk3) ⟨(),trivial,.sealB 7⟩
 ·refine AD.cut hT hmix 6 (fun _:Unit=>True) (fun _=>[(4,.loc 4 0),(5,.loc 5 0),(6,.loc 6 0),(8,.p (.ref [.fn (.func 186) [] [.ref [eI (n ^ k)]]])),(9,.p (mref l))]) (fun _=>[(4,.box 50 (a.cs.map .p)),(5,.box 50 (b.cs.map .p)),(6,.box 50 [.p (eI 0),.full 1 []])]) ?_ fun _ _=>AD.run hT hmix ?_
  ·refine .pure [b.av,.fn (.func 186) [] [.ref [eI (n ^ k)]]] _ rfl hf ⟨(),trivial,(SubAll.sealB (env':=[(4,.loc 4 0),(5,.loc 5 0),(6,.loc 6 0),(8,.p (.ref [.fn (.func 186) [] [.ref [eI (n ^ k)]]])),(9,.loc 9 0)]) (h':=[(4,.box 50 (a.cs.map .p)),(5,.box 50 (b.cs.map .p)),(6,.box 50 [.p (eI 0),.full 1 []]),(9,.box 257 [.p (.mp (.int .i64) (cntM l))])]) 8).trans (.sealB 9)⟩
  ·refine .pure [ints a.tuples,.fn (.func 187) [] [mref l,.ref [.fn (.func 186) [] [.ref [eI (n ^ k)]]]]] _ rfl hkeep ?_
   refine .pure [b.av,Rl.av ⟨a.arity,fl⟩] _ rfl hu ⟨by kernel_rfl,_,_,rfl,rfl,?_⟩
   rw[hres,← e];rfl
theorem prodP{n:Int}(hn0:0<n)(hn:n≤12){a b:Rl}(ha:a.Ok n)(hb:b.Ok n)(h3:a.arity+b.arity≤3):AFun Tryz.prog 118 [eI n,a.av,b.av] (.tup [.p (rProduct n a b).av,.p (eI 0)]):=by
 obtain⟨k,hk⟩:∃ k:Nat,b.arity=k:=⟨b.arity.toNat,by have:=hb.a;omega⟩
 have hak:=ha.a
 have hbk:=hb.a
 have hk3:k≤3:=by omega
 have hpw:pw n b.arity=n ^ k:=by rw[hk];rfl
 have hla:=ok_len hn0 hn ha
 have hlb:=ok_len hn0 hn hb
 have h1l:(a.tuples.map eI).length=a.tuples.length:=List.length_map _
 have h2l:(b.tuples.map eI).length=b.tuples.length:=List.length_map _
 obtain⟨P,hP⟩:∃ P,n ^ k=P:=⟨_,rfl⟩
 have hP0:0<P:=by rw[← hP];exact Int.pow_pos hn0
 have hbr:∀ v∈b.tuples,0≤v∧v<P:=fun v hv=>by have:=hb.rng v hv;rw[hk,show((k:Nat):Int).toNat=k from rfl,hP] at this;exact this
 have hpwr:AFun Tryz.prog 185 [eI n,eI b.arity] (.p (eI P)):=by rw[hk,← hP];exact powerP n k ⟨by omega,hn⟩ hk3
 have hub:∀ u∈a.tuples,0≤u*P∧u*P+P≤2000:=fun u hu=>by
  have h1:=ha.rng u hu
  refine⟨Int.mul_nonneg h1.1 (by omega),?_⟩
  have h2:(u+1)*P≤n ^ a.arity.toNat*P:=Int.mul_le_mul_of_nonneg_right (by omega) (by omega)
  have h4:n ^ a.arity.toNat*P=n ^ (a.arity.toNat+k):=by rw[← hP,Int.pow_add]
  have h5:=pow_le_2000 hn0 hn (k:=a.arity.toNat+k) (by omega)
  rw[Int.add_mul,Int.one_mul] at h2
  omega
 have hres:(rProduct n a b).tuples=prodL P a.tuples b.tuples:=by
  refine(cl_eq (prodL_up _ hb.up hbr _ ha.up) fun x=>?_).symm
  rw[hpw,hP]
  constructor
  ·intro hx
   obtain⟨u,hu,hx⟩:=List.mem_flatMap.1 hx
   obtain⟨v,hv,rfl⟩:=List.mem_map.1 hx
   have:=hub u hu
   have:=hbr v hv
   exact⟨⟨by omega,by omega⟩,u,hu,v,hv,rfl⟩
  ·rintro⟨_,u,hu,v,hv,rfl⟩
   exact List.mem_flatMap.2 ⟨u,hu,List.mem_map.2 ⟨v,hv,rfl⟩⟩
 have hplen:∀ l:List Int,(prodL P l b.tuples).length=l.length*b.tuples.length:=by
  intro l
  induction l with
  | nil=>simp[prodL]
  | cons x l ih=>rw[prodL,List.flatMap_cons,List.length_append,List.length_map,List.length_cons,Nat.succ_mul];rw[prodL] at ih;omega
 refine AFun.of hT Tryz.func118 rfl rfl (by simp) (AD.run hT hmix ?_)
 refine ngo_in (by omega) (by omega) (bgo_false (decide_eq_false (by omega)) (ngo_in (by omega) (by omega) ?_))
 refine .pure [eI n,eI b.arity] _ rfl hpwr ?_
 intro h5
 refine AD.loopI (fun x:Nat×List AV=>x.1≤a.tuples.length∧x.2=(prodL P (a.tuples.take x.1) b.tuples).map eI) (fun x=>a.tuples.length - x.1)
  (fun x=>[(4,.loc 4 0),(5,.loc 5 0),(6,.loc 6 0),(8,.loc 8 0),(9,.p (eI P)),(32,.p (ints a.tuples)),(33,eint .i64 (a.tuples.map eI).length),(34,eint .i64 x.1)])
  (fun x=>[(4,.box 50 (a.cs.map .p)),(5,.box 50 (b.cs.map .p)),(6,.box 50 [.p (eI 0),.full 1 []]),(8,.box 50 [.p (eI (a.arity+b.arity)),.own 1 x.2 53]),(53,.tail x.2.length)]) (0,[]) ⟨Nat.zero_le _,rfl⟩ .of fun ⟨i,es⟩ ⟨g1,g2⟩=>AD.run hT hmix ?_
 dsimp only at g1 g2 ⊢
 refine bgs (fun h6=>?_) (fun h6=>?_)
 ·replace h6:=odt h6
  have hlt:i<a.tuples.length:=by omega
  have hu:=hub _ (List.getElem_mem hlt)
  have hel:es.length=i*b.tuples.length:=by rw[g2,List.length_map,hplen,List.length_take,Nat.min_eq_left g1]
  have hel2:i*b.tuples.length≤2000*2000:=Nat.mul_le_mul (by omega) hlb
  refine igo_map i rfl hlt ?_
  intro h7
  refine AD.loopI (fun x:Nat×List AV=>x.1≤b.tuples.length∧x.2=es++((b.tuples.take x.1).map fun v=>a.tuples[i]*P+v).map eI) (fun x=>b.tuples.length - x.1)
   (fun x=>[(4,.loc 4 0),(5,.loc 5 0),(6,.loc 6 0),(8,.loc 8 0),(9,.p (eI P)),(32,.p (ints a.tuples)),(33,eint .i64 (a.tuples.map eI).length),(34,eint .i64 i),(11,.p (eI a.tuples[i])),(39,.p (ints b.tuples)),(40,eint .i64 (b.tuples.map eI).length),(41,eint .i64 x.1)])
   (fun x=>[(4,.box 50 (a.cs.map .p)),(5,.box 50 (b.cs.map .p)),(6,.box 50 [.p (eI 0),.full 1 []]),(8,.box 50 [.p (eI (a.arity+b.arity)),.own 1 x.2 53]),(53,.tail x.2.length)]) (0,es) ⟨Nat.zero_le _,by simp⟩ .of fun ⟨j,es2⟩ ⟨k1,k2⟩=>AD.run hT hmix ?_
  dsimp only at k1 k2 ⊢
  have hes2:es2.length=es.length+j:=by rw[k2];simp;omega
  refine bgs (fun h8=>?_) (fun h8=>?_)
  ·replace h8:=odt h8
   have hlt2:j<b.tuples.length:=by omega
   have hv:=hbr _ (List.getElem_mem hlt2)
   refine igo_map j rfl hlt2 ?_
   refine ngo_in (by omega) (by omega) (ngo_in (by omega) (by omega) ⟨rfl,⟨by simp;omega,by simp;omega⟩,ngo_in (by omega) (by omega) ⟨(j+1,es2++[eI (a.tuples[i]*P+b.tuples[j])]),⟨by dsimp only;omega,?_⟩,by dsimp only;omega,.of⟩⟩)
   dsimp only
   rw[List.take_succ_eq_append_getElem hlt2,List.map_append,List.map_append,k2,List.append_assoc];rfl
  ·replace h8:=of_decide_eq_false h8
   obtain rfl:j=b.tuples.length:=by omega
   rw[List.take_length] at k2
   refine ngo_in (by omega) (by omega) ⟨(i+1,es2),⟨by dsimp only;omega,?_⟩,by dsimp only;omega,.of⟩
   dsimp only
   rw[List.take_succ_eq_append_getElem hlt,prodL,List.flatMap_append,List.map_append,k2,g2]
   simp[prodL]
 ·replace h6:=of_decide_eq_false h6
  obtain rfl:i=a.tuples.length:=by omega
  rw[List.take_length] at g2
  exact⟨_,_,rfl,rfl,by rw[g2,← hres];rfl⟩
end Go.Ab
namespace Go.Ab
open Go Go.Proofs Go.RowKit
set_option maxRecDepth 10000
theorem rep_int(n:Nat):rep n [eint .i64 0]=((List.replicate n (0:Int)).map eI).map .p:=by
 induction n with
 | zero=>rfl
 | succ n ih=>
  show [eint .i64 0]++rep n [eint .i64 0]=_
  rw[ih,List.replicate_succ];rfl
theorem transL{n:Int}(hn0:0<n)(hn:n≤12){a:Rl}(hr:∀ x∈a.tuples,0≤x∧x<2000)(hlen:a.tuples.length≤2000):AFun Tryz.prog 119 [eI n,a.av] (.p (Rl.av ⟨2,srt (a.tuples.map fun t=>t % n*n+t / n)⟩)):=by
 have h1l:(a.tuples.map eI).length=a.tuples.length:=List.length_map _
 obtain⟨g,hg⟩:∃ g:Int→Int,(fun t=>t % n*n+t / n)=g:=⟨_,rfl⟩
 rw[hg]
 refine AFun.of hT Tryz.func119 rfl rfl (by simp) (AD.finSub (AD.run hT hmix ?_))
 intro h1
 refine .arr a.tuples.length (by rw[h1l];rfl) (by rw[h1l];rfl) (by show 8*a.tuples.length≤_;omega) (by omega) ?_
 intro h2
 refine AD.loopI (fun x:Nat×List Int=>x.1≤a.tuples.length∧x.2.length=a.tuples.length∧x.2.take x.1=(a.tuples.take x.1).map g) (fun x=>a.tuples.length - x.1)
  (fun x=>[(0,.p (eI n)),(4,.loc 4 0),(5,.arr 1 11 0 a.tuples.length),(13,.p (ints a.tuples)),(14,eint .i64 (a.tuples.map eI).length),(15,eint .i64 x.1)])
  (fun x=>[(4,.box 50 [.p (eI 0),.full 1 []]),(11,.box 3 ((x.2.map eI).map .p))]) (0,List.replicate a.tuples.length 0) ⟨Nat.zero_le _,by simp,by simp⟩ (.of (h2:=⟨⟨rfl,.inr ⟨rfl,rfl⟩⟩,⟨⟨rfl,.inr ⟨rep_int _,okL_p _ _⟩⟩,trivial⟩⟩)) fun ⟨i,xs⟩ ⟨g1,g2,g3⟩=>AD.run hT hmix ?_
 dsimp only at g1 g2 g3 ⊢
 refine bgs (fun h3=>?_) (fun h3=>?_)
 ·replace h3:=odt h3
  have hlt:i<a.tuples.length:=by omega
  have ht:=hr _ (List.getElem_mem hlt)
  have hge:a.tuples[i] % n*n+a.tuples[i] / n=g a.tuples[i]:=by rw[← hg]
  refine igo_map i rfl hlt ?_
  generalize hat:a.tuples[i]=t at ht hge
  have b0:=Int.emod_nonneg t (show n≠0 by omega)
  have b1:=Int.emod_lt_of_pos t hn0
  have b2:=Int.ediv_nonneg ht.1 (show 0≤n by omega)
  have b3:=Int.ediv_le_self n ht.1
  have b4:0≤t % n*n:=Int.mul_nonneg b0 (by omega)
  have b5:t % n*n≤12*12:=Int.mul_le_mul (by omega) hn (by omega) (by omega)
  refine⟨by omega,t % n,Int.tmod_eq_emod_of_nonneg ht.1,ngo_in (by omega) (by omega) ⟨by omega,t / n,by rw[Int.tdiv_eq_ediv_of_nonneg ht.1];exact wrap64_in (by omega) (by omega),ngo_in (by omega) (by omega) ?_⟩⟩
  refine⟨i,rfl,hlt,bgo_true (by simp[g2];exact⟨rfl,by omega⟩) ⟨by kernel_rfl,ngo_in (by omega) (by omega) ?_⟩⟩
  refine⟨(i+1,xs.set i (g t)),⟨by dsimp only;omega,by simpa using g2,?_⟩,by dsimp only;omega,.of (h2:=⟨⟨rfl,.inr ⟨rfl,rfl⟩⟩,⟨⟨rfl,.inr ⟨by rw[hge];exact setSeg_eI ..,okL_p _ _⟩⟩,trivial⟩⟩)⟩
  dsimp only
  rw[List.take_succ_eq_append_getElem (by simp;omega),List.getElem_set_self,List.take_set_of_le (Nat.le_refl i),List.take_succ_eq_append_getElem hlt,List.map_append,g3,hat];rfl
 ·replace h3:=of_decide_eq_false h3
  obtain rfl:i=a.tuples.length:=by omega
  rw[List.take_length,← g2,List.take_length] at g3
  subst g3
  obtain⟨xs,hxs⟩:∃ xs,a.tuples.map g=xs:=⟨_,rfl⟩
  have hxl:xs.length=a.tuples.length:=by rw[← hxs,List.length_map]
  rw[hxs,← hxl]
  have hs:=sortedK 11 2 xs (by omega)
  refine .eff [(11,.box 3 ((xs.map eI).map .p))] [(11,.box 3 (((srtC xs).map eI).map .p))] _ hs ⟨rfl,trivial⟩ rfl rfl (okH_one _ _ _ _) rfl ?_
  refine⟨[(4,.loc 4 0)],[(4,.box 50 [.p (eI 2),.p (ints (srt xs))])],.sealB 11 (hx:=toPs_p _) (h1:=⟨⟨.inl rfl,rfl⟩,trivial⟩) (h2:=⟨⟨rfl,.inl ⟨⟨.inl rfl,rfl⟩,⟨.inr (.inr (.inr (.inl ⟨_,_,rfl,seal_srt _ _⟩))),rfl⟩,trivial⟩⟩,trivial⟩),_,_,rfl,rfl,rfl⟩
theorem transP{n:Int}(hn0:0<n)(hn:n≤12){a:Rl}(ha:a.Ok n)(h2:a.arity=2):AFun Tryz.prog 119 [eI n,a.av] (.p (rTrans n a).av):=by
 have h:=transL hn0 hn (a:=a) (fun x hx=>ok_rng hn0 hn ha hx) (ok_len hn0 hn ha)
 rwa [srt_cl (S:=fun x=>∃ t∈a.tuples,x=t % n*n+t / n) fun x=>?_] at h
 rw[List.mem_map]
 constructor
 ·rintro⟨t,ht,rfl⟩
  have hr:=ha.rng t ht
  rw[h2,sq hn0 hn] at hr
  have b0:=Int.emod_nonneg t (show n≠0 by omega)
  have b1:=Int.emod_lt_of_pos t hn0
  have b2:=Int.ediv_nonneg hr.1 (show 0≤n by omega)
  have b3:t / n<n:=Int.ediv_lt_of_lt_mul hn0 hr.2
  have b4:0≤t % n*n:=Int.mul_nonneg b0 (by omega)
  have b5:t % n*n≤12*12:=Int.mul_le_mul (by omega) hn (by omega) (by omega)
  exact⟨⟨by omega,by omega⟩,t,ht,rfl⟩
 ·rintro⟨_,t,ht,rfl⟩
  exact⟨t,ht,rfl⟩
theorem rep_ints_val{fz:Fz}{v:Value}{l:List Int}(h:Rep fz v (ints l)):∃ p cap,v=.slice p l.length cap∧l.length≤cap∧l.length≤9223372036854775807∧∀ (j:Nat) x,l[j]?=some x→∃ b o,p=some ⟨b,o,none⟩∧fz b (o+j)=some (.int .i64 x):=by
 cases h with
 | slice p n cap sz es vs hn hc hm hs h1 hr hl hh=>
  rw[List.length_map] at hn
  subst hn
  refine⟨p,cap,rfl,hc,hm,fun j x hx=>?_⟩
  rw[flat_ints] at hl hh
  have hj:j<vs.length:=by rw[hl,List.length_map];exact(List.getElem?_eq_some_iff.1 hx).1
  obtain⟨b,o,hp,hz⟩:=hr j vs[j] (List.getElem?_eq_getElem hj)
  refine⟨b,o,hp,?_⟩
  have h2:=hh j vs[j] (eI x) (List.getElem?_eq_getElem hj) (by rw[List.getElem?_map,hx];rfl)
  generalize vs[j]=v at h2 hz
  cases h2 with
  | imm _ _=>exact hz
theorem rep_own{fz:Fz}{w w':World}(hz:FzOk fz w)(hB:Below w.heap.size w w'){v:Value}{l:List Int}(hl:l.length≤9223372036854775807)(h:w'.ownsRow w.heap.size 3 1 v l.length (l.map (Value.int .i64))):∃ fz',FzStep w.heap.size fz fz'∧FzOk fz' w'∧Rep fz' v (ints l):=by
 rcases h.2 with ⟨rfl,h0⟩ | ⟨g,cap,cur,rfl,hg,hh,h1,h2,h3,h4⟩
 ·obtain rfl:l=[]:=List.length_eq_zero_iff.1 h0
  exact⟨fz,FzStep.same _ _,hz.kept (Kept.of_below hB),.slice none 0 0 1 [] [] rfl (Nat.le_refl _) (by omega) (fun _ h=>by cases h) (fun _ h=>by cases h) (fun i v h=>by simp at h) rfl (fun i v x h=>by simp at h)⟩
 ·rw[Nat.mul_one] at h4
  let fz':Fz:=fun b o=>if b=g then (if o<l.length then cur[o]? else none) else fz b o
  have hcur:∀ (i:Nat) x,l[i]?=some x→cur[i]?=some (.int .i64 x):=fun i x hx=>by
   have h5:(cur.toList.take l.length)[i]?=(l.map (Value.int .i64))[i]?:=by rw[h4]
   rw[List.getElem?_take_of_lt (List.getElem?_eq_some_iff.1 hx).1,List.getElem?_map,hx,Array.getElem?_toList] at h5
   exact h5
  have hgn:∀ o,fz g o=none:=fun o=>by
   cases e:fz g o with
   | none=>rfl
   | some v=>have:=pk_lt (hz g o v e);omega
  refine⟨fz',⟨fun b o v hv=>?_,fun b hb=>?_⟩,fun b o v hv=>?_,?_⟩
  ·show(if b=g then _ else _)=_
   by_cases e:b=g
   ·subst e;rw[hgn] at hv;cases hv
   ·rw[if_neg e];exact hv
  ·funext o
   show(if b=g then _ else _)=_
   rw[if_neg (by omega)]
  ·have hv:(if b=g then (if o<l.length then cur[o]? else none) else fz b o)=some v:=hv
   by_cases e:b=g
   ·subst e
    rw[if_pos rfl] at hv
    split at hv
    ·rename_i ho
     rw[hcur o l[o] (List.getElem?_eq_getElem ho)] at hv
     cases hv
     refine cell_pk ?_ rfl
     simp only[World.cell?,hh]
     simp only[Option.isSome_none,Bool.false_eq_true,if_false]
     exact hcur o l[o] (List.getElem?_eq_getElem ho)
    ·cases hv
   ·rw[if_neg e] at hv
    exact hz.kept (Kept.of_below hB) b o v hv
  ·refine .slice _ _ cap 1 (l.map eI) (l.map (Value.int .i64)) (List.length_map _).symm h1 hl (fun e he=>?_) (fun v hv=>?_) (fun i v hv=>?_) (by rw[flat_ints,List.length_map,List.length_map]) (fun i v x hv hx=>?_)
   ·obtain⟨x,_,rfl⟩:=List.mem_map.1 he;rfl
   ·obtain⟨x,_,rfl⟩:=List.mem_map.1 hv;rfl
   ·refine⟨g,0,rfl,?_⟩
    show(if g=g then (if 0+i<l.length then cur[0+i]? else none) else _)=_
    rw[List.getElem?_map] at hv
    cases hx:l[i]? with
    | none=>rw[hx] at hv;simp at hv
    | some x=>
     rw[hx] at hv
     simp only[Option.map_some,Option.some.injEq] at hv
     rw[if_pos rfl,Nat.zero_add,if_pos (List.getElem?_eq_some_iff.1 hx).1,hcur i x hx,hv]
   ·rw[flat_ints,List.getElem?_map] at hx
    rw[List.getElem?_map] at hv
    cases hy:l[i]? with
    | none=>rw[hy] at hx;simp at hx
    | some y=>
     rw[hy] at hx hv
     simp only[Option.map_some,Option.some.injEq] at hx hv
     subst hx hv
     exact .imm _ rfl
theorem cloneP(l:List Int)(hl:l.length≤1000000):AFun Tryz.prog 189 [ints l] (.p (ints l)):=by
 refine⟨⟨_,Tryz.func189,rfl,rfl⟩,fun fz w vs hz hr=>?_⟩
 obtain⟨v,rfl⟩:∃ v,vs=[v]:=by
  match vs,hr.1 with
  | [v],_=>exact⟨v,rfl⟩
 obtain⟨p,cap,rfl,h1,h2,h3⟩:=rep_ints_val (hr.2 0 v _ rfl rfl)
 have fin:∀ v' w',w'.ownsRow w.heap.size 3 1 v' l.length (l.map (Value.int .i64))→Below w.heap.size w w'→∃ v fz',Ending.returned v'=.returned v∧Kept (fun _=>False) w w'∧FzStep w.heap.size fz fz'∧FzOk fz' w'∧∀ g:Gh,g.fz=fz'→ERep g noH v (.p (ints l)):=by
  intro v' w' ho hB
  obtain⟨fz',f1,f2,f3⟩:=rep_own hz hB (by omega) ho
  exact⟨v',fz',rfl,Kept.of_below hB,f1,f2,fun g hg=>.p _ _ (hg▸f3)⟩
 by_cases h0:l=[]
 ·subst h0
  cases p with
  | none=>
   refine(Tryz.slices_Clone_int_nil 0 cap w).mono ?_
   rintro e w' ⟨rfl,rfl⟩
   exact fin _ _ (World.ownsRow_nil _ _ _ _) (Below.refl _ _)
  | some ad=>
   refine(Tryz.slices_Clone_int_zero ad cap w).mono ?_
   rintro e w' ⟨v',rfl,ho,_,hB⟩
   exact fin _ _ ho hB
 ·have hpos:0<l.length:=List.length_pos_iff.2 h0
  obtain⟨b,o,rfl,_⟩:=h3 0 l[0] (List.getElem?_eq_getElem hpos)
  refine(Tryz.slices_Clone_int b o l.length cap l w (Nat.le_refl _) (by omega) fun j hj=>?_).mono ?_
  ·obtain⟨b',o',e,hf⟩:=h3 j l[j] (List.getElem?_eq_getElem hj)
   cases e
   rw[List.getD_eq_getElem?_getD,List.getElem?_eq_getElem hj]
   exact pk_cell (hz _ _ _ hf) rfl
  ·rintro e w' ⟨v',rfl,ho,_,hB⟩
   rw[List.take_length] at ho
   exact fin _ _ ho hB
theorem TC.trans{R:Int→Int→Prop}{x y z:Int}(h:TC R x y)(k:TC R y z):TC R x z:=by
 induction k with
 | one k=>exact .more h k
 | more _ k ih=>exact .more (ih) k
structure ClI(n:Int)(a c:List Int):Prop where
 up:Up c
 rng:∀ t∈c,0≤t∧t<n*n
 sub:∀ t∈a,t∈c
 tc:∀ t∈c,TC (fun x y=>(0≤x∧x<n)∧(0≤y∧y<n)∧x*n+y∈a) (t / n) (t % n)
theorem two_ok{n:Int}(hn0:0<n)(hn:n≤12){c:List Int}(hu:Up c)(hr:∀ t∈c,0≤t∧t<n*n):(⟨2,c⟩:Rl).Ok n:=⟨⟨by show(1:Int)≤2;omega,by show(2:Int)≤3;omega⟩,hu,fun t ht=>by rw[sq hn0 hn];exact hr t ht⟩
noncomputable def clNext(n:Int)(c:List Int):Rl:=rUnion ⟨2,c⟩ (rJoin n ⟨2,c⟩ ⟨2,c⟩)
theorem join2_mem{n:Int}(hn0:0<n)(hn:n≤12){c:List Int}(h:(⟨2,c⟩:Rl).Ok n){t:Int}(t0:0≤t)(t1:t<n*n):t∈(rJoin n ⟨2,c⟩ ⟨2,c⟩).tuples↔∃ m,(0≤m∧m<n)∧t / n*n+m∈c∧m*n+t % n∈c:=by
 have h1:=rJoin_mem hn0 hn h h (by show(1:Int)≤2+2 - 2;omega) (by show(2:Int)+2 - 2≤3;omega) t0 (by show t<n ^ (2+2 - 2:Int).toNat;rw[show(2+2 - 2:Int)=2 by omega,sq hn0 hn];exact t1)
 have e:n ^ ((2:Int) - 1).toNat=n:=by show n ^ 1=n;rw[Int.pow_succ,Int.pow_zero,Int.one_mul]
 simp only[e] at h1
 exact h1
theorem join2_rng{n:Int}(hn0:0<n)(hn:n≤12){c:List Int}(h:(⟨2,c⟩:Rl).Ok n){t:Int}(ht:t∈(rJoin n ⟨2,c⟩ ⟨2,c⟩).tuples):0≤t∧t<n*n:=by
 have:=(rJoin_ok hn0 hn h h (by show(1:Int)≤2+2 - 2;omega) (by show(2:Int)+2 - 2≤3;omega)).rng t ht
 rwa [show(rJoin n ⟨2,c⟩ ⟨2,c⟩).arity=2 from rfl,sq hn0 hn] at this
theorem mem_next{n:Int}(hn0:0<n)(hn:n≤12){c:List Int}(h:(⟨2,c⟩:Rl).Ok n){t:Int}:t∈(clNext n c).tuples↔t∈c∨t∈(rJoin n ⟨2,c⟩ ⟨2,c⟩).tuples:=by
 rw[clNext,rUnion,mem_cl]
 refine⟨fun h=>h.2,fun h2=>⟨?_,h2⟩⟩
 have hn2:n*n≤12*12:=Int.mul_le_mul hn hn (by omega) (by omega)
 rcases h2 with h2 | h2
 ·exact ok_rng hn0 hn h h2
 ·have:=join2_rng hn0 hn h h2;omega
theorem ClI.next{n:Int}(hn0:0<n)(hn:n≤12){a c:List Int}(h:ClI n a c):ClI n a (clNext n c).tuples:=by
 have ho:=two_ok hn0 hn h.up h.rng
 refine⟨cl_up _,fun t ht=>?_,fun t ht=>(mem_next hn0 hn ho).2 (.inl (h.sub t ht)),fun t ht=>?_⟩
 ·rcases (mem_next hn0 hn ho).1 ht with ht | ht
  ·exact h.rng t ht
  ·exact join2_rng hn0 hn ho ht
 ·rcases (mem_next hn0 hn ho).1 ht with ht | ht
  ·exact h.tc t ht
  ·have hr:=join2_rng hn0 hn ho ht
   obtain⟨m,⟨m0,m1⟩,h1,h2⟩:=(join2_mem hn0 hn ho hr.1 hr.2).1 ht
   have e1:=h.tc _ h1
   have e2:=h.tc _ h2
   obtain⟨r0,r1⟩:=mod_rng hn0 t
   rw[comb_div m0 m1,comb_mod m0 m1] at e1
   rw[comb_div r0 r1,comb_mod r0 r1] at e2
   exact e1.trans e2
theorem up_sub:∀ {a b:List Int},Up a→Up b→(∀ x∈a,x∈b)→a.Sublist b:=by
 intro a b
 induction b generalizing a with
 | nil=>intro _ _ h;cases a with
  | nil=>exact List.Sublist.refl _
  | cons x a=>exact absurd (h x (List.mem_cons_self ..)) (by simp)
 | cons y b ih=>
  intro ha hb h
  have hb':=List.pairwise_cons.1 hb
  cases a with
  | nil=>exact List.nil_sublist _
  | cons x a=>
   have ha':=List.pairwise_cons.1 ha
   rcases List.mem_cons.1 (h x (List.mem_cons_self ..)) with rfl | hx
   ·refine(ih ha'.2 hb'.2 fun z hz=>?_).cons_cons x
    rcases List.mem_cons.1 (h z (List.mem_cons_of_mem _ hz)) with rfl | hz'
    ·have:=ha'.1 z hz;omega
    ·exact hz'
   ·refine(ih ha hb'.2 fun z hz=>?_).cons y
    rcases List.mem_cons.1 (h z hz) with rfl | hz'
    ·have h1:=hb'.1 x hx
     rcases List.mem_cons.1 hz with rfl | hz
     ·omega
     ·have:=ha'.1 z hz;omega
    ·exact hz'
theorem up_same{a b:List Int}(ha:Up a)(hb:Up b)(h:∀ x∈a,x∈b)(hl:b.length≤a.length):∀ x∈b,x∈a:=by
 have hs:=up_sub ha hb h
 have:=hs.eq_of_length_le hl
 rw[this];exact fun x hx=>hx
theorem ClI.last{n:Int}(hn0:0<n)(hn:n≤12){a c:List Int}(h:ClI n a c)(hl:(clNext n c).tuples.length=c.length):c=(rClos n ⟨2,a⟩).tuples:=by
 have ho:=two_ok hn0 hn h.up h.rng
 have hn2:n*n≤12*12:=Int.mul_le_mul hn hn (by omega) (by omega)
 have hcl:∀ x∈(clNext n c).tuples,x∈c:=up_same h.up (cl_up _) (fun x hx=>(mem_next hn0 hn ho).2 (.inl hx)) (by omega)
 have hst:∀ x m y,(0≤m∧m<n)→(0≤x∧x<n)→(0≤y∧y<n)→x*n+m∈c→m*n+y∈c→x*n+y∈c:=fun x m y hm hx hy h1 h2=>by
  refine hcl _ ((mem_next hn0 hn ho).2 (.inr ?_))
  refine(join2_mem hn0 hn ho (comb_nn hn0 hx.1 hy.1) (comb_lt hn0 hx.2 hy.2)).2 ⟨m,hm,?_,?_⟩
  ·rw[comb_div hy.1 hy.2];exact h1
  ·rw[comb_mod hy.1 hy.2];exact h2
 have hTC:∀ x y,TC (fun x y=>(0≤x∧x<n)∧(0≤y∧y<n)∧x*n+y∈a) x y→(0≤x∧x<n)∧(0≤y∧y<n)∧x*n+y∈c:=by
  intro x y hxy
  induction hxy with
  | one h1=>exact⟨h1.1,h1.2.1,h.sub _ h1.2.2⟩
  | more _ h1 ih=>exact⟨ih.1,h1.2.1,hst _ _ _ ih.2.1 ih.1 h1.2.1 ih.2.2 (h.sub _ h1.2.2)⟩
 refine cl_eq h.up fun x=>⟨fun hx=>?_,fun hx=>?_⟩
 ·have:=h.rng x hx
  exact⟨⟨this.1,by omega⟩,this.2,h.tc x hx⟩
 ·have:=(hTC _ _ hx.2.2).2.2
  rwa [div_comb] at this
theorem closP{n:Int}(hn0:0<n)(hn:n≤12)(hJ:∀ c,(⟨2,c⟩:Rl).Ok n→AFun Tryz.prog 117 [eI n,Rl.av ⟨2,c⟩,Rl.av ⟨2,c⟩] (.tup [.p (rJoin n ⟨2,c⟩ ⟨2,c⟩).av,.p (eI 0)])){a:Rl}(ha:a.Ok n)(h2:a.arity=2):AFun Tryz.prog 121 [eI n,a.av] (.p (rClos n ⟨2,a.tuples⟩).av):=by
 have hla:=ok_len hn0 hn ha
 have hn2:n*n≤12*12:=Int.mul_le_mul hn hn (by omega) (by omega)
 have h0:ClI n a.tuples a.tuples:=⟨ha.up,fun t ht=>by have:=ha.rng t ht;rwa [h2,sq hn0 hn] at this,fun t ht=>ht,fun t ht=>by
  have hr:=ha.rng t ht
  rw[h2,sq hn0 hn] at hr
  exact .one ⟨⟨Int.ediv_nonneg hr.1 (by omega),Int.ediv_lt_of_lt_mul hn0 hr.2⟩,mod_rng hn0 t,by rw[div_comb];exact ht⟩⟩
 refine AFun.of hT Tryz.func121 rfl rfl (by simp) (AD.run hT hmix ?_)
 refine .pure [ints a.tuples] _ rfl (cloneP a.tuples (by omega)) ?_
 refine AD.loopI (fun c:List Int=>ClI n a.tuples c) (fun c=>2000 - c.length) (fun _=>[(0,.p (eI n)),(4,.loc 4 0),(5,.loc 5 0)]) (fun c=>[(4,.box 50 [.p (eI 0),.full 1 []]),(5,.box 50 [.p (eI 2),.p (ints c)])]) a.tuples h0 .of fun c hc=>AD.run hT hmix ?_
 have ho:=two_ok hn0 hn hc.up hc.rng
 have hjo:=rJoin_ok hn0 hn ho ho (by show(1:Int)≤2+2 - 2;omega) (by show(2:Int)+2 - 2≤3;omega)
 have hno:=two_ok hn0 hn (hc.next hn0 hn).up (hc.next hn0 hn).rng
 have hcl:=ok_len hn0 hn hno
 have hle:=(up_sub hc.up (hc.next hn0 hn).up fun x hx=>(mem_next hn0 hn ho).2 (.inl hx)).length_le
 refine .pure [eI n,Rl.av ⟨2,c⟩,Rl.av ⟨2,c⟩] _ rfl (hJ c ho) ?_
 refine .pure [Rl.av ⟨2,c⟩,(rJoin n ⟨2,c⟩ ⟨2,c⟩).av] _ rfl (unionP hn0 hn ho hjo) ?_
 intro h3 h4
 have e1:((rUnion ⟨2,c⟩ (rJoin n ⟨2,c⟩ ⟨2,c⟩)).tuples.map eI).length=(clNext n c).tuples.length:=List.length_map _
 have e2:(c.map eI).length=c.length:=List.length_map _
 refine bgs (fun h5=>?_) (fun h5=>?_)
 ·have h5:(((rUnion ⟨2,c⟩ (rJoin n ⟨2,c⟩ ⟨2,c⟩)).tuples.map eI).length:Int)=(c.map eI).length:=by simpa using h5
  exact⟨_,_,rfl,rfl,by rw[hc.last hn0 hn (by omega)];rfl⟩
 ·have h5:(((rUnion ⟨2,c⟩ (rJoin n ⟨2,c⟩ ⟨2,c⟩)).tuples.map eI).length:Int)≠(c.map eI).length:=by simpa using h5
  exact⟨(clNext n c).tuples,hc.next hn0 hn,by have:(clNext n c).tuples.length≤2000:=hcl;omega,.of⟩
end Go.Ab
namespace Go.Proofs.YtmllhjbnbhapoaaGreat
open Go
section
variable {P:Program} {ops:Array Oper} {Q:Exit→Act→World→Prop} {md:Region.Mode} {S:World→Prop}
def RGood(P:Program)(S:World→Prop)(v:Value):Result Next→Prop
 | .ok (.value u) w'=>u=v∧S w'
 | .ok .skip w'=>v=undef∧S w'
 | .ok (.enter f args) w'=>Calls P f args w' fun e w''=>e=.returned v∧S w''
 | _=>False
def YS(P:Program)(ops:Array Oper)(S:World→Prop)(o:Oper)(v:Value)(a:Act):Prop:=
 (Region.wanted o (yielded ops a.tmps)=true∧∀ w,S w→RGood P S v ((execOp a.eval o).run P w)) ∨
 (Region.wanted o (yielded ops a.tmps)=false∧v=undef)
theorem YS.of_same{o:Oper}{v:Value}{a a':Act}(hy:YS P ops S o v a)(he:execOp a'.eval o=execOp a.eval o)
 (hw:Region.wanted o (yielded ops a'.tmps)=Region.wanted o (yielded ops a.tmps)):YS P ops S o v a':=by
 unfold YS at *
 rw[he,hw]
 exact hy
theorem YS.wpOp{i:Nat}{o:Oper}{v:Value}{a:Act}(hi:ops[i]?=some o)(hy:YS P ops S o v a)
 {K:Act→World→Prop}{w:World}(hS:S w)(h:∀ w',S w'→K (a.put o.dst v) w'):wpOp P ops Q i K a w:=by
 unfold Go.wpOp
 simp only[hi]
 rcases hy with ⟨hw,hv⟩ | ⟨hw,rfl⟩
 ·have hr:=hv w hS
  simp only[hw,if_true]
  refine .inl ?_
  unfold Oper.wp
  generalize (execOp a.eval o).run P w=r at *
  cases r with
  | ok n w'=>
   cases n <;> simp only[RGood] at hr <;> simp only[Oper.upon]
   case value u=>rw[hr.1];exact h _ hr.2
   case skip=>rw[← hr.1];exact h _ hr.2
   case enter f args=>exact Calls.mono hr fun e w'' he=>by obtain⟨rfl,hs⟩:=he;exact h _ hs
  | halt x w'=>exact absurd hr (by simp[RGood])
 ·simp only[hw,Bool.false_eq_true,if_false];exact h _ hS
inductive Cert(P:Program)(md:Region.Mode)(ops:Array Oper)(S:World→Prop)(fin:Act→Prop):Nat→Array Bool→Act→Prop
 | done {n:Nat} {listed:Array Bool} {a:Act}:Region.ready md ops listed=[]→fin a→Cert P md ops S fin n listed a
 | take {n:Nat} {listed:Array Bool} {a:Act} {i:Nat} {oi:Oper} {v:Value}:ops[i]?=some oi →
  (∀ j oj,ops[j]?=some oj→j≠i→listed.getD j true=false→(∀ e∈oj.after,Region.binds md e=true→e.on≠i)→oi.apart ops oj=true) →
  i∈Region.ready md ops listed→YS P ops S oi v a→Cert P md ops S fin n (listed.setIfInBounds i true) (a.put oi.dst v)→Cert P md ops S fin (n+1) listed a
theorem Cert.front{fin:Act→Prop}(hsel:∀ (j:Nat) (o:Oper) cs b,ops[j]?=some o→o.op≠.select cs b){n:Nat}{listed:Array Bool}{a:Act}(h:Cert P md ops S fin n listed a):
 ∀ j,j∈Region.ready md ops listed→∃ m oj vj,n=m+1∧ops[j]?=some oj∧YS P ops S oj vj a∧Cert P md ops S fin m (listed.setIfInBounds j true) (a.put oj.dst vj):=by
 induction h with
 | done hr _=>intro j hj;rw[hr] at hj;cases hj
 | @take n listed a i oi v hi hfree hr hy hrest ih=>
  intro j hj
  by_cases hji:j=i
  ·subst hji;exact⟨n,oi,v,rfl,hi,hy,hrest⟩
  ·obtain⟨m,oj,vj,rfl,hoj,hyj,hc⟩:=ih j (ready_mono hj hji)
   obtain⟨hjun,oj',hoj',hall⟩:=mem_ready.1 hj
   obtain rfl:oj=oj':=Option.some.inj (hoj.symm.trans hoj')
   have hnot:∀ e∈oj.after,Region.binds md e=true→e.on≠i:=fun e he hb heq=>by
    have h1:=hall e he hb
    have h0:=(mem_ready.1 hr).1
    rw[heq] at h1
    rcases Nat.lt_or_ge i listed.size with h' | h'
    ·simp[h'] at h0 h1;rw[h0] at h1;cases h1
    ·simp[Array.getElem?_eq_none h'] at h1
   obtain⟨h1,h2,h3⟩:=Oper.apart_spec (hfree j oj hoj hji hjun hnot)
   have hyj':YS P ops S oj vj a:=hyj.of_same (execOp_put oj (fun cs b=>hsel j oj cs b hoj) a oi.dst v h1).symm (wanted_put oj a oi.dst v h1).symm
   have hy':YS P ops S oi v (a.put oj.dst vj):=hy.of_same (execOp_put oi (fun cs b=>hsel i oi cs b hi) a oj.dst vj h3) (wanted_put oi a oj.dst vj h3)
   have hfree':∀ k ok,ops[k]?=some ok→k≠i→(listed.setIfInBounds j true).getD k true=false →
    (∀ e∈ok.after,Region.binds md e=true→e.on≠i)→oi.apart ops ok=true:=fun k ok hk hki hun hno=>by
    refine hfree k ok hk hki ?_ hno
    by_cases hjk:j=k
    ·subst hjk;exact hjun
    ·rw[getD_set_ne true hjk] at hun;exact hun
   refine⟨m+1,oj,vj,rfl,hoj,hyj',.take hi hfree' (ready_mono hr (Ne.symm hji)) hy' ?_⟩
   rw[Array.setIfInBounds_comm _ _ hji,← Act.put_comm a v vj h2]
   exact hc
theorem Cert.sound{fin:Act→Prop}(hsel:∀ (j:Nat) (o:Oper) cs b,ops[j]?=some o→o.op≠.select cs b)(hfin:∀ a,fin a→∀ w,S w→Q .normal a w):
 ∀ (n:Nat) (listed:Array Bool) (a:Act),Cert P md ops S fin n listed a→∀ w,S w→wpAny P md ops Q n listed a w:=by
 intro n
 induction n with
 | zero=>
  intro listed a h w hS
  cases h with
  | done hr hf=>exact⟨hr,hfin _ hf w hS⟩
 | succ n ih=>
  intro listed a h w hS
  refine⟨fun hr=>?_,fun j hj=>?_⟩
  ·cases h with
   | done _ hf=>exact hfin _ hf w hS
   | take _ _ hr'=>rw[hr] at hr';cases hr'
  ·obtain⟨m,oj,vj,hm,hoj,hyj,hc⟩:=h.front hsel j hj
   obtain rfl:n=m:=by omega
   exact hyj.wpOp hoj hS fun w' hS'=>ih _ _ hc w' hS'
def pre(n k:Nat):Array Bool:=((List.range n).map fun i=>decide (i<k)).toArray
def orow(md:Region.Mode)(ops:Array Oper)(o:Oper):Option Nat×List Nat×List Nat:=(o.dst,o.looksAt ops,(o.after.toList.filter (Region.binds md)).map (·.on))
def apartR(x y:Option Nat×List Nat×List Nat):Bool:=
  (match x.1 with
   | some d=>!y.2.1.contains d&&(match y.1 with | some e=>!Nat.beq e d | none=>true)
   | none=>true) &&
  (match y.1 with
   | some d=>!x.2.1.contains d
   | none=>true)
def pairsOk:Nat→List (Option Nat×List Nat×List Nat)→Bool
 | _,[]=>true
 | i,x::t=>t.all (fun y=>y.2.2.contains i||apartR x y)&&x.2.2.all (fun k=>Nat.blt k i)&&pairsOk (i+1) t
def fastOk(md:Region.Mode)(ops:Array Oper):Bool:=Region.noSelect ops&&pairsOk 0 (ops.toList.map (orow md ops))
theorem apartR_spec{md:Region.Mode}{ops:Array Oper}{x y:Oper}(h:apartR (orow md ops x) (orow md ops y)=true):x.apart ops y=true:=by
 unfold apartR orow at h
 unfold Oper.apart
 cases hx:x.dst with
 | none=>cases hy:y.dst with
  | none=>simp
  | some e=>simpa[hx,hy] using h
 | some d=>cases hy:y.dst with
  | none=>simpa[hx,hy] using h
  | some e=>
   simp only[hx,hy,Bool.and_eq_true,Bool.not_eq_true'] at h ⊢
   refine⟨⟨h.1.1,?_⟩,h.2⟩
   have hne:e≠d:=Nat.ne_of_beq_eq_false h.1.2
   simpa using hne
theorem pairsOk_spec:∀ (l:List (Option Nat×List Nat×List Nat)) (i:Nat),pairsOk i l=true →
 ∀ k x,l[k]?=some x→(∀ e∈x.2.2,e<i+k)∧∀ j y,k<j→l[j]?=some y→y.2.2.contains (i+k)=true∨apartR x y=true
 | [],_,_,k,x,h=>by simp at h
 | x0::t,i,h,k,x,hk=>by
  simp only[pairsOk,Bool.and_eq_true] at h
  obtain⟨⟨h1,h2⟩,h3⟩:=h
  cases k with
  | zero=>
   obtain rfl:x0=x:=by simpa using hk
   refine⟨fun e he=>?_,fun j y hj hy=>?_⟩
   ·have:=List.all_eq_true.1 h2 e he;simpa[Nat.blt_eq] using this
   ·obtain⟨j,rfl⟩:∃ m,j=m+1:=⟨j - 1,by omega⟩
    have hy':t[j]?=some y:=by simpa using hy
    have:=List.all_eq_true.1 h1 y (List.mem_of_getElem? hy')
    simpa using this
  | succ k=>
   have hk':t[k]?=some x:=by simpa using hk
   obtain⟨a1,a2⟩:=pairsOk_spec t (i+1) h3 k x hk'
   refine⟨fun e he=>by have:=a1 e he;omega,fun j y hj hy=>?_⟩
   obtain⟨j,rfl⟩:∃ m,j=m+1:=⟨j - 1,by omega⟩
   have:=a2 j y (by omega) (by simpa using hy)
   rwa [show i+1+k=i+(k+1) by omega] at this
variable {fin:Act→Prop} {o:Oper} {rest:List Oper} {a:Act} {v:Value}
end
section
variable {P:Program} {ops:Array Oper} {Q:Exit→Act→World→Prop} {md:Region.Mode} {S:Nat→World→Prop} {m:Nat} {mover:Nat→Bool} {l:Nat}
def YM(P:Program)(ops:Array Oper)(S:Nat→World→Prop)(m:Nat)(mv:Bool)(j:Nat)(o:Oper)(v:Value)(a:Act):Prop:=
 match mv with
 | true=>Region.wanted o (yielded ops a.tmps)=true∧∀ w,S j w→RGood P (S (j+1)) v ((execOp a.eval o).run P w)
 | false=>(Region.wanted o (yielded ops a.tmps)=true∧∀ k,k≤m→∀ w,S k w→RGood P (S k) v ((execOp a.eval o).run P w)) ∨
  (Region.wanted o (yielded ops a.tmps)=false∧v=undef)
theorem YM.of_same{mv:Bool}{j:Nat}{o:Oper}{v:Value}{a a':Act}(hy:YM P ops S m mv j o v a)(he:execOp a'.eval o=execOp a.eval o)
 (hw:Region.wanted o (yielded ops a'.tmps)=Region.wanted o (yielded ops a.tmps)):YM P ops S m mv j o v a':=by
 unfold YM at *
 rw[he,hw]
 exact hy
def up(mv:Bool)(j:Nat):Nat:=if mv then j+1 else j
theorem wpOp_good{i:Nat}{o:Oper}{v:Value}{a:Act}{S':World→Prop}(hi:ops[i]?=some o)(hw:Region.wanted o (yielded ops a.tmps)=true)
 {K:Act→World→Prop}{w:World}(hr:RGood P S' v ((execOp a.eval o).run P w))(h:∀ w',S' w'→K (a.put o.dst v) w'):wpOp P ops Q i K a w:=by
 unfold Go.wpOp
 simp only[hi,hw,if_true]
 refine .inl ?_
 unfold Oper.wp
 generalize (execOp a.eval o).run P w=r at *
 cases r with
 | ok n w'=>
  cases n <;> simp only[RGood] at hr <;> simp only[Oper.upon]
  case value u=>rw[hr.1];exact h _ hr.2
  case skip=>rw[← hr.1];exact h _ hr.2
  case enter f args=>exact Calls.mono hr fun e w'' he=>by obtain⟨rfl,hs⟩:=he;exact h _ hs
 | halt x w'=>exact absurd hr (by simp[RGood])
theorem YM.wpOp{mv:Bool}{j i:Nat}{o:Oper}{v:Value}{a:Act}(hi:ops[i]?=some o)(hy:YM P ops S m mv j o v a)(hj:j≤m)
 {K:Act→World→Prop}{w:World}(hS:S j w)(h:∀ w',S (up mv j) w'→K (a.put o.dst v) w'):wpOp P ops Q i K a w:=by
 cases mv with
 | true=>exact wpOp_good hi hy.1 (hy.2 w hS) (fun w' hw'=>h w' hw')
 | false=>
  rcases hy with ⟨hw,hv⟩ | ⟨hw,rfl⟩
  ·exact wpOp_good hi hw (hv j hj w hS) (fun w' hw'=>h w' hw')
  ·unfold Go.wpOp
   simp only[hi,hw,Bool.false_eq_true,if_false];exact h _ hS
def Closed(md:Region.Mode)(ops:Array Oper)(listed:Array Bool):Prop:=
 ∀ j o,ops[j]?=some o→listed.getD j false=true→∀ e∈o.after,Region.binds md e=true→listed.getD e.on false=true
theorem Closed.step{listed:Array Bool}{i:Nat}(h:Closed md ops listed)(hi:i∈Region.ready md ops listed):Closed md ops (listed.setIfInBounds i true):=by
 intro j o ho hj e he hb
 obtain⟨_,oi,hoi,hall⟩:=mem_ready.1 hi
 by_cases hji:j=i
 ·subst hji
  obtain rfl:oi=o:=Option.some.inj (hoi.symm.trans ho)
  exact getD_set_true (hall e he hb)
 ·rw[getD_set_ne false (Ne.symm hji)] at hj
  exact getD_set_true (h j o ho hj e he hb)
inductive CertM(P:Program)(md:Region.Mode)(ops:Array Oper)(Q:Exit→Act→World→Prop)(S:Nat→World→Prop)(m:Nat)(mover:Nat→Bool)(l:Nat):Nat→Array Bool→Act→Nat→Prop
 | fin {n:Nat} {listed:Array Bool} {a:Act}:(∀ i,i<ops.size→i≠l→listed.getD i false=true)→(∀ w,S m w→wpAny P md ops Q n listed a w)→CertM P md ops Q S m mover l n listed a m
 | take {n:Nat} {listed:Array Bool} {a:Act} {j i:Nat} {oi:Oper} {v:Value}:ops[i]?=some oi →
  (∀ j oj,ops[j]?=some oj→j≠i→listed.getD j true=false→(∀ e∈oj.after,Region.binds md e=true→e.on≠i)→oi.apart ops oj=true) →
  i∈Region.ready md ops listed→YM P ops S m (mover i) j oi v a→up (mover i) j≤m→CertM P md ops Q S m mover l n (listed.setIfInBounds i true) (a.put oi.dst v) (up (mover i) j)→CertM P md ops Q S m mover l (n+1) listed a j
theorem up_comm(x y:Bool)(j:Nat):up x (up y j)=up y (up x j):=by cases x <;> cases y <;> rfl
theorem CertM.le{n:Nat}{listed:Array Bool}{a:Act}{j:Nat}(h:CertM P md ops Q S m mover l n listed a j):j≤m:=by
 cases h with
 | fin=>exact Nat.le_refl _
 | take _ _ _ _ h=>revert h;unfold up;split <;> omega
theorem CertM.front(hsel:∀ (j:Nat) (o:Oper) cs b,ops[j]?=some o→o.op≠.select cs b)
 (hex:∀ listed,Closed md ops listed→∀ i j,i∈Region.ready md ops listed→j∈Region.ready md ops listed→mover i=true→mover j=true→i=j)
 (hlast:∀ listed,Closed md ops listed→l∈Region.ready md ops listed→∀ i,i<ops.size→i≠l→listed.getD i false=true)
 {n:Nat}{listed:Array Bool}{a:Act}{s:Nat}(h:CertM P md ops Q S m mover l n listed a s):
 Closed md ops listed→∀ j,j∈Region.ready md ops listed→(∀ i,i<ops.size→i≠l→listed.getD i false=true)∨∃ k oj vj,n=k+1∧ops[j]?=some oj∧YM P ops S m (mover j) s oj vj a∧up (mover j) s≤m∧CertM P md ops Q S m mover l k (listed.setIfInBounds j true) (a.put oj.dst vj) (up (mover j) s):=by
 induction h with
 | fin hall _=>intro _ j _;exact .inl hall
 | @take n listed a s i oi v hi hfree hr hy hle hrest ih=>
  intro hcl j hj
  by_cases hji:j=i
  ·subst hji;exact .inr ⟨n,oi,v,rfl,hi,hy,hle,hrest⟩
  ·right
   have hun:∀ x,x∈Region.ready md ops listed→listed.getD x false=true→False:=by
    intro x hx ht
    have h0:=(mem_ready.1 hx).1
    rcases Nat.lt_or_ge x listed.size with h' | h'
    ·simp[h'] at h0 ht;rw[h0] at ht;cases ht
    ·simp[Array.getElem?_eq_none h'] at h0
   rcases ih (hcl.step hr) j (ready_mono hj hji) with hall | hex0
   ·exfalso
    have hjl:j=l:=by
     rcases Nat.decEq j l with h | h
     ·exfalso
      have hjs:j<ops.size:=by obtain⟨_,o,ho,_⟩:=mem_ready.1 hj;exact(Array.getElem?_eq_some_iff.1 ho).1
      have:=hall j hjs h
      rw[getD_set_ne false (Ne.symm hji)] at this
      exact hun j hj this
     ·exact h
    subst hjl
    exact hun i hr (hlast listed hcl hj i (Array.getElem?_eq_some_iff.1 hi).1 (Ne.symm hji))
   obtain⟨k,oj,vj,rfl,hoj,hyj,hlej,hc⟩:=hex0
   obtain⟨hjun,oj',hoj',hall⟩:=mem_ready.1 hj
   obtain rfl:oj=oj':=Option.some.inj (hoj.symm.trans hoj')
   have hnot:∀ e∈oj.after,Region.binds md e=true→e.on≠i:=fun e he hb heq=>by
    have h1:=hall e he hb
    have h0:=(mem_ready.1 hr).1
    rw[heq] at h1
    rcases Nat.lt_or_ge i listed.size with h' | h'
    ·simp[h'] at h0 h1;rw[h0] at h1;cases h1
    ·simp[Array.getElem?_eq_none h'] at h1
   obtain⟨h1,h2,h3⟩:=Oper.apart_spec (hfree j oj hoj hji hjun hnot)
   have hnm:mover i=true→mover j=true→False:=fun a b=>hji (hex listed hcl j i hj hr b a)
   have hyj0:YM P ops S m (mover j) s oj vj (a.put oi.dst v):=by
    cases hmj:mover j with
    | false=>rw[hmj] at hyj;exact hyj
    | true=>
     cases hmi:mover i with
     | true=>exact absurd hmj (fun h=>hnm hmi h)
     | false=>rw[hmj,hmi] at hyj;exact hyj
   have hy0:YM P ops S m (mover i) (up (mover j) s) oi v a:=by
    cases hmi:mover i with
    | false=>rw[hmi] at hy;exact hy
    | true=>
     cases hmj:mover j with
     | true=>exact absurd hmj (fun h=>hnm hmi h)
     | false=>rw[hmi] at hy;exact hy
   have hyj':YM P ops S m (mover j) s oj vj a:=hyj0.of_same (execOp_put oj (fun cs b=>hsel j oj cs b hoj) a oi.dst v h1).symm (wanted_put oj a oi.dst v h1).symm
   have hy':YM P ops S m (mover i) (up (mover j) s) oi v (a.put oj.dst vj):=hy0.of_same (execOp_put oi (fun cs b=>hsel i oi cs b hi) a oj.dst vj h3) (wanted_put oi a oj.dst vj h3)
   have hfree':∀ k ok,ops[k]?=some ok→k≠i→(listed.setIfInBounds j true).getD k true=false →
    (∀ e∈ok.after,Region.binds md e=true→e.on≠i)→oi.apart ops ok=true:=fun k ok hk hki hun hno=>by
    refine hfree k ok hk hki ?_ hno
    by_cases hjk:j=k
    ·subst hjk;exact hjun
    ·rw[getD_set_ne true hjk] at hun;exact hun
   rw[up_comm] at hlej hc
   refine⟨k+1,oj,vj,rfl,hoj,hyj',?_,.take hi hfree' (ready_mono hr (Ne.symm hji)) hy' hlej ?_⟩
   ·revert hlej;unfold up;split <;> split <;> omega
   ·rw[Array.setIfInBounds_comm _ _ hji,← Act.put_comm a v vj h2]
    exact hc
theorem CertM.sound(hsel:∀ (j:Nat) (o:Oper) cs b,ops[j]?=some o→o.op≠.select cs b)
 (hex:∀ listed,Closed md ops listed→∀ i j,i∈Region.ready md ops listed→j∈Region.ready md ops listed→mover i=true→mover j=true→i=j)
 (hlast:∀ listed,Closed md ops listed→l∈Region.ready md ops listed→∀ i,i<ops.size→i≠l→listed.getD i false=true):
 ∀ (n:Nat) (listed:Array Bool) (a:Act) (s:Nat),CertM P md ops Q S m mover l n listed a s→Closed md ops listed→∀ w,S s w→wpAny P md ops Q n listed a w:=by
 intro n
 induction n with
 | zero=>
  intro listed a s h hcl w hS
  cases h with
  | fin _ hf=>exact hf w hS
 | succ n ih=>
  intro listed a s h hcl w hS
  have hfr:=h.front hsel hex hlast hcl
  have hle0:=h.le
  cases h with
  | fin _ hf=>exact hf w hS
  | @take _ _ _ _ i oi v hi hfree hr hy hle hrest=>
   refine⟨fun h0=>(by rw[h0] at hr;cases hr),fun j hj=>?_⟩
   by_cases hji:j=i
   ·subst hji
    exact hy.wpOp hi hle0 hS fun w' hS'=>ih _ _ _ hrest (hcl.step hj) w' hS'
   ·rcases hfr j hj with hall | ⟨k,oj,vj,hk,hoj,hyj,hle',hc⟩
    ·exfalso
     have un:∀ x,x∈Region.ready md ops listed→x=l:=by
      intro x hx
      rcases Nat.decEq x l with h | h
      ·exfalso
       obtain⟨h0,o,ho,_⟩:=mem_ready.1 hx
       have ht:=hall x (Array.getElem?_eq_some_iff.1 ho).1 h
       rcases Nat.lt_or_ge x listed.size with h' | h'
       ·simp[h'] at h0 ht;rw[h0] at ht;cases ht
       ·simp[Array.getElem?_eq_none h'] at h0
      ·exact h
     exact hji ((un j hj).trans (un i hr).symm)
    ·obtain rfl:n=k:=by omega
     exact hyj.wpOp hoj hle0 hS fun w' hS'=>ih _ _ _ hc (hcl.step hj) w' hS'
def SeqM(P:Program)(ops:Array Oper)(S:Nat→World→Prop)(m:Nat)(mover:Nat→Bool)(fin:Act→Prop):List Oper→Nat→Nat→Act→Prop
 | [],_,s,a=>s=m∧fin a
 | o::rest,k,s,a=>∃ v,YM P ops S m (mover k) s o v a∧up (mover k) s≤m∧SeqM P ops S m mover fin rest (k+1) (up (mover k) s) (a.put o.dst v)
theorem closed_none(n:Nat)(hn:n=ops.size):Closed md ops (Array.replicate n false):=by
 intro j o ho hj
 exfalso
 have hlt:=(Array.getElem?_eq_some_iff.1 ho).1
 subst hn
 simp[hlt] at hj
variable {fin:Act→Prop} {o:Oper} {rest:List Oper} {a:Act} {v:Value} {k s:Nat}
end
end Go.Proofs.YtmllhjbnbhapoaaGreat
