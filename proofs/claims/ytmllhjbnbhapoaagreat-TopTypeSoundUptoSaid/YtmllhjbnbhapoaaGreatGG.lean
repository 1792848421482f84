/- Texts WT, WU, WV, WW, WX, WY, WZ, E1, E2, E3, P1. Conditions: none. -/
import Derived.Test.YtmllhjbnbhapoaaGreatGF
import Derived.Test.YtmllhjbnbhapoaaGreatGE
set_option linter.unusedSimpArgs false
set_option linter.unusedVariables false
namespace Go.Ab
open Go Go.Proofs
set_option maxRecDepth 10000
theorem size_nat(k:Int):∃ m:Nat,sizeOf4 k=m∧1≤m∧m≤64:=by
 unfold sizeOf4
 repeat' split
 ·exact⟨1,rfl,by omega,by omega⟩
 ·exact⟨4,rfl,by omega,by omega⟩
 ·exact⟨16,rfl,by omega,by omega⟩
 ·exact⟨64,rfl,by omega,by omega⟩
theorem ngo_mul{i n q:Nat}{k:Int→Prop}(h:i*n=q)(hq:q≤4096)(hk:k (q:Int)):ngo (IntKind.i64.wrap ((i:Int)*(n:Int))) k:=by
 have e:(i:Int)*(n:Int)=(q:Int):=by rw[← h];exact(Int.natCast_mul i n).symm
 rw[e]
 exact ngo_in (by omega) (by omega) hk
theorem product04(a b:Int)(ha:-1000≤a∧a≤1000)(hb:-1000≤b∧b≤1000)(f g:List Bool)(hf:f.length=64)(hg:g.length=64):∃ f':List Bool,f'.length=64∧AFun Tryz.prog 243 [setav a f,setav b g] (.p (setav (a+b) f')):=by
 suffices hh:∃ y,(∃ f':List Bool,y=.p (setav (a+b) f')∧f'.length=64)∧AFun Tryz.prog 243 [setav a f,setav b g] y by
  obtain⟨y,⟨r,rfl,hr⟩,hf⟩:=hh
  exact⟨r,hr,hf⟩
 refine AFunE.intro hT Tryz.func243 rfl rfl (by simp) ⟨_,List.replicate 64 false,rfl,List.length_replicate⟩ (AD.run hT hmix ?_)
 obtain⟨m,hm,hm1,hm2⟩:=size_nat a
 obtain⟨n,hn,hn1,hn2⟩:=size_nat b
 have hsa:=size04 a
 have hsb:=size04 b
 rw[hm] at hsa
 rw[hn] at hsb
 refine ngo_in (by omega) (by omega) (.pure _ _ rfl hsb ?_)
 refine AD.loopI (fun x:Nat×List Bool=>x.1≤m∧x.2.length=64) (fun x=>m - x.1) (fun x=>[(2,.loc 2 0),(3,.loc 3 0),(4,.loc 4 0),(5,.loc 5 0),(6,eint .i64 n),(7,eint .i64 x.1)]) (fun x=>[(2,.box 240 ((setcs a f).map .p)),(3,.box 240 ((setcs b g).map .p)),(4,.box 240 (zeroOf 240)),(5,.box 240 ((setcs (a+b) x.2).map .p))]) (0,List.replicate 64 false) ⟨Nat.zero_le _,List.length_replicate⟩ (.of (h2:=⟨⟨rfl,.inr ⟨rfl,okL_p _ _⟩⟩,⟨⟨rfl,.inr ⟨rfl,okL_p _ _⟩⟩,⟨⟨rfl,.inr ⟨rfl,rfl⟩⟩,⟨⟨rfl,.inr ⟨zero_set _,okL_p _ _⟩⟩,trivial⟩⟩⟩⟩)) fun ⟨i,r⟩ ⟨hi,hr⟩=>AD.run hT hmix ?_
 dsimp only at hi hr ⊢
 refine .pure _ _ rfl hsa ?_
 refine bgs (fun hb=>?_) (fun hb=>?_)
 ·replace hb:=odt hb
  have hlt:i<m:=by omega
  refine AD.loopI (fun x:Nat×List Bool=>x.1≤n∧x.2.length=64) (fun x=>n - x.1) (fun x=>[(2,.loc 2 0),(3,.loc 3 0),(4,.loc 4 0),(5,.loc 5 0),(6,eint .i64 n),(7,eint .i64 i),(8,eint .i64 x.1)]) (fun x=>[(2,.box 240 ((setcs a f).map .p)),(3,.box 240 ((setcs b g).map .p)),(4,.box 240 (zeroOf 240)),(5,.box 240 ((setcs (a+b) x.2).map .p))]) (0,r) ⟨Nat.zero_le _,hr⟩ (.of (h2:=⟨⟨rfl,.inr ⟨rfl,okL_p _ _⟩⟩,⟨⟨rfl,.inr ⟨rfl,okL_p _ _⟩⟩,⟨⟨rfl,.inr ⟨rfl,rfl⟩⟩,⟨⟨rfl,.inr ⟨rfl,okL_p _ _⟩⟩,trivial⟩⟩⟩⟩)) fun ⟨k,r⟩ ⟨hk,hr⟩=>AD.run hT hmix ?_
  dsimp only at hk hr ⊢
  refine bgs (fun hb2=>?_) (fun hb2=>?_)
  ·replace hb2:=odt hb2
   have hkt:k<n:=by omega
   obtain⟨q,hq,hq4⟩:∃ q,i*n=q∧q≤4096:=⟨_,rfl,Nat.mul_le_mul (show i≤64 by omega) (show n≤64 by omega)⟩
   refine⟨i,rfl,(show i<64 by omega),ogo_of (nth_setcs a f i (by omega)) ?_⟩
   refine bgs (fun hv=>?_) (fun hv=>?_)
   ·refine⟨k,rfl,(show k<64 by omega),ogo_of (nth_setcs b g k (by omega)) ?_⟩
    refine bgs (fun hw=>?_) (fun hw=>?_)
    ·refine ngo_mul hq hq4 (ngo_in (by omega) (by omega) ?_)
     refine bgs (fun hc=>?_) (fun hc=>?_)
     ·replace hc:=odt hc
      refine ngo_mul hq hq4 (ngo_in (by omega) (by omega) ?_)
      refine⟨q+k,by omega,(show q+k<64 by omega),bgo_true (by rw[Bool.and_eq_true,Bool.and_eq_true];exact⟨rfl,Nat.ble_eq_true_of_le (by rw[setcs_len];show 0+1+(q+k)*1+1≤_;omega),rfl⟩) (ngo_in (by omega) (by omega) ?_)⟩
      exact⟨(k+1,r.set (q+k) true),⟨by dsimp only;omega,by simpa using hr⟩,by dsimp only;omega,.of (h2:=⟨⟨rfl,.inr ⟨rfl,okL_p _ _⟩⟩,⟨⟨rfl,.inr ⟨rfl,okL_p _ _⟩⟩,⟨⟨rfl,.inr ⟨rfl,rfl⟩⟩,⟨⟨rfl,.inr ⟨setSeg_setcs ..,okL_p _ _⟩⟩,trivial⟩⟩⟩⟩)⟩
     ·exact ngo_in (by omega) (by omega) ⟨(k+1,r),⟨by dsimp only;omega,hr⟩,by dsimp only;omega,.of (h2:=⟨⟨rfl,.inr ⟨rfl,okL_p _ _⟩⟩,⟨⟨rfl,.inr ⟨rfl,okL_p _ _⟩⟩,⟨⟨rfl,.inr ⟨rfl,rfl⟩⟩,⟨⟨rfl,.inr ⟨rfl,okL_p _ _⟩⟩,trivial⟩⟩⟩⟩)⟩
    ·exact ngo_in (by omega) (by omega) ⟨(k+1,r),⟨by dsimp only;omega,hr⟩,by dsimp only;omega,.of (h2:=⟨⟨rfl,.inr ⟨rfl,okL_p _ _⟩⟩,⟨⟨rfl,.inr ⟨rfl,okL_p _ _⟩⟩,⟨⟨rfl,.inr ⟨rfl,rfl⟩⟩,⟨⟨rfl,.inr ⟨rfl,okL_p _ _⟩⟩,trivial⟩⟩⟩⟩)⟩
   ·exact ngo_in (by omega) (by omega) ⟨(k+1,r),⟨by dsimp only;omega,hr⟩,by dsimp only;omega,.of (h2:=⟨⟨rfl,.inr ⟨rfl,okL_p _ _⟩⟩,⟨⟨rfl,.inr ⟨rfl,okL_p _ _⟩⟩,⟨⟨rfl,.inr ⟨rfl,rfl⟩⟩,⟨⟨rfl,.inr ⟨rfl,okL_p _ _⟩⟩,trivial⟩⟩⟩⟩)⟩
  ·exact ngo_in (by omega) (by omega) ⟨(i+1,r),⟨by dsimp only;omega,hr⟩,by dsimp only;omega,.of (h2:=⟨⟨rfl,.inr ⟨rfl,okL_p _ _⟩⟩,⟨⟨rfl,.inr ⟨rfl,okL_p _ _⟩⟩,⟨⟨rfl,.inr ⟨rfl,rfl⟩⟩,⟨⟨rfl,.inr ⟨rfl,okL_p _ _⟩⟩,trivial⟩⟩⟩⟩)⟩
 ·refine bgo_true (Nat.ble_eq_true_of_le (by rw[setcs_len];show 0+65≤_;omega)) ?_
  generalize hz:List.take _ (List.drop _ ((setcs (a+b) r).map EV.p))=z
  obtain rfl:z=(setcs (a+b) r).map .p:=hz.symm.trans (take_setcs (a+b) r hr)
  clear hz
  refine bgo_true (by rw[Bool.and_eq_true,Bool.and_eq_true];exact⟨by rw[setcs_len,hr];rfl,rfl,rfl⟩) ?_
  have e:setSeg (zeroOf 240) 0 ((setcs (a+b) r).map EV.p)=(setcs (a+b) r).map .p:=setSeg_all _ _ (by rw[setcs_len,hr];rfl)
  exact⟨_,_,res_cell rfl rfl rfl rfl (by rw[e,setcs_len,hr]),by rw[e];exact toPs_agg_p _,r,rfl,hr⟩
theorem size_nat4(k:Int)(h:1≤k):∃ n:Nat,sizeOf4 k=((4*n:Nat):Int)∧1≤n∧n≤16:=by
 unfold sizeOf4
 repeat' split
 ·omega
 ·exact⟨1,rfl,by omega,by omega⟩
 ·exact⟨4,rfl,by omega,by omega⟩
 ·exact⟨16,rfl,by omega,by omega⟩
theorem join04(a b:Int)(ha:-1000≤a∧a≤1000)(hb:1≤b∧b≤1000)(f g:List Bool)(hf:f.length=64)(hg:g.length=64):∃ f':List Bool,f'.length=64∧AFun Tryz.prog 242 [setav a f,setav b g] (.p (setav (a+b - 2) f')):=by
 suffices hh:∃ y,(∃ f':List Bool,y=.p (setav (a+b - 2) f')∧f'.length=64)∧AFun Tryz.prog 242 [setav a f,setav b g] y by
  obtain⟨y,⟨r,rfl,hr⟩,hf⟩:=hh
  exact⟨r,hr,hf⟩
 refine AFunE.intro hT Tryz.func242 rfl rfl (by simp) ⟨_,List.replicate 64 false,rfl,List.length_replicate⟩ (AD.run hT hmix ?_)
 obtain⟨m,hm,hm1,hm2⟩:=size_nat a
 obtain⟨n,hn,hn1,hn2⟩:=size_nat4 b hb.1
 have hsa:=size04 a
 have hsb:=size04 b
 rw[hm] at hsa
 rw[hn] at hsb
 refine ngo_in (by omega) (by omega) (ngo_in (by omega) (by omega) (.pure _ _ rfl hsb ⟨by decide,(n:Int),(td4 (4*n) (by omega)).trans (by rw[Nat.mul_div_cancel_left _ (by decide)]),?_⟩))
 refine AD.loopI (fun x:Nat×List Bool=>x.1≤m∧x.2.length=64) (fun x=>m - x.1) (fun x=>[(2,.loc 2 0),(3,.loc 3 0),(4,.loc 4 0),(5,.loc 5 0),(6,eint .i64 n),(7,eint .i64 x.1)]) (fun x=>[(2,.box 240 ((setcs a f).map .p)),(3,.box 240 ((setcs b g).map .p)),(4,.box 240 (zeroOf 240)),(5,.box 240 ((setcs (a+b - 2) x.2).map .p))]) (0,List.replicate 64 false) ⟨Nat.zero_le _,List.length_replicate⟩ (.of (h2:=⟨⟨rfl,.inr ⟨rfl,okL_p _ _⟩⟩,⟨⟨rfl,.inr ⟨rfl,okL_p _ _⟩⟩,⟨⟨rfl,.inr ⟨rfl,rfl⟩⟩,⟨⟨rfl,.inr ⟨zero_set _,okL_p _ _⟩⟩,trivial⟩⟩⟩⟩)) fun ⟨i,r⟩ ⟨hi,hr⟩=>AD.run hT hmix ?_
 dsimp only at hi hr ⊢
 refine .pure _ _ rfl hsa ?_
 refine bgs (fun hb'=>?_) (fun hb'=>?_)
 ·replace hb':=odt hb'
  have hlt:i<m:=by omega
  refine AD.loopI (fun x:Nat×List Bool=>x.1≤4*n∧x.2.length=64) (fun x=>4*n - x.1) (fun x=>[(2,.loc 2 0),(3,.loc 3 0),(4,.loc 4 0),(5,.loc 5 0),(6,eint .i64 n),(7,eint .i64 i),(8,eint .i64 x.1)]) (fun x=>[(2,.box 240 ((setcs a f).map .p)),(3,.box 240 ((setcs b g).map .p)),(4,.box 240 (zeroOf 240)),(5,.box 240 ((setcs (a+b - 2) x.2).map .p))]) (0,r) ⟨Nat.zero_le _,hr⟩ (.of (h2:=⟨⟨rfl,.inr ⟨rfl,okL_p _ _⟩⟩,⟨⟨rfl,.inr ⟨rfl,okL_p _ _⟩⟩,⟨⟨rfl,.inr ⟨rfl,rfl⟩⟩,⟨⟨rfl,.inr ⟨rfl,okL_p _ _⟩⟩,trivial⟩⟩⟩⟩)) fun ⟨k,r⟩ ⟨hk,hr⟩=>AD.run hT hmix ?_
  dsimp only at hk hr ⊢
  refine .pure _ _ rfl hsb ?_
  refine bgs (fun hb2=>?_) (fun hb2=>?_)
  ·replace hb2:=odt hb2
   have hkt:k<4*n:=by omega
   have hn0:(n:Int)≠0:=by omega
   obtain⟨q,hq,hq4⟩:∃ q,i / 4*n=q∧q≤4096:=⟨_,rfl,Nat.mul_le_mul (show i / 4≤64 by omega) (show n≤64 by omega)⟩
   obtain⟨s,hs,hs4⟩:∃ s,k / n=s∧s≤64:=⟨_,rfl,by have:=Nat.div_le_self k n;omega⟩
   have hdv:IntKind.i64.wrap ((k:Int).tdiv (n:Int))=(s:Int):=by
    show IntKind.i64.wrap ((k / n:Nat):Int)=_
    rw[hs];exact wrap64_in (by omega) (by omega)
   have hrm:k % n<n:=Nat.mod_lt _ (by omega)
   refine⟨by decide,_,td4 i (by omega),ngo_mul hq hq4 ⟨hn0,((k % n:Nat):Int),rfl,ngo_in (by omega) (by omega) ?_⟩⟩
   refine⟨i,rfl,(show i<64 by omega),ogo_of (nth_setcs a f i (by omega)) ?_⟩
   refine bgs (fun hv=>?_) (fun hv=>?_)
   ·refine⟨k,rfl,(show k<64 by omega),ogo_of (nth_setcs b g k (by omega)) ?_⟩
    refine bgs (fun hw=>?_) (fun hw=>?_)
    ·refine⟨by decide,_,tm4 i,hn0,(s:Int),hdv,?_⟩
     refine bgs (fun hc=>?_) (fun hc=>?_)
     ·refine bgs (fun hc=>?_) (fun hc=>?_)
      ·replace hc:=odt hc
       refine⟨q+k % n,by omega,(show q+k % n<64 by omega),bgo_true (by rw[Bool.and_eq_true,Bool.and_eq_true];exact⟨rfl,Nat.ble_eq_true_of_le (by rw[setcs_len];show 0+1+(q+k % n)*1+1≤_;omega),rfl⟩) (ngo_in (by omega) (by omega) ?_)⟩
       exact⟨(k+1,r.set (q+k % n) true),⟨by dsimp only;omega,by simpa using hr⟩,by dsimp only;omega,.of (h2:=⟨⟨rfl,.inr ⟨rfl,okL_p _ _⟩⟩,⟨⟨rfl,.inr ⟨rfl,okL_p _ _⟩⟩,⟨⟨rfl,.inr ⟨rfl,rfl⟩⟩,⟨⟨rfl,.inr ⟨setSeg_setcs ..,okL_p _ _⟩⟩,trivial⟩⟩⟩⟩)⟩
      ·exact ngo_in (by omega) (by omega) ⟨(k+1,r),⟨by dsimp only;omega,hr⟩,by dsimp only;omega,.of (h2:=⟨⟨rfl,.inr ⟨rfl,okL_p _ _⟩⟩,⟨⟨rfl,.inr ⟨rfl,okL_p _ _⟩⟩,⟨⟨rfl,.inr ⟨rfl,rfl⟩⟩,⟨⟨rfl,.inr ⟨rfl,okL_p _ _⟩⟩,trivial⟩⟩⟩⟩)⟩
     ·exact ngo_in (by omega) (by omega) ⟨(k+1,r),⟨by dsimp only;omega,hr⟩,by dsimp only;omega,.of (h2:=⟨⟨rfl,.inr ⟨rfl,okL_p _ _⟩⟩,⟨⟨rfl,.inr ⟨rfl,okL_p _ _⟩⟩,⟨⟨rfl,.inr ⟨rfl,rfl⟩⟩,⟨⟨rfl,.inr ⟨rfl,okL_p _ _⟩⟩,trivial⟩⟩⟩⟩)⟩
    ·exact ngo_in (by omega) (by omega) ⟨(k+1,r),⟨by dsimp only;omega,hr⟩,by dsimp only;omega,.of (h2:=⟨⟨rfl,.inr ⟨rfl,okL_p _ _⟩⟩,⟨⟨rfl,.inr ⟨rfl,okL_p _ _⟩⟩,⟨⟨rfl,.inr ⟨rfl,rfl⟩⟩,⟨⟨rfl,.inr ⟨rfl,okL_p _ _⟩⟩,trivial⟩⟩⟩⟩)⟩
   ·exact ngo_in (by omega) (by omega) ⟨(k+1,r),⟨by dsimp only;omega,hr⟩,by dsimp only;omega,.of (h2:=⟨⟨rfl,.inr ⟨rfl,okL_p _ _⟩⟩,⟨⟨rfl,.inr ⟨rfl,okL_p _ _⟩⟩,⟨⟨rfl,.inr ⟨rfl,rfl⟩⟩,⟨⟨rfl,.inr ⟨rfl,okL_p _ _⟩⟩,trivial⟩⟩⟩⟩)⟩
  ·exact ngo_in (by omega) (by omega) ⟨(i+1,r),⟨by dsimp only;omega,hr⟩,by dsimp only;omega,.of (h2:=⟨⟨rfl,.inr ⟨rfl,okL_p _ _⟩⟩,⟨⟨rfl,.inr ⟨rfl,okL_p _ _⟩⟩,⟨⟨rfl,.inr ⟨rfl,rfl⟩⟩,⟨⟨rfl,.inr ⟨rfl,okL_p _ _⟩⟩,trivial⟩⟩⟩⟩)⟩
 ·refine bgo_true (Nat.ble_eq_true_of_le (by rw[setcs_len];show 0+65≤_;omega)) ?_
  generalize hz:List.take _ (List.drop _ ((setcs (a+b - 2) r).map EV.p))=z
  obtain rfl:z=(setcs (a+b - 2) r).map .p:=hz.symm.trans (take_setcs (a+b - 2) r hr)
  clear hz
  refine bgo_true (by rw[Bool.and_eq_true,Bool.and_eq_true];exact⟨by rw[setcs_len,hr];rfl,rfl,rfl⟩) ?_
  have e:setSeg (zeroOf 240) 0 ((setcs (a+b - 2) r).map EV.p)=(setcs (a+b - 2) r).map .p:=setSeg_all _ _ (by rw[setcs_len,hr];rfl)
  exact⟨_,_,res_cell rfl rfl rfl rfl (by rw[e,setcs_len,hr]),by rw[e];exact toPs_agg_p _,r,rfl,hr⟩
theorem toPs_two(l m:List AV):toPs [.agg (l.map EV.p),.agg (m.map EV.p)]=some [.agg l,.agg m]:=by
 have h1:=toPs_p l
 have h2:=toPs_p m
 simp only[toPs,toP.toPl,toP] at h1 h2 ⊢
 rw[h1,h2];rfl
theorem toPs_one(l:List AV)(x:AV):toPs [.agg (l.map EV.p),.p x]=some [.agg l,x]:=by
 have h1:=toPs_p l
 simp only[toPs,toP.toPl,toP] at h1 ⊢
 rw[h1];rfl
theorem closure04(a:Int)(ha:1≤a∧a≤1000)(f:List Bool)(hf:f.length=64):∃ f':List Bool,f'.length=64∧AFun Tryz.prog 245 [setav a f] (.p (setav a f')):=by
 suffices hh:∃ y,(∃ f':List Bool,y=.p (setav a f')∧f'.length=64)∧AFun Tryz.prog 245 [setav a f] y by
  obtain⟨y,⟨r,rfl,hr⟩,hf⟩:=hh
  exact⟨r,hr,hf⟩
 refine AFunE.intro hT Tryz.func245 rfl rfl (by simp) ⟨_,List.replicate 64 false,rfl,List.length_replicate⟩ (AD.run hT hmix ?_)
 refine AD.loopI (fun x:Nat×List Bool=>x.1≤4∧x.2.length=64) (fun x=>4 - x.1) (fun x=>[(1,.loc 1 0),(2,.loc 2 0),(3,eint .i64 x.1)]) (fun x=>[(1,.box 240 ((setcs a x.2).map .p)),(2,.box 240 (zeroOf 240))]) (0,f) ⟨Nat.zero_le _,hf⟩ (.of (h2:=⟨⟨rfl,.inr ⟨rfl,okL_p _ _⟩⟩,⟨⟨rfl,.inr ⟨rfl,rfl⟩⟩,trivial⟩⟩)) fun ⟨i,f⟩ ⟨hi,hf⟩=>AD.run hT hmix ?_
 dsimp only at hi hf ⊢
 refine bgs (fun hb=>?_) (fun hb=>?_)
 ·replace hb:=odt hb
  have hlt:i<4:=by omega
  obtain⟨g,hg,hj⟩:=join04 a a ⟨by omega,ha.2⟩ ha f f hf hf
  obtain⟨r,hr,hu⟩:=union04 a (a+a - 2) f g hf hg
  refine bgo_true (Nat.ble_eq_true_of_le (by rw[setcs_len];show 0+65≤_;omega)) ?_
  generalize hz:List.take _ (List.drop _ ((setcs a f).map EV.p))=z
  obtain rfl:z=(setcs a f).map .p:=hz.symm.trans (take_setcs a f hf)
  clear hz
  refine bgo_true (Nat.ble_eq_true_of_le (by rw[setcs_len];show 0+65≤_;omega)) ?_
  generalize hz:List.take _ (List.drop _ ((setcs a f).map EV.p))=z
  obtain rfl:z=(setcs a f).map .p:=hz.symm.trans (take_setcs a f hf)
  clear hz
  refine bgo_true (Nat.ble_eq_true_of_le (by rw[setcs_len];show 0+65≤_;omega)) ?_
  generalize hz:List.take _ (List.drop _ ((setcs a f).map EV.p))=z
  obtain rfl:z=(setcs a f).map .p:=hz.symm.trans (take_setcs a f hf)
  clear hz
  refine .pure [setav a f,setav a f] _ (toPs_two _ _) hj (.pure [setav a f,setav (a+a - 2) g] _ (toPs_one _ _) hu ?_)
  refine bgo_true (by rw[Bool.and_eq_true,Bool.and_eq_true];exact⟨(by rw[show(setav a r).cells=setcs a r from rfl,setcs_len,hr];rfl),Nat.ble_eq_true_of_le (by rw[setcs_len];show 0+65≤_;omega),rfl⟩) ?_
  refine⟨by kernel_rfl,ngo_in (by omega) (by omega) ?_⟩
  exact⟨(i+1,r),⟨by dsimp only;omega,hr⟩,by dsimp only;omega,.of (h2:=⟨⟨rfl,.inr ⟨setSeg_all ((setcs a f).map EV.p) ((setcs a r).map EV.p) (by rw[setcs_len,setcs_len,hf,hr]),okL_p _ _⟩⟩,⟨⟨rfl,.inr ⟨rfl,rfl⟩⟩,trivial⟩⟩)⟩
 ·refine bgo_true (Nat.ble_eq_true_of_le (by rw[setcs_len];show 0+65≤_;omega)) ?_
  generalize hz:List.take _ (List.drop _ ((setcs a f).map EV.p))=z
  obtain rfl:z=(setcs a f).map .p:=hz.symm.trans (take_setcs a f hf)
  clear hz
  refine bgo_true (by rw[Bool.and_eq_true,Bool.and_eq_true];exact⟨by rw[setcs_len,hf];rfl,rfl,rfl⟩) ?_
  have e:setSeg (zeroOf 240) 0 ((setcs a f).map EV.p)=(setcs a f).map .p:=setSeg_all _ _ (by rw[setcs_len,hf];rfl)
  exact⟨_,_,res_cell rfl rfl rfl rfl (by rw[e,setcs_len,hf]),by rw[e];exact toPs_agg_p _,f,rfl,hf⟩
theorem all04(s:Spc)(k:Int)(hk:k=1∨k=2)(hs:s.sorts.length≤4):∃ f':List Bool,f'.length=64∧AFun Tryz.prog 239 [s.ex,eI k] (.p (setav k f')):=by
 suffices hh:∃ y,(∃ f':List Bool,y=.p (setav k f')∧f'.length=64)∧AFun Tryz.prog 239 [s.ex,eI k] y by
  obtain⟨y,⟨r,rfl,hr⟩,hf⟩:=hh
  exact⟨r,hr,hf⟩
 refine AFunE.intro hT Tryz.func239 rfl rfl (by simp) ⟨_,List.replicate 64 false,rfl,List.length_replicate⟩ (AD.run hT hmix ?_)
 have hl:(s.sorts.map Srt.av).length=s.sorts.length:=List.length_map _
 refine AD.loopI (fun x:Nat×List Bool=>x.1≤s.sorts.length∧x.2.length=64) (fun x=>s.sorts.length - x.1) (fun x=>[(1,.p (eI k)),(2,.loc 2 0),(4,.loc 4 0),(5,.loc 5 0),(6,eint .i64 x.1)]) (fun x=>[(2,.box 27 (s.cx.map .p)),(4,.box 240 (zeroOf 240)),(5,.box 240 ((setcs k x.2).map .p))]) (0,List.replicate 64 false) ⟨Nat.zero_le _,List.length_replicate⟩ (.of (h2:=⟨⟨rfl,.inr ⟨rfl,okL_p _ _⟩⟩,⟨⟨rfl,.inr ⟨rfl,rfl⟩⟩,⟨⟨rfl,.inr ⟨zero_set _,okL_p _ _⟩⟩,trivial⟩⟩⟩)) fun ⟨i,r⟩ ⟨hi,hr⟩=>AD.run hT hmix ?_
 dsimp only at hi hr ⊢
 intro _
 refine bgs (fun hb=>?_) (fun hb=>?_)
 ·replace hb:=odt hb
  refine bgs (fun hk1=>?_) (fun hk1=>?_)
  ·skip
   have hlt:i<s.sorts.length:=by omega
   obtain⟨g,hg,ho⟩:=one04 [(i:Int)] (by simp) (by simp;omega)
   obtain⟨q,hq,hu⟩:=union04 k (([(i:Int)]:List Int).length:Int) r g hr hg
   refine bgo_true (Nat.ble_eq_true_of_le (by rw[setcs_len];show 0+65≤_;omega)) ?_
   generalize hz:List.take _ (List.drop _ ((setcs k r).map EV.p))=z
   obtain rfl:z=(setcs k r).map .p:=hz.symm.trans (take_setcs k r hr)
   clear hz
   refine .pure [ints [(i:Int)]] _ rfl ho (.pure [setav k r,setav (([(i:Int)]:List Int).length:Int) g] _ (toPs_one _ _) hu ?_)
   refine bgo_true (by rw[Bool.and_eq_true,Bool.and_eq_true];exact⟨(by rw[show(setav k q).cells=setcs k q from rfl,setcs_len,hq];rfl),Nat.ble_eq_true_of_le (by rw[setcs_len];show 0+65≤_;omega),rfl⟩) ?_
   refine⟨by kernel_rfl,ngo_in (by omega) (by omega) ?_⟩
   exact⟨(i+1,q),⟨by dsimp only;omega,hq⟩,by dsimp only;omega,.of (h2:=⟨⟨rfl,.inr ⟨rfl,okL_p _ _⟩⟩,⟨⟨rfl,.inr ⟨rfl,rfl⟩⟩,⟨⟨rfl,.inr ⟨setSeg_all ((setcs k r).map EV.p) ((setcs k q).map EV.p) (by rw[setcs_len,setcs_len,hr,hq]),okL_p _ _⟩⟩,trivial⟩⟩⟩)⟩
  ·skip
   have hlt:i<s.sorts.length:=by omega
   obtain⟨g,hg,ho⟩:=one04 [(i:Int),(i:Int)] (by simp) (by simp;omega)
   obtain⟨q,hq,hu⟩:=union04 k (([(i:Int),(i:Int)]:List Int).length:Int) r g hr hg
   refine bgo_true (Nat.ble_eq_true_of_le (by rw[setcs_len];show 0+65≤_;omega)) ?_
   generalize hz:List.take _ (List.drop _ ((setcs k r).map EV.p))=z
   obtain rfl:z=(setcs k r).map .p:=hz.symm.trans (take_setcs k r hr)
   clear hz
   refine .pure [ints [(i:Int),(i:Int)]] _ rfl ho (.pure [setav k r,setav (([(i:Int),(i:Int)]:List Int).length:Int) g] _ (toPs_one _ _) hu ?_)
   refine bgo_true (by rw[Bool.and_eq_true,Bool.and_eq_true];exact⟨(by rw[show(setav k q).cells=setcs k q from rfl,setcs_len,hq];rfl),Nat.ble_eq_true_of_le (by rw[setcs_len];show 0+65≤_;omega),rfl⟩) ?_
   refine⟨by kernel_rfl,ngo_in (by omega) (by omega) ?_⟩
   exact⟨(i+1,q),⟨by dsimp only;omega,hq⟩,by dsimp only;omega,.of (h2:=⟨⟨rfl,.inr ⟨rfl,okL_p _ _⟩⟩,⟨⟨rfl,.inr ⟨rfl,rfl⟩⟩,⟨⟨rfl,.inr ⟨setSeg_all ((setcs k r).map EV.p) ((setcs k q).map EV.p) (by rw[setcs_len,setcs_len,hr,hq]),okL_p _ _⟩⟩,trivial⟩⟩⟩)⟩
 ·refine bgo_true (Nat.ble_eq_true_of_le (by rw[setcs_len];show 0+65≤_;omega)) ?_
  generalize hz:List.take _ (List.drop _ ((setcs k r).map EV.p))=z
  obtain rfl:z=(setcs k r).map .p:=hz.symm.trans (take_setcs k r hr)
  clear hz
  refine bgo_true (by rw[Bool.and_eq_true,Bool.and_eq_true];exact⟨by rw[setcs_len,hr];rfl,rfl,rfl⟩) ?_
  have e:setSeg (zeroOf 240) 0 ((setcs k r).map EV.p)=(setcs k r).map .p:=setSeg_all _ _ (by rw[setcs_len,hr];rfl)
  exact⟨_,_,res_cell rfl rfl rfl rfl (by rw[e,setcs_len,hr]),by rw[e];exact toPs_agg_p _,r,rfl,hr⟩
abbrev Sx:=Int×List Bool
def Sx.av(x:Sx):AV:=setav x.1 x.2
def Sx.Ok(x:Sx):Prop:=(1≤x.1∧x.1≤3)∧x.2.length=64
theorem res_cell_tmp{env:Env}{h:AHp}{a b k:Nat}{ty:Nat}{ti:TI}{t:TypeId}{cs:List EV}(h1:T.get ty=some ti)(h2:lk env a=.loc k 0)(h3:hp h k=.box t cs)(h4:ti.agg=true)(h5:cs.length=ti.size){v:Value}(hx:lk env b=.p (.imm v)):resAll T env h [.cell a ty,.tmp b]=some [.agg cs,.p (.imm v)]:=by
 simp only[resAll,resOne,h1,h2,h3,h4,hx,cond_true]
 rw[show Nat.ble (0+ti.size) cs.length=true from Nat.ble_eq_true_of_le (by omega)]
 simp only[cond_true,List.drop_zero]
 rw[List.take_of_length_le (by omega)]
def ArApp(op num:Int)(l:List Int)(a:Int):Prop:=
 (op=2→a=num)∧(op=3→a=1)∧(op=4→a=2)∧(op=5→l=[a])∧((6≤op∧op≤8)∨op=14→l=[a,a])∧(op=32∨op=33→∃ b,l=[b,b]) ∧
 (op=9→∃ b c,l=[b,c]∧a=b+c - 2∧1≤a∧a≤3)∧(op=10→∃ b c,l=[b,c]∧a=b+c∧a≤3)∧(11≤op∧op≤13→l=[2]∧a=2)
section
variable {op num a:Int} {l:List Int}
theorem ArApp.p2(h:op=2)(ha:a=num):ArApp op num l a:=⟨fun _=>ha,fun _=>by omega,fun _=>by omega,fun _=>by omega,fun _=>by omega,fun _=>by omega,fun _=>by omega,fun _=>by omega,fun _=>by omega⟩
theorem ArApp.p3(h:op=3)(ha:a=1):ArApp op num l a:=⟨fun _=>by omega,fun _=>ha,fun _=>by omega,fun _=>by omega,fun _=>by omega,fun _=>by omega,fun _=>by omega,fun _=>by omega,fun _=>by omega⟩
theorem ArApp.p4(h:op=4)(ha:a=2):ArApp op num l a:=⟨fun _=>by omega,fun _=>by omega,fun _=>ha,fun _=>by omega,fun _=>by omega,fun _=>by omega,fun _=>by omega,fun _=>by omega,fun _=>by omega⟩
theorem ArApp.p5(h:op=5)(ha:l=[a]):ArApp op num l a:=⟨fun _=>by omega,fun _=>by omega,fun _=>by omega,fun _=>ha,fun _=>by omega,fun _=>by omega,fun _=>by omega,fun _=>by omega,fun _=>by omega⟩
theorem ArApp.p6(h:(6≤op∧op≤8)∨op=14)(ha:l=[a,a]):ArApp op num l a:=⟨fun _=>by omega,fun _=>by omega,fun _=>by omega,fun _=>by omega,fun _=>ha,fun _=>by omega,fun _=>by omega,fun _=>by omega,fun _=>by omega⟩
theorem ArApp.p32(h:op=32∨op=33)(ha:∃ b,l=[b,b]):ArApp op num l a:=⟨fun _=>by omega,fun _=>by omega,fun _=>by omega,fun _=>by omega,fun _=>by omega,fun _=>ha,fun _=>by omega,fun _=>by omega,fun _=>by omega⟩
theorem ArApp.p9(h:op=9)(ha:∃ b c,l=[b,c]∧a=b+c - 2∧1≤a∧a≤3):ArApp op num l a:=⟨fun _=>by omega,fun _=>by omega,fun _=>by omega,fun _=>by omega,fun _=>by omega,fun _=>by omega,fun _=>ha,fun _=>by omega,fun _=>by omega⟩
theorem ArApp.p10(h:op=10)(ha:∃ b c,l=[b,c]∧a=b+c∧a≤3):ArApp op num l a:=⟨fun _=>by omega,fun _=>by omega,fun _=>by omega,fun _=>by omega,fun _=>by omega,fun _=>by omega,fun _=>by omega,fun _=>ha,fun _=>by omega⟩
theorem ArApp.p11(h:11≤op∧op≤13)(ha:l=[2]∧a=2):ArApp op num l a:=⟨fun _=>by omega,fun _=>by omega,fun _=>by omega,fun _=>by omega,fun _=>by omega,fun _=>by omega,fun _=>by omega,fun _=>by omega,fun _=>ha⟩
theorem ArApp.p0(h:op<2∨14<op)(h2:op≠32∧op≠33):ArApp op num l a:=⟨fun _=>by omega,fun _=>by omega,fun _=>by omega,fun _=>by omega,fun _=>by omega,fun _=>by omega,fun _=>by omega,fun _=>by omega,fun _=>by omega⟩
end
def ArOk(op num:Int)(l:List Int)(a:Int):Prop:=ArApp op num l a∧(1≤op→op≤15→1≤a∧a≤3)
def AppR(op num:Int)(l:List Int)(y:EV):Prop:=∃ a f ok,y=.tup [.p (setav a f),.p (eB ok)]∧f.length=64∧(ok=true→ArOk op num l a)
theorem len_beq{A:Int}{f:List Bool}(hf:f.length=64):(List.map EV.p (setav A f).cells).length.beq 65=true:=by
 rw[show(setav A f).cells=setcs A f from rfl,setcs_len,hf];rfl
theorem app_fin{op num:Int}{l:List Int}{env:Env}{h:AHp}{A:Int}{f:List Bool}{ok:Bool}(hf:f.length=64)(hA:ok=true→ArOk op num l A)(h2:lk env 6=.loc 6 0)(h3:hp h 6=.box 240 (setSeg (zeroOf 240) 0 ((setcs A f).map .p)))(hx:lk env 7=.p (.imm (.bool ok))):∃ es xs,resAll T env h [.cell 6 240,.tmp 7]=some es∧toPs es=some xs∧AppR op num l (retEV xs):=by
 have e:setSeg (zeroOf 240) 0 ((setcs A f).map EV.p)=(setcs A f).map .p:=setSeg_all _ _ (by rw[setcs_len,hf];rfl)
 rw[e] at h3
 exact⟨_,_,res_cell_tmp rfl h2 h3 rfl (by rw[setcs_len,hf]) hx,toPs_one _ _,A,f,ok,rfl,hf,hA⟩
theorem app_fin2{op num:Int}{l:List Int}{env:Env}{h:AHp}{A:Int}{cs:List EV}(e:cs=(setcs A (List.replicate 64 false)).map .p)(hA:ArOk op num l A)(h2:lk env 6=.loc 6 0)(h3:hp h 6=.box 240 cs)(hx:lk env 7=.p (.imm (.bool true))):∃ es xs,resAll T env h [.cell 6 240,.tmp 7]=some es∧toPs es=some xs∧AppR op num l (retEV xs):=by
 subst e
 exact⟨_,_,res_cell_tmp rfl h2 h3 rfl (by rw[setcs_len,List.length_replicate]) hx,toPs_one _ _,A,List.replicate 64 false,true,rfl,List.length_replicate,fun _=>hA⟩
theorem app_fin3{op num:Int}{l:List Int}{env:Env}{h:AHp}{ok:Bool}(hop:ok=true→ArApp op num l 0)(hop2:¬(1≤op∧op≤15))(h2:lk env 6=.loc 6 0)(h3:hp h 6=.box 240 (setSeg (zeroOf 240) 0 (zeroOf 240)))(hx:lk env 7=.p (.imm (.bool ok))):∃ es xs,resAll T env h [.cell 6 240,.tmp 7]=some es∧toPs es=some xs∧AppR op num l (retEV xs):=by
 have e:setSeg (zeroOf 240) 0 (zeroOf 240)=(setcs 0 (List.replicate 64 false)).map .p:=by
  rw[setSeg_all _ _ rfl]
  have e:zeroOf 240=.p (eI 0)::List.replicate 64 (.p (eB false)):=rfl
  rw[e];simp[setcs,List.map_replicate]
 rw[e] at h3
 exact⟨_,_,res_cell_tmp rfl h2 h3 rfl (by rw[setcs_len,List.length_replicate]) hx,toPs_one _ _,0,List.replicate 64 false,ok,rfl,List.length_replicate,fun h=>⟨hop h,fun h h'=>absurd ⟨h,h'⟩ hop2⟩⟩
theorem apply04(s:Spc)(hs:s.sorts.length≤4)(n:Nd)(l:List Sx)(hn:n.op=2→1≤n.n∧n.n≤3)(h1:n.op=5∨n.op=11∨n.op=12∨n.op=13→∃ x:Sx,l=[x]∧x.Ok)(h2:(6≤n.op∧n.op≤10)∨n.op=14∨n.op=32∨n.op=33→∃ x y:Sx,l=[x,y]∧x.Ok∧y.Ok)(h15:n.op≠1∧n.op≠15):∃ y,AppR n.op n.n (l.map (·.1)) y∧AFun Tryz.prog 219 [s.ex,n.ex,.slice 65 (l.map Sx.av)] y:=by
 refine AFunE.intro hT Tryz.func219 rfl rfl (by simp) ⟨_,1,List.replicate 64 false,false,rfl,List.length_replicate,nofun⟩ (AD.run hT hmix ?_)
 refine bgs (fun hb=>?_) (fun hb2=>?_)
 ·replace hb:=beq_iff_eq.1 hb
  have e:setSeg (zeroOf 240) 0 (setSeg (zeroOf 240) 0 [.p (eI n.n)])=(setcs n.n (List.replicate 64 false)).map .p:=zero_set n.n
  exact app_fin2 e ⟨.p2 hb rfl,fun _ _=>hn hb⟩ rfl rfl rfl
 refine bgs (fun hb=>?_) (fun hb3=>?_)
 ·replace hb:=beq_iff_eq.1 hb
  obtain⟨f,hf,ha⟩:=all04 s 1 (.inl rfl) hs
  refine .pure [s.ex,eI 1] _ rfl ha ?_
  refine bgo_true (by rw[Bool.and_eq_true,Bool.and_eq_true];exact⟨len_beq hf,rfl,rfl⟩) ?_
  exact app_fin hf (fun _=>⟨.p3 hb rfl,fun _ _=>by omega⟩) rfl rfl rfl
 refine bgs (fun hb=>?_) (fun hb4=>?_)
 ·replace hb:=beq_iff_eq.1 hb
  obtain⟨f,hf,ha⟩:=all04 s 2 (.inr rfl) hs
  refine .pure [s.ex,eI 2] _ rfl ha ?_
  refine bgo_true (by rw[Bool.and_eq_true,Bool.and_eq_true];exact⟨len_beq hf,rfl,rfl⟩) ?_
  exact app_fin hf (fun _=>⟨.p4 hb rfl,fun _ _=>by omega⟩) rfl rfl rfl
 refine bgs (fun hb=>?_) (fun hb5=>?_)
 ·replace hb:=beq_iff_eq.1 hb
  obtain⟨⟨a,f⟩,rfl,ha,hf⟩:=h1 (by omega)
  dsimp only at ha hf
  refine igo_map (f:=Sx.av) (l:=[(a,f)]) 0 rfl Nat.zero_lt_one ?_
  refine bgo_true (by rw[Bool.and_eq_true,Bool.and_eq_true];exact⟨len_beq hf,rfl,rfl⟩) ?_
  exact app_fin hf (fun _=>⟨.p5 hb rfl,fun _ _=>ha⟩) rfl rfl rfl
 refine bgs (fun hop=>?_) (fun hb6=>?_)
 ·refine bgo_true hop ?_
  replace hop:=beq_iff_eq.1 hop
  obtain⟨⟨a,f⟩,⟨b,g⟩,rfl,⟨ha,hf⟩,hb,hg⟩:=h2 (by omega)
  dsimp only at ha hf hb hg
  have E0:([(a,f),(b,g)]:List Sx)[0].1=a:=rfl
  have E1:([(a,f),(b,g)]:List Sx)[1].1=b:=rfl
  obtain⟨r,hr,hu⟩:=union04 a b f g hf hg
  refine igo_map (f:=Sx.av) (l:=[(a,f),(b,g)]) 0 rfl Nat.zero_lt_two ?_
  refine igo_map (f:=Sx.av) (l:=[(a,f),(b,g)]) 1 rfl Nat.one_lt_two ?_
  refine .pure [setav a f,setav b g] _ rfl hu ?_
  refine igo_map (f:=Sx.av) (l:=[(a,f),(b,g)]) 0 rfl Nat.zero_lt_two ?_
  refine igo_map (f:=Sx.av) (l:=[(a,f),(b,g)]) 1 rfl Nat.one_lt_two ?_
  refine bgo_true (by rw[Bool.and_eq_true,Bool.and_eq_true];exact⟨len_beq hr,rfl,rfl⟩) ?_
  exact⟨by kernel_rfl,app_fin hr (fun h=>⟨.p6 (by omega) (by rw[show a=b from beq_iff_eq.1 h];rfl),fun _ _=>ha⟩) rfl rfl rfl⟩
 refine bgs (fun hop=>?_) (fun hb14=>?_)
 ·skip
  replace hop:=beq_iff_eq.1 hop
  obtain⟨⟨a,f⟩,⟨b,g⟩,rfl,⟨ha,hf⟩,hb,hg⟩:=h2 (by omega)
  dsimp only at ha hf hb hg
  have E0:([(a,f),(b,g)]:List Sx)[0].1=a:=rfl
  have E1:([(a,f),(b,g)]:List Sx)[1].1=b:=rfl
  obtain⟨r,hr,hu⟩:=union04 a b f g hf hg
  refine igo_map (f:=Sx.av) (l:=[(a,f),(b,g)]) 0 rfl Nat.zero_lt_two ?_
  refine igo_map (f:=Sx.av) (l:=[(a,f),(b,g)]) 1 rfl Nat.one_lt_two ?_
  refine .pure [setav a f,setav b g] _ rfl hu ?_
  refine igo_map (f:=Sx.av) (l:=[(a,f),(b,g)]) 0 rfl Nat.zero_lt_two ?_
  refine igo_map (f:=Sx.av) (l:=[(a,f),(b,g)]) 1 rfl Nat.one_lt_two ?_
  refine bgo_true (by rw[Bool.and_eq_true,Bool.and_eq_true];exact⟨len_beq hr,rfl,rfl⟩) ?_
  exact⟨by kernel_rfl,app_fin hr (fun h=>⟨.p6 (by omega) (by rw[show a=b from beq_iff_eq.1 h];rfl),fun _ _=>ha⟩) rfl rfl rfl⟩
 refine bgs (fun hop=>?_) (fun hb7=>?_)
 ·skip
  replace hop:=beq_iff_eq.1 hop
  obtain⟨⟨a,f⟩,⟨b,g⟩,rfl,⟨ha,hf⟩,hb,hg⟩:=h2 (by omega)
  dsimp only at ha hf hb hg
  have E0:([(a,f),(b,g)]:List Sx)[0].1=a:=rfl
  have E1:([(a,f),(b,g)]:List Sx)[1].1=b:=rfl
  obtain⟨r,hr,hu⟩:=inter04 a b f g hf hg
  refine igo_map (f:=Sx.av) (l:=[(a,f),(b,g)]) 0 rfl Nat.zero_lt_two ?_
  refine igo_map (f:=Sx.av) (l:=[(a,f),(b,g)]) 1 rfl Nat.one_lt_two ?_
  refine .pure [setav a f,setav b g] _ rfl hu ?_
  refine igo_map (f:=Sx.av) (l:=[(a,f),(b,g)]) 0 rfl Nat.zero_lt_two ?_
  refine igo_map (f:=Sx.av) (l:=[(a,f),(b,g)]) 1 rfl Nat.one_lt_two ?_
  refine bgo_true (by rw[Bool.and_eq_true,Bool.and_eq_true];exact⟨len_beq hr,rfl,rfl⟩) ?_
  exact⟨by kernel_rfl,app_fin hr (fun h=>⟨.p6 (by omega) (by rw[show a=b from beq_iff_eq.1 h];rfl),fun _ _=>ha⟩) rfl rfl rfl⟩
 refine bgs (fun hop=>?_) (fun hb8=>?_)
 ·skip
  replace hop:=beq_iff_eq.1 hop
  obtain⟨⟨a,f⟩,⟨b,g⟩,rfl,⟨ha,hf⟩,hb,hg⟩:=h2 (by omega)
  dsimp only at ha hf hb hg
  have E0:([(a,f),(b,g)]:List Sx)[0].1=a:=rfl
  have E1:([(a,f),(b,g)]:List Sx)[1].1=b:=rfl
  refine igo_map (f:=Sx.av) (l:=[(a,f),(b,g)]) 0 rfl Nat.zero_lt_two ?_
  refine igo_map (f:=Sx.av) (l:=[(a,f),(b,g)]) 0 rfl Nat.zero_lt_two ?_
  refine igo_map (f:=Sx.av) (l:=[(a,f),(b,g)]) 1 rfl Nat.one_lt_two ?_
  refine bgo_true (by rw[Bool.and_eq_true,Bool.and_eq_true];exact⟨len_beq hf,rfl,rfl⟩) ?_
  exact⟨by kernel_rfl,app_fin hf (fun h=>⟨.p6 (by omega) (by rw[show a=b from beq_iff_eq.1 h];rfl),fun _ _=>ha⟩) rfl rfl rfl⟩
 refine bgs (fun hop=>?_) (fun hb32=>?_)
 ·refine bgo_true hop ?_
  replace hop:=beq_iff_eq.1 hop
  obtain⟨⟨a,f⟩,⟨b,g⟩,rfl,⟨ha,hf⟩,hb,hg⟩:=h2 (by omega)
  dsimp only at ha hf hb hg
  have E0:([(a,f),(b,g)]:List Sx)[0].1=a:=rfl
  have E1:([(a,f),(b,g)]:List Sx)[1].1=b:=rfl
  refine igo_map (f:=Sx.av) (l:=[(a,f),(b,g)]) 0 rfl Nat.zero_lt_two ?_
  refine igo_map (f:=Sx.av) (l:=[(a,f),(b,g)]) 1 rfl Nat.one_lt_two ?_
  refine⟨by kernel_rfl,?_⟩
  exact app_fin3 (fun h=>.p32 (by omega) ⟨b,by rw[show a=b from beq_iff_eq.1 h];rfl⟩) (by omega) rfl rfl rfl
 refine bgs (fun hop=>?_) (fun hb33=>?_)
 ·skip
  replace hop:=beq_iff_eq.1 hop
  obtain⟨⟨a,f⟩,⟨b,g⟩,rfl,⟨ha,hf⟩,hb,hg⟩:=h2 (by omega)
  dsimp only at ha hf hb hg
  have E0:([(a,f),(b,g)]:List Sx)[0].1=a:=rfl
  have E1:([(a,f),(b,g)]:List Sx)[1].1=b:=rfl
  refine igo_map (f:=Sx.av) (l:=[(a,f),(b,g)]) 0 rfl Nat.zero_lt_two ?_
  refine igo_map (f:=Sx.av) (l:=[(a,f),(b,g)]) 1 rfl Nat.one_lt_two ?_
  refine⟨by kernel_rfl,?_⟩
  exact app_fin3 (fun h=>.p32 (by omega) ⟨b,by rw[show a=b from beq_iff_eq.1 h];rfl⟩) (by omega) rfl rfl rfl
 refine bgs (fun hop=>?_) (fun hb9=>?_)
 ·skip
  replace hop:=beq_iff_eq.1 hop
  obtain⟨⟨a,f⟩,⟨b,g⟩,rfl,⟨ha,hf⟩,hb,hg⟩:=h2 (by omega)
  dsimp only at ha hf hb hg
  have E0:([(a,f),(b,g)]:List Sx)[0].1=a:=rfl
  have E1:([(a,f),(b,g)]:List Sx)[1].1=b:=rfl
  refine igo_map (f:=Sx.av) (l:=[(a,f),(b,g)]) 0 rfl Nat.zero_lt_two ?_
  refine igo_map (f:=Sx.av) (l:=[(a,f),(b,g)]) 1 rfl Nat.one_lt_two ?_
  refine ngo_in (by omega) (by omega) (ngo_in (by omega) (by omega) ?_)
  refine⟨by kernel_rfl,?_⟩
  obtain⟨r,hr,hu⟩:=join04 a b ⟨by omega,by omega⟩ ⟨by omega,by omega⟩ f g hf hg
  refine igo_map (f:=Sx.av) (l:=[(a,f),(b,g)]) 0 rfl Nat.zero_lt_two ?_
  refine igo_map (f:=Sx.av) (l:=[(a,f),(b,g)]) 1 rfl Nat.one_lt_two ?_
  refine .pure [setav a f,setav b g] _ rfl hu ?_
  refine bgs (fun hge=>?_) (fun hge=>?_)
  ·replace hge:=odt hge
   refine bgo_true (by rw[Bool.and_eq_true,Bool.and_eq_true];exact⟨len_beq hr,rfl,rfl⟩) ?_
   exact⟨by kernel_rfl,app_fin hr (fun h=>(by have:=odt h;exact⟨.p9 hop ⟨a,b,rfl,rfl,by omega,by omega⟩,fun _ _=>by omega⟩)) rfl rfl rfl⟩
  ·skip
   refine bgo_true (by rw[Bool.and_eq_true,Bool.and_eq_true];exact⟨len_beq hr,rfl,rfl⟩) ?_
   exact⟨by kernel_rfl,app_fin hr (fun h=>by cases h) rfl rfl rfl⟩
 refine bgs (fun hop=>?_) (fun hb10=>?_)
 ·skip
  replace hop:=beq_iff_eq.1 hop
  obtain⟨⟨a,f⟩,⟨b,g⟩,rfl,⟨ha,hf⟩,hb,hg⟩:=h2 (by omega)
  dsimp only at ha hf hb hg
  have E0:([(a,f),(b,g)]:List Sx)[0].1=a:=rfl
  have E1:([(a,f),(b,g)]:List Sx)[1].1=b:=rfl
  obtain⟨r,hr,hu⟩:=product04 a b ⟨by omega,by omega⟩ ⟨by omega,by omega⟩ f g hf hg
  refine igo_map (f:=Sx.av) (l:=[(a,f),(b,g)]) 0 rfl Nat.zero_lt_two ?_
  refine igo_map (f:=Sx.av) (l:=[(a,f),(b,g)]) 1 rfl Nat.one_lt_two ?_
  refine .pure [setav a f,setav b g] _ rfl hu ?_
  refine igo_map (f:=Sx.av) (l:=[(a,f),(b,g)]) 0 rfl Nat.zero_lt_two ?_
  refine igo_map (f:=Sx.av) (l:=[(a,f),(b,g)]) 1 rfl Nat.one_lt_two ?_
  refine ngo_in (by omega) (by omega) ?_
  refine bgo_true (by rw[Bool.and_eq_true,Bool.and_eq_true];exact⟨len_beq hr,rfl,rfl⟩) ?_
  exact⟨by kernel_rfl,app_fin hr (fun h=>(by have:=odt h;exact⟨.p10 hop ⟨a,b,rfl,rfl,by omega⟩,fun _ _=>by omega⟩)) rfl rfl rfl⟩
 refine bgs (fun hop=>?_) (fun hb11=>?_)
 ·skip
  replace hop:=beq_iff_eq.1 hop
  obtain⟨⟨a,f⟩,rfl,ha,hf⟩:=h1 (by omega)
  dsimp only at ha hf
  obtain⟨r,hr,hu⟩:=transpose04 a f hf
  refine igo_map (f:=Sx.av) (l:=[(a,f)]) 0 rfl Nat.zero_lt_one ?_
  refine .pure [setav a f] _ rfl hu ?_
  refine igo_map (f:=Sx.av) (l:=[(a,f)]) 0 rfl Nat.zero_lt_one ?_
  refine bgo_true (by rw[Bool.and_eq_true,Bool.and_eq_true];exact⟨len_beq hr,rfl,rfl⟩) ?_
  exact⟨by kernel_rfl,app_fin hr (fun h=>(by have h:a=2:=beq_iff_eq.1 h;exact⟨.p11 (by omega) ⟨by rw[h];rfl,rfl⟩,fun _ _=>by omega⟩)) rfl rfl rfl⟩
 refine bgs (fun hop=>?_) (fun hb12=>?_)
 ·skip
  replace hop:=beq_iff_eq.1 hop
  obtain⟨⟨a,f⟩,rfl,ha,hf⟩:=h1 (by omega)
  dsimp only at ha hf
  obtain⟨r,hr,hu⟩:=closure04 a ⟨by omega,by omega⟩ f hf
  refine igo_map (f:=Sx.av) (l:=[(a,f)]) 0 rfl Nat.zero_lt_one ?_
  refine .pure [setav a f] _ rfl hu ?_
  refine igo_map (f:=Sx.av) (l:=[(a,f)]) 0 rfl Nat.zero_lt_one ?_
  refine bgo_true (by rw[Bool.and_eq_true,Bool.and_eq_true];exact⟨len_beq hr,rfl,rfl⟩) ?_
  exact⟨by kernel_rfl,app_fin hr (fun h=>(by have h:a=2:=beq_iff_eq.1 h;exact⟨.p11 (by omega) ⟨by rw[h];rfl,h⟩,fun _ _=>by omega⟩)) rfl rfl rfl⟩
 refine bgs (fun hop=>?_) (fun hb13=>?_)
 ·skip
  replace hop:=beq_iff_eq.1 hop
  obtain⟨⟨a,f⟩,rfl,ha,hf⟩:=h1 (by omega)
  dsimp only at ha hf
  obtain⟨r,hr,hu⟩:=closure04 a ⟨by omega,by omega⟩ f hf
  obtain⟨q,hq,hv⟩:=all04 s 2 (.inr rfl) hs
  obtain⟨p,hp,hw⟩:=union04 a 2 r q hr hq
  refine igo_map (f:=Sx.av) (l:=[(a,f)]) 0 rfl Nat.zero_lt_one ?_
  refine .pure [setav a f] _ rfl hu ?_
  refine .pure [s.ex,eI 2] _ rfl hv ?_
  refine .pure [setav a r,setav 2 q] _ rfl hw ?_
  refine igo_map (f:=Sx.av) (l:=[(a,f)]) 0 rfl Nat.zero_lt_one ?_
  refine bgo_true (by rw[Bool.and_eq_true,Bool.and_eq_true];exact⟨len_beq hp,rfl,rfl⟩) ?_
  exact⟨by kernel_rfl,app_fin hp (fun h=>(by have h:a=2:=beq_iff_eq.1 h;exact⟨.p11 (by omega) ⟨by rw[h];rfl,h⟩,fun _ _=>by omega⟩)) rfl rfl rfl⟩
 simp only[beq_eq_false_iff_ne] at *
 exact app_fin3 (fun _=>.p0 (by omega) (by omega)) (by omega) rfl rfl rfl
def timedOp(op:Int):Bool:=decide (op=5∨(48≤op∧op≤51))
theorem timed04(op:Int):AFun Tryz.prog 214 [eI op] (.p (eB (timedOp op))):=by
 refine AFun.of hT Tryz.func214 rfl rfl (by simp) (AD.run hT hmix ?_)
 have e3:∀ x,timedOp op=x→EV.p (eB (timedOp op))=retEV [AV.imm (.bool x)]:=fun x h=>by rw[h];rfl
 repeat' first
  | exact⟨_,_,rfl,rfl,e3 _ (by simp only[decide_eq_true_eq,decide_eq_false_iff_not,beq_iff_eq,beq_eq_false_iff_ne] at *;unfold timedOp;first | (rw[decide_eq_decide];omega) | (rw[decide_eq_true_eq];omega) | (rw[decide_eq_false_iff_not];omega))⟩
  | refine bgs (fun _=>?_) (fun _=>?_)
theorem formula04(n:Nd):AFun Tryz.prog 167 [n.ex] (.p (eB (decide (n.op≥30)))):=by
 refine AFun.of hT Tryz.func167 rfl rfl (by simp) (AD.run hT hmix ?_)
 exact⟨_,_,rfl,rfl,rfl⟩
theorem pred04(s:Spc)(calls:Int)(nm:ByteArray):∃ r:Int,(-1≤r∧r<s.preds.length∧r<max 0 calls)∧AFun Tryz.prog 166 [s.ex,eI calls,eS nm] (.p (eI r)):=by
 suffices hh:∃ y,(∃ r:Int,y=.p (eI r)∧-1≤r∧r<s.preds.length∧r<max 0 calls)∧AFun Tryz.prog 166 [s.ex,eI calls,eS nm] y by
  obtain⟨y,⟨r,rfl,hr⟩,hf⟩:=hh
  exact⟨r,hr,hf⟩
 refine AFunE.intro hT Tryz.func166 rfl rfl (by simp) ⟨_,-1,rfl,by omega⟩ (AD.run hT hmix ?_)
 have hl:(s.preds.map Prd.ex).length=s.preds.length:=List.length_map _
 refine AD.loopI (fun i:Nat=>i≤s.preds.length) (fun i=>s.preds.length - i) (fun i=>[(1,.p (eI calls)),(2,.p (eS nm)),(3,.loc 3 0),(7,eint .i64 i)]) (fun _=>[(3,.box 27 (s.cx.map .p))]) 0 (Nat.zero_le _) .of fun i hi=>AD.run hT hmix ?_
 refine bgs (fun hb=>?_) (fun hb=>⟨_,_,rfl,rfl,-1,rfl,by omega⟩)
 replace hb:=odt hb
 intro _
 refine bgs (fun hb2=>?_) (fun hb2=>⟨_,_,rfl,rfl,-1,rfl,by omega⟩)
 replace hb2:=odt hb2
 have hlt:i<s.preds.length:=by omega
 refine igo_map i rfl hlt ?_
 refine bgs (fun hc=>?_) (fun hc=>?_)
 ·exact⟨_,_,rfl,rfl,(i:Int),rfl,by omega⟩
 ·exact ngo_in (by omega) (by omega) ⟨i+1,by omega,by omega,.of⟩
theorem tpred04(s:Spc)(known:List Bool)(calls:Int)(nm:ByteArray):∃ b:Bool,AFun Tryz.prog 215 [s.ex,.slice 1 (known.map eB),eI calls,eS nm] (.p (eB b)):=by
 suffices hh:∃ y,(∃ b:Bool,y=.p (eB b))∧AFun Tryz.prog 215 [s.ex,.slice 1 (known.map eB),eI calls,eS nm] y by
  obtain⟨y,⟨b,rfl⟩,hf⟩:=hh
  exact⟨b,hf⟩
 obtain⟨r,hr,hf⟩:=pred04 s calls nm
 have hl:(known.map eB).length=known.length:=List.length_map _
 refine AFunE.intro hT Tryz.func215 rfl rfl (by simp) ⟨_,true,rfl⟩ (AD.run hT hmix ?_)
 refine .pure _ _ rfl hf ?_
 refine bgs (fun hb=>?_) (fun hb=>⟨_,_,rfl,rfl,_,rfl⟩)
 replace hb:=odt hb
 intro _
 refine bgs (fun hb2=>?_) (fun hb2=>⟨_,_,rfl,rfl,_,rfl⟩)
 replace hb2:=odt hb2
 exact igo_map r.toNat (by omega) (by omega) ⟨_,_,rfl,rfl,_,rfl⟩
theorem temporal04(s:Spc)(known:List Bool)(n:Nd):∃ b:Bool,AFun Tryz.prog 220 [s.ex,.slice 1 (known.map eB),n.ex] (.p (eB b)):=by
 induction n using Nd.ind with
 | h n ih=>
  suffices hh:∃ y,(∃ b:Bool,y=.p (eB b))∧AFun Tryz.prog 220 [s.ex,.slice 1 (known.map eB),n.ex] y by
   obtain⟨y,⟨b,rfl⟩,hf⟩:=hh
   exact⟨b,hf⟩
  have hl:(n.kids.map Nd.av).length=n.kids.length:=List.length_map _
  have hl2:(known.map eB).length=known.length:=List.length_map _
  refine AFunE.intro hT Tryz.func220 rfl rfl (by simp) ⟨_,true,rfl⟩ (AD.run hT hmix ?_)
  have ht:=timed04 n.op
  obtain⟨pb,hp⟩:=tpred04 s known ((known.map eB).length:Int) n.name
  refine .pure _ _ rfl ht ?_
  refine bgs (fun h1=>⟨_,_,rfl,rfl,_,rfl⟩) (fun h1=>?_)
  refine bgs (fun h2=>?_) (fun h2=>?_)
  ·intro _
   refine .pure _ _ rfl hp ?_
   refine bgs (fun h3=>⟨_,_,rfl,rfl,_,rfl⟩) (fun h3=>?_)
   refine AD.loopI (fun i:Nat=>i≤n.kids.length) (fun i=>n.kids.length - i) (fun i=>[(1,.p (.slice 1 (known.map eB))),(3,.loc 3 0),(5,.loc 5 0),(7,eint .i64 i)]) (fun _=>[(3,.box 27 (s.cx.map .p)),(5,.box 35 ([eI n.op,eS n.name,eI n.n,.slice 5 (n.kids.map Nd.av),eI n.at_].map .p))]) 0 (Nat.zero_le _) .of fun i hi=>AD.run hT hmix ?_
   intro _
   refine bgs (fun hb=>?_) (fun hb=>⟨_,_,rfl,rfl,_,rfl⟩)
   replace hb:=odt hb
   have hlt:i<n.kids.length:=by omega
   obtain⟨b,hf⟩:=ih _ (List.getElem_mem hlt)
   rw[← Nd.av_ex] at hf
   refine igo_map i rfl hlt (.pure _ _ rfl hf ⟨by kernel_rfl,?_⟩)
   exact bgs (fun hc=>⟨_,_,rfl,rfl,_,rfl⟩) (fun hc=>ngo_in (by omega) (by omega) ⟨i+1,by omega,by omega,.of⟩)
  ·skip
   refine AD.loopI (fun i:Nat=>i≤n.kids.length) (fun i=>n.kids.length - i) (fun i=>[(1,.p (.slice 1 (known.map eB))),(3,.loc 3 0),(5,.loc 5 0),(7,eint .i64 i)]) (fun _=>[(3,.box 27 (s.cx.map .p)),(5,.box 35 ([eI n.op,eS n.name,eI n.n,.slice 5 (n.kids.map Nd.av),eI n.at_].map .p))]) 0 (Nat.zero_le _) .of fun i hi=>AD.run hT hmix ?_
   intro _
   refine bgs (fun hb=>?_) (fun hb=>⟨_,_,rfl,rfl,_,rfl⟩)
   replace hb:=odt hb
   have hlt:i<n.kids.length:=by omega
   obtain⟨b,hf⟩:=ih _ (List.getElem_mem hlt)
   rw[← Nd.av_ex] at hf
   refine igo_map i rfl hlt (.pure _ _ rfl hf ⟨by kernel_rfl,?_⟩)
   exact bgs (fun hc=>⟨_,_,rfl,rfl,_,rfl⟩) (fun hc=>ngo_in (by omega) (by omega) ⟨i+1,by omega,by omega,.of⟩)
theorem temporals04(s:Spc)(hs:s.preds.length≤1000):∃ l:List Bool,l.length=s.preds.length∧AFun Tryz.prog 169 [s.ex] (.p (.slice 1 (l.map eB))):=by
 suffices hh:∃ y,(∃ l:List Bool,y=.p (.slice 1 (l.map eB))∧l.length=s.preds.length)∧AFun Tryz.prog 169 [s.ex] y by
  obtain⟨y,⟨r,rfl,hr⟩,hf⟩:=hh
  exact⟨r,hr,hf⟩
 refine AFunE.intro hT Tryz.func169 rfl rfl (by simp) ⟨_,List.replicate s.preds.length true,rfl,by simp⟩ (AD.run hT hmix ?_)
 have hl:(s.preds.map Prd.ex).length=s.preds.length:=List.length_map _
 refine AD.loopI (fun x:Nat×List Bool=>x.1≤s.preds.length∧x.2.length=x.1) (fun x=>s.preds.length - x.1) (fun x=>[(1,.loc 1 0),(3,.own 1 (x.2.map eB) 23),(4,eint .i64 x.1)]) (fun x=>[(1,.box 27 (s.cx.map .p)),(23,.tail x.2.length)]) (0,[]) ⟨Nat.zero_le _,rfl⟩ .of fun ⟨i,l⟩ ⟨hi,hl1⟩=>AD.run hT hmix ?_
 dsimp only at hi hl1 ⊢
 have hl2:(l.map eB).length=l.length:=List.length_map _
 intro _
 refine bgs (fun hb=>?_) (fun hb=>?_)
 ·replace hb:=odt hb
  have hlt:i<s.preds.length:=by omega
  obtain⟨b,hf⟩:=temporal04 s l s.preds[i].body
  have e:(l++[b]).map eB=l.map eB++[eB b]:=by simp
  refine igo_map i rfl hlt (.pure _ _ rfl hf ⟨hl2.symm,⟨by simp;omega,by simp;omega⟩,by kernel_rfl,ngo_in (by omega) (by omega) ⟨(i+1,l++[b]),⟨by dsimp only;omega,by simp;omega⟩,by dsimp only;omega,?_⟩⟩)
  dsimp only
  rw[e,show(l++[b]).length=(l.map eB++[eB b]).length by simp]
  exact .of
 ·replace hb:=of_decide_eq_false hb
  exact⟨_,_,rfl,rfl,l,rfl,by omega⟩
abbrev sEq(a b:ByteArray):Bool:=a.toList==b.toList
abbrev sFirst:ByteArray:=⟨#[95,102,105,114,115,116]⟩
abbrev sNext:ByteArray:=⟨#[95,110,101,120,116]⟩
def fArs(nm:ByteArray)(f:Fld):List Int:=if sEq f.name nm then [(f.sorts.length:Int)] else []
def sArs(nm:ByteArray)(s:Srt):List Int:=(if sEq s.name nm then [1] else [])++((if s.ordered&&sEq (s.name++sFirst) nm then [1] else [])++(if s.ordered&&sEq (s.name++sNext) nm then [2] else []))
def Spc.found(s:Spc)(nm:ByteArray):List Int:=s.fields.flatMap (fArs nm)++s.sorts.flatMap (sArs nm)
theorem fm_take{α β:Type}(g:α→List β)(l:List α){i:Nat}(h:i<l.length):(l.take (i+1)).flatMap g=(l.take i).flatMap g++g l[i]:=by
 rw[List.take_succ_eq_append_getElem h,List.flatMap_append];simp
def NamR(L:List Int)(y:EV):Prop:=∃ a f k,y=.tup [.p (setav a f),.p (eI k)]∧f.length=64∧(k≠0→1≤a∧a≤3)∧k=L.length∧∀ b,L.getLast?=some b→a=b
theorem nam_fin{env:Env}{h:AHp}{A:Int}{f:List Bool}{k:Int}{L:List Int}(hf:f.length=64)(hA:k≠0→1≤A∧A≤3)(hk:k=L.length)(hl:∀ b,L.getLast?=some b→A=b)(h2:lk env 4=.loc 4 0)(h3:hp h 4=.box 240 (setSeg (zeroOf 240) 0 ((setcs A f).map .p)))(hx:lk env 5=.p (.imm (.int .i64 k))):∃ es xs,resAll T env h [.cell 4 240,.tmp 5]=some es∧toPs es=some xs∧NamR L (retEV xs):=by
 have e:setSeg (zeroOf 240) 0 ((setcs A f).map EV.p)=(setcs A f).map .p:=setSeg_all _ _ (by rw[setcs_len,hf];rfl)
 rw[e] at h3
 exact⟨_,_,res_cell_tmp rfl h2 h3 rfl (by rw[setcs_len,hf]) hx,toPs_one _ _,A,f,k,rfl,hf,hA,hk,hl⟩
theorem zero_zero:setSeg (zeroOf 240) 0 (zeroOf 240)=(setcs 0 (List.replicate 64 false)).map .p:=by
 rw[setSeg_all _ _ rfl]
 have e:zeroOf 240=.p (eI 0)::List.replicate 64 (.p (eB false)):=rfl
 rw[e];simp[setcs,List.map_replicate]
theorem str_add{a b:ByteArray}(h:a.size≤1048576)(hb:b.size≤100):((a.size+b.size:Nat):Int)≤9223372036854775807:=by omega
theorem flat_len{α:Type}(g:α→List Int)(h:∀ x,(g x).length≤1)(l:List α)(i:Nat):((l.take i).flatMap g).length≤i:=by
 induction l generalizing i with
 | nil=>simp
 | cons x r ih=>cases i with
  | zero=>simp
  | succ i=>have:=ih i;have:=h x;simp only[List.take_succ_cons,List.flatMap_cons,List.length_append];omega
theorem flat_len3{α:Type}(g:α→List Int)(h:∀ x,(g x).length≤3)(l:List α)(i:Nat):((l.take i).flatMap g).length≤3*i:=by
 induction l generalizing i with
 | nil=>simp
 | cons x r ih=>cases i with
  | zero=>simp
  | succ i=>have:=ih i;have:=h x;simp only[List.take_succ_cons,List.flatMap_cons,List.length_append];omega
theorem fArs_len(nm:ByteArray)(f:Fld):(fArs nm f).length≤1:=by unfold fArs;split <;> simp
theorem sArs_len(nm:ByteArray)(s:Srt):(sArs nm s).length≤3:=by unfold sArs;split <;> split <;> split <;> simp
theorem found_ok(s:Spc)(hso:∀ f∈s.fields,SortsOk s.sorts.length f.sorts)(nm:ByteArray):∀ b∈s.found nm,1≤b∧b≤3:=by
 intro b hb
 rcases List.mem_append.1 hb with hb | hb
 ·obtain⟨f,hf,hb⟩:=List.mem_flatMap.1 hb
  unfold fArs at hb
  split at hb
  ·obtain rfl:=List.mem_singleton.1 hb
   have:=(hso f hf).1
   omega
  ·cases hb
 ·obtain⟨f,hf,hb⟩:=List.mem_flatMap.1 hb
  unfold sArs at hb
  rcases List.mem_append.1 hb with hb | hb
  ·split at hb
   ·obtain rfl:=List.mem_singleton.1 hb;omega
   ·cases hb
  ·rcases List.mem_append.1 hb with hb | hb
   ·split at hb
    ·obtain rfl:=List.mem_singleton.1 hb;omega
    ·cases hb
   ·split at hb
    ·obtain rfl:=List.mem_singleton.1 hb;omega
    ·cases hb
theorem getLast_ok{L:List Int}(h:∀ b∈L,1≤b∧b≤3):1≤L.getLast?.getD 1∧L.getLast?.getD 1≤3:=by
 cases hq:L.getLast? with
 | none=>exact⟨by decide,by decide⟩
 | some b=>exact h b (List.mem_of_getLast? hq)
set_option maxHeartbeats 1000000 in
theorem named04(s:Spc)(hs:s.sorts.length≤4)(hfl:s.fields.length≤1000)(hso:∀ f∈s.fields,SortsOk s.sorts.length f.sorts)(hnm:∀ x∈s.sorts,x.name.size≤1048576)(nm:ByteArray):∃ y,NamR (s.found nm) y∧AFun Tryz.prog 224 [s.ex,eS nm] y:=by
 have hfo:=found_ok s hso nm
 refine AFunE.intro hT Tryz.func224 rfl rfl (by simp) ⟨_,((s.found nm).getLast?).getD 1,List.replicate 64 false,_,rfl,List.length_replicate,fun _=>getLast_ok hfo,rfl,fun b hb=>by rw[hb];rfl⟩ (AD.run hT hmix ?_)
 have hl1:(s.sorts.map Srt.av).length=s.sorts.length:=List.length_map _
 have hl2:(s.fields.map Fld.av).length=s.fields.length:=List.length_map _
 refine AD.loopI (fun x:Nat×Sx×Nat=>x.1≤s.fields.length∧x.2.2=((s.fields.take x.1).flatMap (fArs nm)).length∧x.2.1.2.length=64∧(x.2.2≠0→1≤x.2.1.1∧x.2.1.1≤3)∧∀ b,((s.fields.take x.1).flatMap (fArs nm)).getLast?=some b→x.2.1.1=b) (fun x=>s.fields.length - x.1) (fun x=>[(1,.p (eS nm)),(2,.loc 2 0),(4,.loc 4 0),(5,eint .i64 0),(6,.loc 6 0),(7,eint .i64 x.2.2),(8,eint .i64 x.1)]) (fun x=>[(2,.box 27 (s.cx.map .p)),(4,.box 240 (zeroOf 240)),(6,.box 240 ((setcs x.2.1.1 x.2.1.2).map .p))]) (0,(0,List.replicate 64 false),0) ⟨Nat.zero_le _,rfl,List.length_replicate,fun h=>absurd rfl h,by simp⟩ (.of (h2:=⟨⟨rfl,.inr ⟨rfl,okL_p _ _⟩⟩,⟨⟨rfl,.inr ⟨rfl,rfl⟩⟩,⟨⟨rfl,.inr ⟨zero_zero,okL_p _ _⟩⟩,trivial⟩⟩⟩)) fun ⟨i,⟨a,r⟩,k⟩ ⟨hi,hk,hr,ha,hla⟩=>AD.run hT hmix ?_
 dsimp only at hi hk hr ha hla ⊢
 have hkb:k≤i:=by rw[hk];exact flat_len _ (fArs_len nm) _ i
 intro _
 refine bgs (fun hb=>?_) (fun hb=>?_)
 ·replace hb:=odt hb
  have hlt:i<s.fields.length:=by omega
  refine igo_map i rfl hlt ?_
  have hq:=hso _ (List.getElem_mem hlt)
  refine bgs (fun hc=>?_) (fun hc=>?_)
  ·have e:fArs nm s.fields[i]=[(s.fields[i].sorts.length:Int)]:=if_pos hc
   obtain⟨g,hg,ho⟩:=one04 s.fields[i].sorts hq.1.2 (fun x hx=>by have:=hq.2 x hx;omega)
   refine igo_map i rfl hlt (.pure _ _ rfl ho ?_)
   refine bgo_true (by rw[Bool.and_eq_true,Bool.and_eq_true];exact⟨len_beq hg,Nat.ble_eq_true_of_le (by rw[setcs_len];show 0+65≤_;omega),rfl⟩) ?_
   generalize hy:setSeg ((setcs a r).map EV.p) _ _=y
   obtain rfl:y=(setcs (s.fields[i].sorts.length:Int) g).map .p:=hy.symm.trans (setSeg_all ((setcs a r).map EV.p) ((setcs (s.fields[i].sorts.length:Int) g).map EV.p) (by rw[setcs_len,setcs_len,hr,hg]))
   clear hy
   refine ngo_in (by omega) (by omega) (ngo_in (by omega) (by omega) ?_)
   exact⟨(i+1,((s.fields[i].sorts.length:Int),g),k+1),⟨by dsimp only;omega,(by dsimp only;rw[fm_take _ _ hlt,e,List.length_append,← hk];rfl),hg,fun _=>(by have:=hq.1;dsimp only;omega),(by dsimp only;intro b hb;rw[fm_take _ _ hlt,e] at hb;simp at hb;omega)⟩,by dsimp only;omega,.of (h2:=⟨⟨rfl,.inr ⟨rfl,okL_p _ _⟩⟩,⟨⟨rfl,.inr ⟨rfl,rfl⟩⟩,⟨⟨rfl,.inr ⟨rfl,okL_p _ _⟩⟩,trivial⟩⟩⟩)⟩
  ·have e:fArs nm s.fields[i]=[]:=if_neg (Bool.eq_false_iff.1 hc)
   exact ngo_in (by omega) (by omega) ⟨(i+1,(a,r),k),⟨by dsimp only;omega,(by dsimp only;rw[fm_take _ _ hlt,e,List.append_nil];exact hk),hr,ha,(by dsimp only;rw[fm_take _ _ hlt,e,List.append_nil];exact hla)⟩,by dsimp only;omega,.of (h2:=⟨⟨rfl,.inr ⟨rfl,okL_p _ _⟩⟩,⟨⟨rfl,.inr ⟨rfl,rfl⟩⟩,⟨⟨rfl,.inr ⟨rfl,okL_p _ _⟩⟩,trivial⟩⟩⟩)⟩
 ·replace hb:=of_decide_eq_false hb
  obtain rfl:i=s.fields.length:=by omega
  rw[List.take_length] at hk hla
  refine AD.loopI (fun x:Nat×Sx×Nat=>x.1≤s.sorts.length∧x.2.2=(s.fields.flatMap (fArs nm)++(s.sorts.take x.1).flatMap (sArs nm)).length∧x.2.1.2.length=64∧(x.2.2≠0→1≤x.2.1.1∧x.2.1.1≤3)∧∀ b,(s.fields.flatMap (fArs nm)++(s.sorts.take x.1).flatMap (sArs nm)).getLast?=some b→x.2.1.1=b) (fun x=>s.sorts.length - x.1) (fun x=>[(1,.p (eS nm)),(2,.loc 2 0),(4,.loc 4 0),(5,eint .i64 0),(6,.loc 6 0),(7,eint .i64 x.2.2),(9,eint .i64 x.1)]) (fun x=>[(2,.box 27 (s.cx.map .p)),(4,.box 240 (zeroOf 240)),(6,.box 240 ((setcs x.2.1.1 x.2.1.2).map .p))]) (0,(a,r),k) ⟨Nat.zero_le _,(by simpa using hk),hr,ha,(by simpa using hla)⟩ (.of (h2:=⟨⟨rfl,.inr ⟨rfl,okL_p _ _⟩⟩,⟨⟨rfl,.inr ⟨rfl,rfl⟩⟩,⟨⟨rfl,.inr ⟨rfl,okL_p _ _⟩⟩,trivial⟩⟩⟩)) fun ⟨j,⟨a,r⟩,k⟩ ⟨hj,hk,hr,ha,hla⟩=>AD.run hT hmix ?_
  dsimp only at hj hk hr ha hla ⊢
  have hkb:k≤s.fields.length+3*j:=by rw[hk,List.length_append];have h1:=flat_len _ (fArs_len nm) s.fields s.fields.length;rw[List.take_length] at h1;have h2:=flat_len3 _ (sArs_len nm) s.sorts j;omega
  intro _
  refine bgs (fun hb=>?_) (fun hb=>?_)
  ·replace hb:=odt hb
   have hlt:j<s.sorts.length:=by omega
   have hz:=hnm _ (List.getElem_mem hlt)
   refine igo_map j rfl hlt ?_
   refine bgs (fun h0=>?_) (fun h0=>?_)
   ·skip
    obtain⟨g0,hg0,hog0⟩:=one04 [(j:Int)] (by simp) (by simp;omega)
    refine .pure [ints [(j:Int)]] _ rfl hog0 ?_
    refine bgo_true (by rw[Bool.and_eq_true,Bool.and_eq_true];exact⟨len_beq hg0,Nat.ble_eq_true_of_le (by rw[setcs_len];show 0+65≤_;omega),rfl⟩) ?_
    generalize hy:setSeg ((setcs a r).map EV.p) _ _=y
    obtain rfl:y=(setcs (([(j:Int)]:List Int).length:Int) g0).map .p:=hy.symm.trans (setSeg_all ((setcs a r).map EV.p) ((setcs (([(j:Int)]:List Int).length:Int) g0).map EV.p) (by rw[setcs_len,setcs_len,hr,hg0]))
    clear hy
    refine ngo_in (by omega) (by omega) ?_
    refine igo_map j rfl hlt ?_
    refine bgs (fun o1=>?_) (fun o1=>?_)
    ·refine igo_map j rfl hlt ?_
     refine⟨str_add hz (by decide),?_⟩
     refine bgs (fun h1=>?_) (fun h1=>?_)
     ·skip
      obtain⟨g1,hg1,hog1⟩:=one04 [(j:Int)] (by simp) (by simp;omega)
      refine .pure [ints [(j:Int)]] _ rfl hog1 ?_
      refine bgo_true (by rw[Bool.and_eq_true,Bool.and_eq_true];exact⟨len_beq hg1,Nat.ble_eq_true_of_le (by rw[setcs_len];show 0+65≤_;omega),rfl⟩) ?_
      generalize hy:setSeg ((setcs (([(j:Int)]:List Int).length:Int) g0).map EV.p) _ _=y
      obtain rfl:y=(setcs (([(j:Int)]:List Int).length:Int) g1).map .p:=hy.symm.trans (setSeg_all ((setcs (([(j:Int)]:List Int).length:Int) g0).map EV.p) ((setcs (([(j:Int)]:List Int).length:Int) g1).map EV.p) (by rw[setcs_len,setcs_len,hg0,hg1]))
      clear hy
      refine ngo_in (by omega) (by omega) ?_
      refine igo_map j rfl hlt (bgo_true o1 (igo_map j rfl hlt ?_))
      refine⟨str_add hz (by decide),?_⟩
      refine bgs (fun h2=>?_) (fun h2=>?_)
      ·skip
       obtain⟨g2,hg2,hog2⟩:=one04 [(j:Int),(j:Int)] (by simp) (by simp;omega)
       refine .pure [ints [(j:Int),(j:Int)]] _ rfl hog2 ?_
       refine bgo_true (by rw[Bool.and_eq_true,Bool.and_eq_true];exact⟨len_beq hg2,Nat.ble_eq_true_of_le (by rw[setcs_len];show 0+65≤_;omega),rfl⟩) ?_
       generalize hy:setSeg ((setcs (([(j:Int)]:List Int).length:Int) g1).map EV.p) _ _=y
       obtain rfl:y=(setcs (([(j:Int),(j:Int)]:List Int).length:Int) g2).map .p:=hy.symm.trans (setSeg_all ((setcs (([(j:Int)]:List Int).length:Int) g1).map EV.p) ((setcs (([(j:Int),(j:Int)]:List Int).length:Int) g2).map EV.p) (by rw[setcs_len,setcs_len,hg1,hg2]))
       clear hy
       refine ngo_in (by omega) (by omega) ?_
       have e:sArs nm s.sorts[j]=[1,1,2]:=by simp[sArs,h0,o1,h1,h2]
       refine ngo_in (by omega) (by omega) ?_
       exact⟨(j+1,((([(j:Int),(j:Int)]:List Int).length:Int),g2),(((k+1)+1)+1)),⟨by dsimp only;omega,(by dsimp only;rw[fm_take _ _ hlt,e,List.length_append,List.length_append];rw[List.length_append] at hk;simp only[List.length_cons,List.length_nil];omega),hg2,fun _=>(by simp),(by dsimp only;intro b hb;rw[fm_take _ _ hlt,e] at hb;simp at hb ⊢ <;> omega)⟩,by dsimp only;omega,.of (h2:=⟨⟨rfl,.inr ⟨rfl,okL_p _ _⟩⟩,⟨⟨rfl,.inr ⟨rfl,rfl⟩⟩,⟨⟨rfl,.inr ⟨rfl,okL_p _ _⟩⟩,trivial⟩⟩⟩)⟩
      ·skip
       have e:sArs nm s.sorts[j]=[1,1]:=by simp[sArs,h0,o1,h1,h2]
       refine ngo_in (by omega) (by omega) ?_
       exact⟨(j+1,((([(j:Int)]:List Int).length:Int),g1),((k+1)+1)),⟨by dsimp only;omega,(by dsimp only;rw[fm_take _ _ hlt,e,List.length_append,List.length_append];rw[List.length_append] at hk;simp only[List.length_cons,List.length_nil];omega),hg1,fun _=>(by simp),(by dsimp only;intro b hb;rw[fm_take _ _ hlt,e] at hb;simp at hb ⊢ <;> omega)⟩,by dsimp only;omega,.of (h2:=⟨⟨rfl,.inr ⟨rfl,okL_p _ _⟩⟩,⟨⟨rfl,.inr ⟨rfl,rfl⟩⟩,⟨⟨rfl,.inr ⟨rfl,okL_p _ _⟩⟩,trivial⟩⟩⟩)⟩
     ·skip
      refine igo_map j rfl hlt (bgo_true o1 (igo_map j rfl hlt ?_))
      refine⟨str_add hz (by decide),?_⟩
      refine bgs (fun h2=>?_) (fun h2=>?_)
      ·skip
       obtain⟨g2,hg2,hog2⟩:=one04 [(j:Int),(j:Int)] (by simp) (by simp;omega)
       refine .pure [ints [(j:Int),(j:Int)]] _ rfl hog2 ?_
       refine bgo_true (by rw[Bool.and_eq_true,Bool.and_eq_true];exact⟨len_beq hg2,Nat.ble_eq_true_of_le (by rw[setcs_len];show 0+65≤_;omega),rfl⟩) ?_
       generalize hy:setSeg ((setcs (([(j:Int)]:List Int).length:Int) g0).map EV.p) _ _=y
       obtain rfl:y=(setcs (([(j:Int),(j:Int)]:List Int).length:Int) g2).map .p:=hy.symm.trans (setSeg_all ((setcs (([(j:Int)]:List Int).length:Int) g0).map EV.p) ((setcs (([(j:Int),(j:Int)]:List Int).length:Int) g2).map EV.p) (by rw[setcs_len,setcs_len,hg0,hg2]))
       clear hy
       refine ngo_in (by omega) (by omega) ?_
       have e:sArs nm s.sorts[j]=[1,2]:=by simp[sArs,h0,o1,h1,h2]
       refine ngo_in (by omega) (by omega) ?_
       exact⟨(j+1,((([(j:Int),(j:Int)]:List Int).length:Int),g2),((k+1)+1)),⟨by dsimp only;omega,(by dsimp only;rw[fm_take _ _ hlt,e,List.length_append,List.length_append];rw[List.length_append] at hk;simp only[List.length_cons,List.length_nil];omega),hg2,fun _=>(by simp),(by dsimp only;intro b hb;rw[fm_take _ _ hlt,e] at hb;simp at hb ⊢ <;> omega)⟩,by dsimp only;omega,.of (h2:=⟨⟨rfl,.inr ⟨rfl,okL_p _ _⟩⟩,⟨⟨rfl,.inr ⟨rfl,rfl⟩⟩,⟨⟨rfl,.inr ⟨rfl,okL_p _ _⟩⟩,trivial⟩⟩⟩)⟩
      ·skip
       have e:sArs nm s.sorts[j]=[1]:=by simp[sArs,h0,o1,h1,h2]
       refine ngo_in (by omega) (by omega) ?_
       exact⟨(j+1,((([(j:Int)]:List Int).length:Int),g0),(k+1)),⟨by dsimp only;omega,(by dsimp only;rw[fm_take _ _ hlt,e,List.length_append,List.length_append];rw[List.length_append] at hk;simp only[List.length_cons,List.length_nil];omega),hg0,fun _=>(by simp),(by dsimp only;intro b hb;rw[fm_take _ _ hlt,e] at hb;simp at hb ⊢ <;> omega)⟩,by dsimp only;omega,.of (h2:=⟨⟨rfl,.inr ⟨rfl,okL_p _ _⟩⟩,⟨⟨rfl,.inr ⟨rfl,rfl⟩⟩,⟨⟨rfl,.inr ⟨rfl,okL_p _ _⟩⟩,trivial⟩⟩⟩)⟩
    ·refine igo_map j rfl hlt (bgo_false o1 ?_)
     have e:sArs nm s.sorts[j]=[1]:=by simp[sArs,h0,o1]
     refine ngo_in (by omega) (by omega) ?_
     exact⟨(j+1,((([(j:Int)]:List Int).length:Int),g0),(k+1)),⟨by dsimp only;omega,(by dsimp only;rw[fm_take _ _ hlt,e,List.length_append,List.length_append];rw[List.length_append] at hk;simp only[List.length_cons,List.length_nil];omega),hg0,fun _=>(by simp),(by dsimp only;intro b hb;rw[fm_take _ _ hlt,e] at hb;simp at hb ⊢ <;> omega)⟩,by dsimp only;omega,.of (h2:=⟨⟨rfl,.inr ⟨rfl,okL_p _ _⟩⟩,⟨⟨rfl,.inr ⟨rfl,rfl⟩⟩,⟨⟨rfl,.inr ⟨rfl,okL_p _ _⟩⟩,trivial⟩⟩⟩)⟩
   ·skip
    refine igo_map j rfl hlt ?_
    refine bgs (fun o1=>?_) (fun o1=>?_)
    ·refine igo_map j rfl hlt ?_
     refine⟨str_add hz (by decide),?_⟩
     refine bgs (fun h1=>?_) (fun h1=>?_)
     ·skip
      obtain⟨g1,hg1,hog1⟩:=one04 [(j:Int)] (by simp) (by simp;omega)
      refine .pure [ints [(j:Int)]] _ rfl hog1 ?_
      refine bgo_true (by rw[Bool.and_eq_true,Bool.and_eq_true];exact⟨len_beq hg1,Nat.ble_eq_true_of_le (by rw[setcs_len];show 0+65≤_;omega),rfl⟩) ?_
      generalize hy:setSeg ((setcs a r).map EV.p) _ _=y
      obtain rfl:y=(setcs (([(j:Int)]:List Int).length:Int) g1).map .p:=hy.symm.trans (setSeg_all ((setcs a r).map EV.p) ((setcs (([(j:Int)]:List Int).length:Int) g1).map EV.p) (by rw[setcs_len,setcs_len,hr,hg1]))
      clear hy
      refine ngo_in (by omega) (by omega) ?_
      refine igo_map j rfl hlt (bgo_true o1 (igo_map j rfl hlt ?_))
      refine⟨str_add hz (by decide),?_⟩
      refine bgs (fun h2=>?_) (fun h2=>?_)
      ·skip
       obtain⟨g2,hg2,hog2⟩:=one04 [(j:Int),(j:Int)] (by simp) (by simp;omega)
       refine .pure [ints [(j:Int),(j:Int)]] _ rfl hog2 ?_
       refine bgo_true (by rw[Bool.and_eq_true,Bool.and_eq_true];exact⟨len_beq hg2,Nat.ble_eq_true_of_le (by rw[setcs_len];show 0+65≤_;omega),rfl⟩) ?_
       generalize hy:setSeg ((setcs (([(j:Int)]:List Int).length:Int) g1).map EV.p) _ _=y
       obtain rfl:y=(setcs (([(j:Int),(j:Int)]:List Int).length:Int) g2).map .p:=hy.symm.trans (setSeg_all ((setcs (([(j:Int)]:List Int).length:Int) g1).map EV.p) ((setcs (([(j:Int),(j:Int)]:List Int).length:Int) g2).map EV.p) (by rw[setcs_len,setcs_len,hg1,hg2]))
       clear hy
       refine ngo_in (by omega) (by omega) ?_
       have e:sArs nm s.sorts[j]=[1,2]:=by simp[sArs,h0,o1,h1,h2]
       refine ngo_in (by omega) (by omega) ?_
       exact⟨(j+1,((([(j:Int),(j:Int)]:List Int).length:Int),g2),((k+1)+1)),⟨by dsimp only;omega,(by dsimp only;rw[fm_take _ _ hlt,e,List.length_append,List.length_append];rw[List.length_append] at hk;simp only[List.length_cons,List.length_nil];omega),hg2,fun _=>(by simp),(by dsimp only;intro b hb;rw[fm_take _ _ hlt,e] at hb;simp at hb ⊢ <;> omega)⟩,by dsimp only;omega,.of (h2:=⟨⟨rfl,.inr ⟨rfl,okL_p _ _⟩⟩,⟨⟨rfl,.inr ⟨rfl,rfl⟩⟩,⟨⟨rfl,.inr ⟨rfl,okL_p _ _⟩⟩,trivial⟩⟩⟩)⟩
      ·skip
       have e:sArs nm s.sorts[j]=[1]:=by simp[sArs,h0,o1,h1,h2]
       refine ngo_in (by omega) (by omega) ?_
       exact⟨(j+1,((([(j:Int)]:List Int).length:Int),g1),(k+1)),⟨by dsimp only;omega,(by dsimp only;rw[fm_take _ _ hlt,e,List.length_append,List.length_append];rw[List.length_append] at hk;simp only[List.length_cons,List.length_nil];omega),hg1,fun _=>(by simp),(by dsimp only;intro b hb;rw[fm_take _ _ hlt,e] at hb;simp at hb ⊢ <;> omega)⟩,by dsimp only;omega,.of (h2:=⟨⟨rfl,.inr ⟨rfl,okL_p _ _⟩⟩,⟨⟨rfl,.inr ⟨rfl,rfl⟩⟩,⟨⟨rfl,.inr ⟨rfl,okL_p _ _⟩⟩,trivial⟩⟩⟩)⟩
     ·skip
      refine igo_map j rfl hlt (bgo_true o1 (igo_map j rfl hlt ?_))
      refine⟨str_add hz (by decide),?_⟩
      refine bgs (fun h2=>?_) (fun h2=>?_)
      ·skip
       obtain⟨g2,hg2,hog2⟩:=one04 [(j:Int),(j:Int)] (by simp) (by simp;omega)
       refine .pure [ints [(j:Int),(j:Int)]] _ rfl hog2 ?_
       refine bgo_true (by rw[Bool.and_eq_true,Bool.and_eq_true];exact⟨len_beq hg2,Nat.ble_eq_true_of_le (by rw[setcs_len];show 0+65≤_;omega),rfl⟩) ?_
       generalize hy:setSeg ((setcs a r).map EV.p) _ _=y
       obtain rfl:y=(setcs (([(j:Int),(j:Int)]:List Int).length:Int) g2).map .p:=hy.symm.trans (setSeg_all ((setcs a r).map EV.p) ((setcs (([(j:Int),(j:Int)]:List Int).length:Int) g2).map EV.p) (by rw[setcs_len,setcs_len,hr,hg2]))
       clear hy
       refine ngo_in (by omega) (by omega) ?_
       have e:sArs nm s.sorts[j]=[2]:=by simp[sArs,h0,o1,h1,h2]
       refine ngo_in (by omega) (by omega) ?_
       exact⟨(j+1,((([(j:Int),(j:Int)]:List Int).length:Int),g2),(k+1)),⟨by dsimp only;omega,(by dsimp only;rw[fm_take _ _ hlt,e,List.length_append,List.length_append];rw[List.length_append] at hk;simp only[List.length_cons,List.length_nil];omega),hg2,fun _=>(by simp),(by dsimp only;intro b hb;rw[fm_take _ _ hlt,e] at hb;simp at hb ⊢ <;> omega)⟩,by dsimp only;omega,.of (h2:=⟨⟨rfl,.inr ⟨rfl,okL_p _ _⟩⟩,⟨⟨rfl,.inr ⟨rfl,rfl⟩⟩,⟨⟨rfl,.inr ⟨rfl,okL_p _ _⟩⟩,trivial⟩⟩⟩)⟩
      ·skip
       have e:sArs nm s.sorts[j]=[]:=by simp[sArs,h0,o1,h1,h2]
       refine ngo_in (by omega) (by omega) ?_
       exact⟨(j+1,(a,r),k),⟨by dsimp only;omega,(by dsimp only;rw[fm_take _ _ hlt,e,List.length_append,List.length_append];rw[List.length_append] at hk;simp only[List.length_cons,List.length_nil];omega),hr,ha,(by dsimp only;rw[fm_take _ _ hlt,e,List.append_nil];exact hla)⟩,by dsimp only;omega,.of (h2:=⟨⟨rfl,.inr ⟨rfl,okL_p _ _⟩⟩,⟨⟨rfl,.inr ⟨rfl,rfl⟩⟩,⟨⟨rfl,.inr ⟨rfl,okL_p _ _⟩⟩,trivial⟩⟩⟩)⟩
    ·refine igo_map j rfl hlt (bgo_false o1 ?_)
     have e:sArs nm s.sorts[j]=[]:=by simp[sArs,h0,o1]
     refine ngo_in (by omega) (by omega) ?_
     exact⟨(j+1,(a,r),k),⟨by dsimp only;omega,(by dsimp only;rw[fm_take _ _ hlt,e,List.length_append,List.length_append];rw[List.length_append] at hk;simp only[List.length_cons,List.length_nil];omega),hr,ha,(by dsimp only;rw[fm_take _ _ hlt,e,List.append_nil];exact hla)⟩,by dsimp only;omega,.of (h2:=⟨⟨rfl,.inr ⟨rfl,okL_p _ _⟩⟩,⟨⟨rfl,.inr ⟨rfl,rfl⟩⟩,⟨⟨rfl,.inr ⟨rfl,okL_p _ _⟩⟩,trivial⟩⟩⟩)⟩
  ·replace hb:=of_decide_eq_false hb
   obtain rfl:j=s.sorts.length:=by omega
   rw[List.take_length] at hk hla
   refine bgo_true (Nat.ble_eq_true_of_le (by rw[setcs_len];show 0+65≤_;omega)) ?_
   generalize hz:List.take _ (List.drop _ ((setcs a r).map EV.p))=z
   obtain rfl:z=(setcs a r).map .p:=hz.symm.trans (take_setcs a r hr)
   clear hz
   refine bgo_true (by rw[Bool.and_eq_true,Bool.and_eq_true];exact⟨by rw[setcs_len,hr];rfl,rfl,rfl⟩) ?_
   exact nam_fin (L:=s.found nm) hr (fun h=>ha (by omega)) (by rw[hk];rfl) hla rfl rfl rfl
abbrev Vr:=ByteArray×Sx
def vty(v:Vr):ByteArray×Int:=(v.1,v.2.1)
def Vr.cs(v:Vr):List AV:=eS v.1::setcs v.2.1 v.2.2
def Vr.av(v:Vr):AV:=.agg v.cs
theorem fill_var(nm:ByteArray)(a:Int)(f:List Bool)(hf:f.length=64):∀ ti,T.get 294=some ti→fillE (placeOf ti) ti.zero [(0,.p (eS nm)),(1,.p (setav a f))]=some ((eS nm::setcs a f).map .p):=by
 intro ti h
 obtain rfl:=Option.some.inj h
 have hl:Nat.beq ((setav a f).cells.map EV.p).length 65=true:=len_beq hf
 have e:setSeg ([EV.p (eS nm)]++zeroOf 240++[]) 1 ((setcs a f).map EV.p)=[EV.p (eS nm)]++(setcs a f).map EV.p++[]:=setSeg_mid ((setcs a f).map EV.p) [EV.p (eS nm)] [] (zeroOf 240) (by rw[setcs_len,hf];rfl)
 show(bif Nat.beq ((setav a f).cells.map EV.p).length 65&&true then some (setSeg ([EV.p (eS nm)]++zeroOf 240++[]) 1 ((setcs a f).map EV.p)) else none)=_
 rw[hl,e]
 simp
theorem parts_var(v:Vr)(hf:v.2.2.length=64):partsP 66 0 [(0,.agg (v.cs.map .p))]=some [v.av]:=by
 have h1:=toPs_p v.cs
 simp only[toPs] at h1
 have hl:v.cs.length=66:=by simp[Vr.cs,setcs,hf]
 simp only[partsP,toP,h1,Option.map_some,AV.cells,hl,Nat.beq_refl,cond_true]
 rfl
theorem env04(ps:List Param)(hp:ps.length≤1000)(hs:∀ q∈ps,0≤q.sort∧q.sort<4):∃ l:List Vr,(∀ v∈l,v.2.Ok)∧l.length=ps.length∧l.map vty=ps.map (fun q=>(q.name,1))∧AFun Tryz.prog 170 [.slice 2 (ps.map Param.av)] (.p (.slice 66 (l.map Vr.av))):=by
 suffices hh:∃ y,(∃ l:List Vr,y=.p (.slice 66 (l.map Vr.av))∧(∀ v∈l,v.2.Ok)∧l.length=ps.length∧l.map vty=ps.map (fun q=>(q.name,1)))∧AFun Tryz.prog 170 [.slice 2 (ps.map Param.av)] y by
  obtain⟨y,⟨r,rfl,h1,h2,h3⟩,hf⟩:=hh
  exact⟨r,h1,h2,h3,hf⟩
 refine AFunE.intro hT Tryz.func170 rfl rfl (by simp) ⟨_,ps.map (fun q=>(q.name,1,List.replicate 64 true)),rfl,fun v hv=>(by obtain⟨_,_,rfl⟩:=List.mem_map.1 hv;exact⟨⟨Int.le_refl 1,by show(1:Int)≤3;decide⟩,List.length_replicate⟩),List.length_map _,(by rw[List.map_map];rfl)⟩ (AD.run hT hmix ?_)
 have hl:(ps.map Param.av).length=ps.length:=List.length_map _
 refine AD.loopI (fun x:Nat×List Vr=>x.1≤ps.length∧x.2.length=x.1∧(∀ v∈x.2,v.2.Ok)∧x.2.map vty=(ps.take x.1).map (fun q=>(q.name,1))) (fun x=>ps.length - x.1) (fun x=>[(0,.p (.slice 2 (ps.map Param.av))),(3,.own 66 (x.2.map Vr.av) 26),(4,eint .i64 x.1)]) (fun x=>[(26,.tail x.2.length)]) (0,[]) ⟨Nat.zero_le _,rfl,nofun,rfl⟩ .of fun ⟨i,l⟩ ⟨hi,hl1,hok,hvt⟩=>AD.run hT hmix ?_
 dsimp only at hi hl1 hok hvt ⊢
 have hl2:(l.map Vr.av).length=l.length:=List.length_map _
 intro _
 refine bgs (fun hb=>?_) (fun hb=>?_)
 ·replace hb:=odt hb
  have hlt:i<ps.length:=by omega
  have hq:=hs _ (List.getElem_mem hlt)
  obtain⟨g,hg,ho⟩:=one04 [ps[i].sort] (by simp) (by simpa using hq)
  refine igo_map i rfl hlt (igo_map i rfl hlt (.pure [ints [ps[i].sort]] _ rfl ho ?_))
  refine ogo_of (fill_var ps[i].name _ g hg _ rfl) ?_
  refine ogo_of (parts_var (ps[i].name,(([ps[i].sort].length:Int),g)) hg) ?_
  have e:(l++[(ps[i].name,(([ps[i].sort].length:Int),g))]).map Vr.av=l.map Vr.av++[Vr.av (ps[i].name,(([ps[i].sort].length:Int),g))]:=by simp
  refine bgo_true rfl ⟨hl2.symm,⟨by simp;omega,by simp;omega⟩,by kernel_rfl,ngo_in (by omega) (by omega) ⟨(i+1,l++[(ps[i].name,(([ps[i].sort].length:Int),g))]),⟨by dsimp only;omega,by simp;omega,fun v hv=>?_,(by dsimp only;rw[List.map_append,hvt,List.take_succ_eq_append_getElem hlt,List.map_append];rfl)⟩,by dsimp only;omega,?_⟩⟩
  ·rcases List.mem_append.1 hv with hv | hv
   ·exact hok v hv
   ·obtain rfl:=List.mem_singleton.1 hv
    exact⟨⟨by simp,by simp⟩,hg⟩
  ·dsimp only
   rw[e,show(l++[(ps[i].name,(([ps[i].sort].length:Int),g))]).length=(l.map Vr.av++[Vr.av (ps[i].name,(([ps[i].sort].length:Int),g))]).length by simp]
   exact .of
 ·replace hb:=of_decide_eq_false hb
  obtain rfl:i=ps.length:=by omega
  rw[List.take_length] at hvt
  exact⟨_,_,rfl,rfl,l,rfl,hok,by omega,hvt⟩
structure Vw where
 sp:Spc
 temp:List Bool
 calls:Int
 inside:Bool
def Vw.cs(v:Vw):List AV:=v.sp.cx++[.slice 1 (v.temp.map eB),eI v.calls,eB v.inside]
def Vw.av(v:Vw):AV:=.agg v.cs
def Dg(e a:Int):AV:=.agg [eI e,eI a]
def ExR(Q:Int→Prop)(y:EV):Prop:=∃ a f e p,y=.tup [.p (setav a f),.p (Dg e p)]∧f.length=64∧(e=0→Q a)
theorem ExR.any(Q:Int→Prop):∃ y,ExR Q y:=⟨_,1,List.replicate 64 false,1,1,rfl,List.length_replicate,fun h=>absurd h (by decide)⟩
def envLook{α:Type}:List (ByteArray×α)→ByteArray→Option α
 | [],_=>none
 | x::r,nm=>match envLook r nm with
  | some b=>some b
  | none=>if sEq x.1 nm then some x.2 else none
theorem envLook_none{α:Type}:∀ {l:List (ByteArray×α)} {nm:ByteArray},(∀ x∈l,sEq x.1 nm=false)→envLook l nm=none
 | [],_,_=>rfl
 | x::r,nm,h=>by
  rw[envLook,envLook_none fun y hy=>h y (List.mem_cons_of_mem _ hy),h x (List.mem_cons_self ..)];rfl
theorem envLook_mid{α:Type}:∀ {a:List (ByteArray×α)} {x:ByteArray×α} {b:List (ByteArray×α)} {nm:ByteArray},(∀ y∈b,sEq y.1 nm=false)→sEq x.1 nm=true→envLook (a++x::b) nm=some x.2
 | [],x,b,nm,h,hx=>by rw[List.nil_append,envLook,envLook_none h,hx];rfl
 | y::a,x,b,nm,h,hx=>by rw[List.cons_append,envLook,envLook_mid h hx]
theorem envLook_at{α:Type}{l:List (ByteArray×α)}{nm:ByteArray}{i:Nat}(hi:i<l.length)(h:∀ y∈l.drop (i+1),sEq y.1 nm=false)(hx:sEq l[i].1 nm=true):envLook l nm=some l[i].2:=by
 have e:l=l.take i++l[i]::l.drop (i+1):=by rw[List.getElem_cons_drop,List.take_append_drop]
 have:=envLook_mid (a:=l.take i) h hx
 rwa [← e] at this
theorem drop_step{α:Type}{Q:α→Prop}{l:List α}{i:Nat}(hi:i<l.length)(h:∀ y∈l.drop (i+1),Q y)(hx:Q l[i]):∀ y∈l.drop i,Q y:=fun y hy=>by
 rw[← List.getElem_cons_drop hi] at hy
 rcases List.mem_cons.1 hy with rfl | hy
 ·exact hx
 ·exact h y hy
def NameTy(s:Spc)(env:List (ByteArray×Int))(nm:ByteArray)(a:Int):Prop:=match envLook env nm with | some b=>a=b | none=>s.found nm=[a]
theorem res_two{env:Env}{h:AHp}{A:Int}{f:List Bool}{e p:Int}{Q:Int→Prop}(hf:f.length=64)(hA:e=0→Q A)(h2:lk env 6=.loc 6 0)(h3:hp h 6=.box 240 (setSeg (zeroOf 240) 0 ((setcs A f).map .p)))(h4:lk env 7=.loc 7 0)(h5:hp h 7=.box 103 [.p (eI e),.p (eI p)]):∃ es xs,resAll T env h [.cell 6 240,.cell 7 103]=some es∧toPs es=some xs∧ExR Q (retEV xs):=by
 have ee:setSeg (zeroOf 240) 0 ((setcs A f).map EV.p)=(setcs A f).map .p:=setSeg_all _ _ (by rw[setcs_len,hf];rfl)
 rw[ee] at h3
 have r1:resAll T env h [.cell 6 240]=some [.agg ((setcs A f).map .p)]:=res_cell rfl h2 h3 rfl (by rw[setcs_len,hf])
 have r2:resAll T env h [.cell 7 103]=some [.agg [.p (eI e),.p (eI p)]]:=res_cell rfl h4 h5 rfl rfl
 have r3:resAll T env h [.cell 6 240,.cell 7 103]=some [.agg ((setcs A f).map .p),.agg [.p (eI e),.p (eI p)]]:=by
  simp only[resAll] at r1 r2 ⊢
  cases q1:resOne T env h (.cell 6 240) with
  | none=>rw[q1] at r1;simp at r1
  | some x=>
   cases q2:resOne T env h (.cell 7 103) with
   | none=>rw[q2] at r2;simp at r2
   | some y=>
    rw[q1] at r1;rw[q2] at r2
    simp only[Option.some.injEq,List.cons.injEq,and_true] at r1 r2
    rw[r1,r2]
 exact⟨_,_,r3,toPs_two (setcs A f) [eI e,eI p],A,f,e,p,rfl,hf,hA⟩
theorem res_err{env:Env}{h:AHp}{e p:Int}{Q:Int→Prop}(he:e≠0)(h2:lk env 6=.loc 6 0)(h3:hp h 6=.box 240 (setSeg (zeroOf 240) 0 (zeroOf 240)))(h4:lk env 7=.loc 7 0)(h5:hp h 7=.box 103 [.p (eI e),.p (eI p)]):∃ es xs,resAll T env h [.cell 6 240,.cell 7 103]=some es∧toPs es=some xs∧ExR Q (retEV xs):=by
 have ez:zeroOf 240=(setcs 0 (List.replicate 64 false)).map .p:=by
  have e:zeroOf 240=.p (eI 0)::List.replicate 64 (.p (eB false)):=rfl
  rw[e];simp[setcs,List.map_replicate]
 refine res_two (A:=0) (f:=List.replicate 64 false) List.length_replicate (fun h=>absurd h he) h2 ?_ h4 h5
 rw[← ez];exact h3
theorem vlen{v:Vr}(hf:v.2.2.length=64):Nat.ble 65 (List.drop 1 v.av.cells).length=true:=by
 rw[show List.drop 1 v.av.cells=setcs v.2.1 v.2.2 from rfl]
 exact Nat.ble_eq_true_of_le (by simp[setcs,hf])
theorem take_var{v:Vr}(hf:v.2.2.length=64):List.take 65 (List.drop 1 v.av.cells)=setcs v.2.1 v.2.2:=by
 rw[show List.drop 1 v.av.cells=setcs v.2.1 v.2.2 from rfl]
 exact List.take_of_length_le (by simp[setcs,hf])
theorem name04(v:Vw)(hs:v.sp.sorts.length≤4)(hfl:v.sp.fields.length≤1000)(hso:∀ f∈v.sp.fields,SortsOk v.sp.sorts.length f.sorts)(hnm:∀ x∈v.sp.sorts,x.name.size≤1048576)(l:List Vr)(hl:∀ x∈l,x.2.Ok)(n:Nd):∃ y,ExR (fun a=>NameTy v.sp (l.map vty) n.name a∧1≤a∧a≤3) y∧AFun Tryz.prog 216 [v.av,.slice 66 (l.map Vr.av),n.ex] y:=by
 have hl1:(l.map Vr.av).length=l.length:=List.length_map _
 refine AFunE.intro hT Tryz.func216 rfl rfl (by simp) (ExR.any _) (AD.run hT hmix ?_)
 intro _
 refine ngo_in (by omega) (by omega) ?_
 rw[hl1]
 refine AD.loopI (fun i:Nat=>i≤l.length∧∀ x∈(l.map vty).drop i,sEq x.1 n.name=false) (fun i=>i) (fun i=>[(1,.p (.slice 66 (l.map Vr.av))),(3,.loc 3 0),(5,.loc 5 0),(6,.loc 6 0),(7,.loc 7 0),(8,.p (eI ((i:Int) - 1)))]) (fun _=>[(3,.box 245 (v.cs.map .p)),(5,.box 35 ([eI n.op,eS n.name,eI n.n,.slice 5 (n.kids.map Nd.av),eI n.at_].map .p)),(6,.box 240 (zeroOf 240)),(7,.box 103 [.p (eI 0),.p (eI 0)])]) l.length ⟨Nat.le_refl _,fun x hx=>by rw[List.drop_eq_nil_of_le (by simp)] at hx;cases hx⟩ .of fun i ⟨hi,hno⟩=>AD.run hT hmix ?_
 refine bgs (fun hb=>?_) (fun hb=>?_)
 ·replace hb:=odt hb
  have hlt:i - 1<l.length:=by omega
  have hok:=hl _ (List.getElem_mem hlt)
  refine igo_map (i - 1) (by omega) hlt ?_
  refine⟨by kernel_rfl,?_⟩
  refine bgs (fun hc=>?_) (fun hc=>?_)
  ·refine igo_map (i - 1) (by omega) hlt ?_
   refine bgo_true (vlen hok.2) ?_
   generalize hz:List.take _ (List.drop _ _)=z
   obtain rfl:z=setcs l[i - 1].2.1 l[i - 1].2.2:=hz.symm.trans (take_var hok.2)
   clear hz
   refine bgo_true (by rw[Bool.and_eq_true,Bool.and_eq_true];exact⟨len_beq hok.2,rfl,rfl⟩) ?_
   refine res_two hok.2 (fun _=>⟨?_,hok.1⟩) rfl rfl rfl rfl
   have hq:=envLook_at (l:=l.map vty) (nm:=n.name) (i:=i - 1) (by simpa using hlt) (by rw[show i - 1+1=i by omega];exact hno) (by rw[List.getElem_map];exact hc)
   unfold NameTy
   rw[hq,List.getElem_map];rfl
  ·refine ngo_in (by omega) (by omega) ⟨i - 1,⟨by omega,drop_step (by rw[List.length_map];exact hlt) (by rw[show i - 1+1=i by omega];exact hno) (by rw[List.getElem_map];exact hc)⟩,by omega,?_⟩
   rw[show((i - 1:Nat):Int)=(i:Int) - 1 by omega]
   exact .of
 ·replace hb:=of_decide_eq_false hb
  obtain rfl:i=0:=by omega
  rw[List.drop_zero] at hno
  have hq:=envLook_none hno
  obtain⟨y,⟨a,f,k,rfl,hf,ha,hk,hla⟩,hn⟩:=named04 v.sp hs hfl hso hnm n.name
  refine .pure [v.sp.ex,eS n.name] _ rfl hn ?_
  refine bgo_true (by rw[Bool.and_eq_true,Bool.and_eq_true];exact⟨len_beq hf,rfl,rfl⟩) ?_
  generalize hy:setSeg _ _ ((setav a f).cells.map EV.p)=y
  obtain rfl:y=(setcs a f).map .p:=hy.symm.trans (setSeg_all (zeroOf 240) ((setcs a f).map EV.p) (by rw[setcs_len,hf];rfl))
  clear hy
  refine bgs (fun hb=>⟨by kernel_rfl,res_err (by decide) rfl rfl rfl rfl⟩) (fun hb=>?_)
  refine bgs (fun _=>⟨by kernel_rfl,res_err (by decide) rfl rfl rfl rfl⟩) (fun hb1=>?_)
  have hb:k≠0:=by simpa using hb
  replace hb1:=of_decide_eq_false hb1
  have hfo:v.sp.found n.name=[a]:=by
   cases hL:v.sp.found n.name with
   | nil=>rw[hL] at hk;exact absurd hk hb
   | cons x r=>cases r with
    | nil=>rw[hL] at hla;rw[hla x rfl]
    | cons y r=>rw[hL] at hk;simp at hk;omega
  refine bgo_true (Nat.ble_eq_true_of_le (by rw[setcs_len];show 0+65≤_;omega)) ?_
  generalize hz:List.take _ (List.drop _ ((setcs a f).map EV.p))=z
  obtain rfl:z=(setcs a f).map .p:=hz.symm.trans (take_setcs a f hf)
  clear hz
  refine bgo_true (by rw[Bool.and_eq_true,Bool.and_eq_true];exact⟨by rw[setcs_len,hf];rfl,rfl,rfl⟩) ?_
  exact res_two hf (fun _=>⟨(by unfold NameTy;rw[hq];exact hfo),ha hb⟩) rfl rfl rfl rfl
end Go.Ab
namespace Go.Ab
open Go Go.Proofs
abbrev Up(l:List Int):Prop:=l.Pairwise (·<·)
theorem cl_ex(S:Int→Prop):∃ l:List Int,Up l∧∀ x,x∈l↔(0≤x∧x<2000)∧S x:=by
 have:∀ n:Nat,∃ l:List Int,Up l∧∀ x,x∈l↔(0≤x∧x<n)∧S x:=by
  intro n
  induction n with
  | zero=>exact⟨[],List.Pairwise.nil,fun x=>⟨fun h=>(by cases h),fun h=>(by omega)⟩⟩
  | succ n ih=>
   obtain⟨l,h1,h2⟩:=ih
   by_cases hn:S (n:Int)
   ·refine⟨l++[(n:Int)],List.pairwise_append.2 ⟨h1,List.pairwise_singleton ..,fun x hx y hy=>?_⟩,fun x=>?_⟩
    ·obtain rfl:=List.mem_singleton.1 hy
     exact((h2 x).1 hx).1.2
    ·rw[List.mem_append,h2,List.mem_singleton]
     constructor
     ·rintro (⟨h,h'⟩ | rfl)
      ·exact⟨by omega,h'⟩
      ·exact⟨by omega,hn⟩
     ·rintro⟨h,h'⟩
      rcases Int.lt_or_le x n with h3 | h3
      ·exact .inl ⟨by omega,h'⟩
      ·exact .inr (by omega)
   ·refine⟨l,h1,fun x=>(h2 x).trans ⟨fun ⟨h,h'⟩=>⟨by omega,h'⟩,fun ⟨h,h'⟩=>?_⟩⟩
    rcases Int.lt_or_le x n with h3 | h3
    ·exact⟨by omega,h'⟩
    ·exact absurd (by rw[show(n:Int)=x by omega];exact h') hn
 exact this 2000
noncomputable def cl(S:Int→Prop):List Int:=Classical.choose (cl_ex S)
theorem mem_cl{S:Int→Prop}{x:Int}:x∈cl S↔(0≤x∧x<2000)∧S x:=(Classical.choose_spec (cl_ex S)).2 x
theorem cl_up(S:Int→Prop):Up (cl S):=(Classical.choose_spec (cl_ex S)).1
theorem up_ext:∀ {a b:List Int},Up a→Up b→(∀ x,x∈a↔x∈b)→a=b
 | [],[],_,_,_=>rfl
 | [],y::b,_,_,h=>absurd ((h y).2 (List.mem_cons_self ..)) (by simp)
 | x::a,[],_,_,h=>absurd ((h x).1 (List.mem_cons_self ..)) (by simp)
 | x::a,y::b,ha,hb,h=>by
  have ha':=List.pairwise_cons.1 ha
  have hb':=List.pairwise_cons.1 hb
  have hxy:x=y:=by
   have h1:=(h x).1 (List.mem_cons_self ..)
   have h2:=(h y).2 (List.mem_cons_self ..)
   rcases List.mem_cons.1 h1 with e | h1
   ·exact e
   ·rcases List.mem_cons.1 h2 with e | h2
    ·exact e.symm
    ·have:=ha'.1 y h2;have:=hb'.1 x h1;omega
  subst hxy
  rw[up_ext ha'.2 hb'.2 fun z=>?_]
  constructor
  ·intro hz
   rcases List.mem_cons.1 ((h z).1 (List.mem_cons_of_mem _ hz)) with rfl | hz'
   ·exact absurd (ha'.1 z hz) (by omega)
   ·exact hz'
  ·intro hz
   rcases List.mem_cons.1 ((h z).2 (List.mem_cons_of_mem _ hz)) with rfl | hz'
   ·exact absurd (hb'.1 z hz) (by omega)
   ·exact hz'
theorem cl_eq{l:List Int}{S:Int→Prop}(hs:Up l)(hm:∀ x,x∈l↔(0≤x∧x<2000)∧S x):l=cl S:=up_ext hs (cl_up S) fun x=>(hm x).trans mem_cl.symm
noncomputable def rUnion(a b:Rl):Rl:=⟨a.arity,cl fun x=>x∈a.tuples∨x∈b.tuples⟩
noncomputable def rInter(a b:Rl):Rl:=⟨a.arity,cl fun x=>x∈a.tuples∧x∈b.tuples⟩
noncomputable def rDiff(a b:Rl):Rl:=⟨a.arity,cl fun x=>x∈a.tuples∧x∉b.tuples⟩
def pw(n k:Int):Int:=n ^ k.toNat
noncomputable def rProduct(n:Int)(a b:Rl):Rl:=⟨a.arity+b.arity,cl fun x=>∃ u∈a.tuples,∃ v∈b.tuples,x=u*pw n b.arity+v⟩
noncomputable def rJoin(n:Int)(a b:Rl):Rl:=⟨a.arity+b.arity - 2,cl fun x=>∃ u∈a.tuples,∃ v∈b.tuples,u % n=v / pw n (b.arity - 1)∧x=u / n*pw n (b.arity - 1)+v % pw n (b.arity - 1)⟩
noncomputable def rTrans(n:Int)(a:Rl):Rl:=⟨2,cl fun x=>∃ t∈a.tuples,x=t % n*n+t / n⟩
inductive TC(R:Int→Int→Prop):Int→Int→Prop
 | one {x y} (h:R x y):TC R x y
 | more {x y z} (h:TC R x y) (k:R y z):TC R x z
noncomputable def rClos(n:Int)(a:Rl):Rl:=⟨2,cl fun t=>t<n*n∧TC (fun x y=>(0≤x∧x<n)∧(0≤y∧y<n)∧x*n+y∈a.tuples) (t / n) (t % n)⟩
noncomputable def rIden(n:Int):Rl:=⟨2,cl fun x=>∃ y,0≤y∧y<n∧x=y*n+y⟩
noncomputable def rOver(n:Int)(a b:Rl):Rl:=⟨a.arity,cl fun x=>x∈b.tuples∨(x∈a.tuples∧∀ v∈b.tuples,v / pw n (b.arity - 1)≠x / pw n (b.arity - 1))⟩
noncomputable def rUniv(n:Int):Rl:=⟨1,cl fun x=>0≤x∧x<n⟩
def Mdl.n(m:Mdl):Int:=sumI m.scope.atoms
def firstOf(sc:Scope)(i:Nat):Int:=sumI (sc.atoms.take i)
def atomsOf(sc:Scope)(i:Nat):Int:=sc.atoms[i]?.getD 0
noncomputable def sortRel(sc:Scope)(i:Nat):Rl:=⟨1,cl fun x=>firstOf sc i≤x∧x<firstOf sc i+atomsOf sc i⟩
def headRel(sc:Scope)(i:Nat):Rl:=⟨1,[firstOf sc i]⟩
noncomputable def nextRel(sc:Scope)(i:Nat):Rl:=⟨2,cl fun x=>∃ k,firstOf sc i≤k∧k+1<firstOf sc i+atomsOf sc i∧x=k*sumI sc.atoms+(k+1)⟩
def fRels(m:Mdl)(st:Int)(nm:ByteArray)(f:Fld×Nat):List Rl:=if sEq f.1.name nm then [((m.states[st.toNat]?.getD [])[f.2]?).getD ⟨0,[]⟩] else []
noncomputable def sRels(m:Mdl)(nm:ByteArray)(s:Srt×Nat):List Rl:=(if sEq s.1.name nm then [sortRel m.scope s.2] else [])++((if s.1.ordered&&sEq (s.1.name++sFirst) nm then [headRel m.scope s.2] else [])++(if s.1.ordered&&sEq (s.1.name++sNext) nm then [nextRel m.scope s.2] else []))
noncomputable def foundR(s:Spc)(m:Mdl)(st:Int)(nm:ByteArray):List Rl:=s.fields.zipIdx.flatMap (fRels m st nm)++s.sorts.zipIdx.flatMap (sRels m nm)
noncomputable def nameVal(s:Spc)(m:Mdl)(st:Int)(env:List (ByteArray×Int))(nm:ByteArray):Rl:=match envLook env nm with
 | some a=>⟨1,[a]⟩
 | none=>(foundR s m st nm).head?.getD ⟨0,[]⟩
def nextSt(m:Mdl)(st:Int):Int:=if 0≤st∧st<m.states.length - 1 then st+1 else if st=m.states.length - 1 then m.loop else 0
def pathGo(m:Mdl):Nat→Int→List Int→List Int
 | 0,_,out=>out
 | k+1,st,out=>if st∈out then out else pathGo m k (nextSt m st) (out++[st])
def pathOf(m:Mdl)(st:Int):List Int:=pathGo m (m.states.length+2) st []
structure Val where
 r:Rl
 i:Int
 b:Bool
abbrev SemF:=Int→List (ByteArray×Int)→Val
def val0:Val:=⟨⟨0,[]⟩,0,false⟩
def Val.ofR(r:Rl):Val:=⟨r,0,false⟩
def Val.ofI(i:Int):Val:=⟨⟨0,[]⟩,i,false⟩
def Val.ofB(b:Bool):Val:=⟨⟨0,[]⟩,0,b⟩
def semK(ks:List SemF)(i:Nat):SemF:=ks[i]?.getD fun _ _=>val0
def untilGo(f g:Int→Bool):List Int→Bool→Bool→Bool
 | [],done,_=>done
 | s::r,done,failed=>untilGo f g r (done||(g s&&!failed)) (failed||!f s)
noncomputable def evOp(s:Spc)(m:Mdl)(op:Int)(nm:ByteArray)(num:Int)(ks:List SemF)(st:Int)(env:List (ByteArray×Int)):Val:=
 let r0:=(semK ks 0 st env).r
 let r1:=(semK ks 1 st env).r
 let i0:=(semK ks 0 st env).i
 let i1:=(semK ks 1 st env).i
 let b0:=(semK ks 0 st env).b
 let b1:=(semK ks 1 st env).b
 let q:=fun a=>(semK ks 1 st (env++[(nm,a)])).b
 if op=1 then .ofR (nameVal s m st env nm)
 else if op=2 then .ofR ⟨num,[]⟩
 else if op=3 then .ofR (rUniv m.n)
 else if op=4 then .ofR (rIden m.n)
 else if op=5 then .ofR (semK ks 0 (nextSt m st) env).r
 else if op=6 then .ofR (rUnion r0 r1)
 else if op=7 then .ofR (rInter r0 r1)
 else if op=8 then .ofR (rDiff r0 r1)
 else if op=9 then .ofR (rJoin m.n r0 r1)
 else if op=10 then .ofR (rProduct m.n r0 r1)
 else if op=11 then .ofR (rTrans m.n r0)
 else if op=12 then .ofR (rClos m.n r0)
 else if op=13 then .ofR (rUnion (rClos m.n r0) (rIden m.n))
 else if op=14 then .ofR (rOver m.n r0 r1)
 else if op=15 then .ofR ⟨1,r0.tuples.filter q⟩
 else if op=20 then .ofI num
 else if op=21 then .ofI r0.tuples.length
 else if op=22 then .ofI (IntKind.i64.wrap (i0+i1))
 else if op=23 then .ofI (IntKind.i64.wrap (i0 - i1))
 else if op=30 then .ofB true
 else if op=31 then .ofB false
 else if op=32 then .ofB (decide (∀ x∈r0.tuples,x∈r1.tuples))
 else if op=33 then .ofB (decide (r0.tuples=r1.tuples))
 else if op=34 then .ofB (decide (0<r0.tuples.length))
 else if op=35 then .ofB (decide (r0.tuples.length=0))
 else if op=36 then .ofB (decide (r0.tuples.length=1))
 else if op=37 then .ofB (decide (r0.tuples.length≤1))
 else if op=38 then .ofB (decide (i0=i1))
 else if op=39 then .ofB (decide (i0<i1))
 else if op=40 then .ofB !b0
 else if op=41 then .ofB (b0&&b1)
 else if op=42 then .ofB (b0||b1)
 else if op=43 then .ofB (!b0||b1)
 else if op=44 then .ofB (b0==b1)
 else if op=45 then .ofB (r0.tuples.all q)
 else if op=46 then .ofB (r0.tuples.any q)
 else if op=48 then .ofB ((pathOf m st).all fun t=>(semK ks 0 t env).b)
 else if op=49 then .ofB ((pathOf m st).any fun t=>(semK ks 0 t env).b)
 else if op=50 then .ofB (semK ks 0 (nextSt m st) env).b
 else if op=51 then .ofB (untilGo (fun t=>(semK ks 0 t env).b) (fun t=>(semK ks 1 t env).b) (pathOf m st) false false)
 else val0
mutual
noncomputable def ev(s:Spc)(m:Mdl):Nd→SemF
 | .mk op name n kids _=>evOp s m op name n (evs s m kids)
noncomputable def evs(s:Spc)(m:Mdl):List Nd→List SemF
 | []=>[]
 | x::r=>ev s m x::evs s m r
end
theorem evs_map(s:Spc)(m:Mdl):∀ l,evs s m l=l.map (ev s m)
 | []=>by simp[evs]
 | x::r=>by rw[evs,evs_map s m r];rfl
theorem ev_eq(s:Spc)(m:Mdl)(n:Nd):ev s m n=evOp s m n.op n.name n.n (n.kids.map (ev s m)):=by
 cases n with
 | mk op name n kids a=>rw[ev,evs_map];rfl
structure Prm(n:Int)(π:Int→Int):Prop where
 pos:0<n
 lt:∀ x,0≤x→x<n→0≤π x∧π x<n
 inj:∀ x y,0≤x→x<n→0≤y→y<n→π x=π y→x=y
 sur:∀ y,0≤y→y<n→∃ x,(0≤x∧x<n)∧π x=y
def pm(n:Int)(π:Int→Int):Nat→Int→Int
 | 0,_=>0
 | k+1,t=>pm n π k (t / n)*n+π (t % n)
theorem ipow_pos{n:Int}(h:0<n)(k:Nat):0<n ^ k:=Int.pow_pos h
theorem div_lt_pow{n t:Int}(h:0<n){k:Nat}(h0:0≤t)(h1:t<n ^ (k+1)):0≤t / n∧t / n<n ^ k:=by
 refine⟨Int.ediv_nonneg h0 (Int.le_of_lt h),Int.ediv_lt_of_lt_mul h ?_⟩
 rw[Int.pow_succ] at h1;exact h1
theorem mod_rng{n:Int}(h:0<n)(t:Int):0≤t % n∧t % n<n:=⟨Int.emod_nonneg _ (by omega),Int.emod_lt_of_pos _ h⟩
theorem comb_div{n a b:Int}(h0:0≤b)(h1:b<n):(a*n+b) / n=a:=by
 rw[Int.add_comm,Int.add_mul_ediv_right _ _ (by omega),Int.ediv_eq_zero_of_lt h0 h1,Int.zero_add]
theorem comb_mod{n a b:Int}(h0:0≤b)(h1:b<n):(a*n+b) % n=b:=by
 rw[Int.add_comm,Int.add_mul_emod_self_right,Int.emod_eq_of_lt h0 h1]
theorem div_comb(t n:Int):t / n*n+t % n=t:=by rw[Int.mul_comm];exact Int.mul_ediv_add_emod t n
theorem comb_lt{n a b N:Int}(hn:0<n)(ha:a<N)(h1:b<n):a*n+b<N*n:=by
 have:(a+1)*n≤N*n:=Int.mul_le_mul_of_nonneg_right (by omega) (by omega)
 rw[Int.add_mul,Int.one_mul] at this
 omega
theorem comb_nn{n a b:Int}(hn:0<n)(ha:0≤a)(h0:0≤b):0≤a*n+b:=by
 have:=Int.mul_nonneg ha (Int.le_of_lt hn);omega
section
variable {n:Int} {π:Int→Int} (hp:Prm n π)
include hp
theorem pm_rng:∀ (k:Nat) (t:Int),0≤t→t<n ^ k→0≤pm n π k t∧pm n π k t<n ^ k
 | 0,t,_,_=>by rw[pm,Int.pow_zero];exact⟨Int.le_refl _,by omega⟩
 | k+1,t,h0,h1=>by
  obtain⟨a,b⟩:=div_lt_pow hp.pos h0 h1
  obtain⟨c,d⟩:=pm_rng k (t / n) a b
  obtain⟨e,f⟩:=mod_rng hp.pos t
  obtain⟨g,h⟩:=hp.lt _ e f
  rw[pm,Int.pow_succ]
  exact⟨comb_nn hp.pos c g,comb_lt hp.pos d h⟩
theorem pm_inj:∀ (k:Nat) (t u:Int),0≤t→t<n ^ k→0≤u→u<n ^ k→pm n π k t=pm n π k u→t=u
 | 0,t,u,h0,h1,g0,g1,_=>by rw[Int.pow_zero] at h1 g1;omega
 | k+1,t,u,h0,h1,g0,g1,h=>by
  obtain⟨a,b⟩:=div_lt_pow hp.pos h0 h1
  obtain⟨a',b'⟩:=div_lt_pow hp.pos g0 g1
  obtain⟨e,f⟩:=mod_rng hp.pos t
  obtain⟨e',f'⟩:=mod_rng hp.pos u
  obtain⟨r0,r1⟩:=hp.lt _ e f
  obtain⟨q0,q1⟩:=hp.lt _ e' f'
  rw[pm,pm] at h
  have h2:=congrArg (· / n) h
  have h3:=congrArg (· % n) h
  simp only[comb_div r0 r1,comb_div q0 q1] at h2
  simp only[comb_mod r0 r1,comb_mod q0 q1] at h3
  have h4:=pm_inj k _ _ a b a' b' h2
  have h5:=hp.inj _ _ e f e' f' h3
  rw[← div_comb t n,← div_comb u n,h4,h5]
omit hp in
theorem div_pow(hn:0<n)(t:Int)(k:Nat):t / n / n ^ k=t / n ^ (k+1):=by
 rw[Int.pow_succ,Int.mul_comm,Int.ediv_ediv_of_nonneg (Int.le_of_lt hn)]
end
structure Rl.Ok(n:Int)(r:Rl):Prop where
 a:1≤r.arity∧r.arity≤3
 up:Up r.tuples
 rng:∀ t∈r.tuples,0≤t∧t<n ^ r.arity.toNat
noncomputable def imgR(n:Int)(π:Int→Int)(r:Rl):Rl:=⟨r.arity,cl fun x=>∃ t∈r.tuples,x=pm n π r.arity.toNat t⟩
theorem pow_le_2000{n:Int}(h0:0<n)(h:n≤12){k:Nat}(hk:k≤3):n ^ k≤2000:=by
 have hk:k=0∨k=1∨k=2∨k=3:=by omega
 have hn:n=1∨n=2∨n=3∨n=4∨n=5∨n=6∨n=7∨n=8∨n=9∨n=10∨n=11∨n=12:=by omega
 rcases hk with rfl | rfl | rfl | rfl <;> rcases hn with rfl | rfl | rfl | rfl | rfl | rfl | rfl | rfl | rfl | rfl | rfl | rfl <;> decide
section
variable {n:Int} {π:Int→Int} (hp:Prm n π) (hn:n≤12)
include hp hn
theorem mem_img{r:Rl}(hr:r.Ok n){x:Int}:x∈(imgR n π r).tuples↔∃ t∈r.tuples,x=pm n π r.arity.toNat t:=by
 unfold imgR
 rw[mem_cl]
 refine⟨fun h=>h.2,fun h=>⟨?_,h⟩⟩
 obtain⟨t,ht,rfl⟩:=h
 obtain⟨a,b⟩:=hr.rng t ht
 obtain⟨c,d⟩:=pm_rng hp _ t a b
 have:=pow_le_2000 hp.pos hn (k:=r.arity.toNat) (by have:=hr.a;omega)
 omega
theorem img_ok{r:Rl}(hr:r.Ok n):(imgR n π r).Ok n:=by
 refine⟨hr.a,cl_up _,fun x hx=>?_⟩
 obtain⟨t,ht,rfl⟩:=(mem_img hp hn hr).1 hx
 obtain⟨a,b⟩:=hr.rng t ht
 exact pm_rng hp _ t a b
end
theorem pw_eq(n:Int){k:Int}:pw n k=n ^ k.toNat:=rfl
section
theorem mem_cl_rng{n:Int}(hn0:0<n)(hn:n≤12){S:Int→Prop}{k:Nat}(hk:k≤3){t:Int}(h0:0≤t)(h1:t<n ^ k):t∈cl S↔S t:=by
 rw[mem_cl]
 have:=pow_le_2000 hn0 hn hk
 exact⟨fun h=>h.2,fun h=>⟨⟨h0,by omega⟩,h⟩⟩
theorem rUnion_ok{n:Int}(hn0:0<n)(hn:n≤12){a b:Rl}(ha:a.Ok n)(hb:b.Ok n)(e:a.arity=b.arity):(rUnion a b).Ok n:=⟨ha.a,cl_up _,fun t ht=>by
 rcases (mem_cl.1 ht).2 with h | h
 ·exact ha.rng t h
 ·have:=hb.rng t h;rw[← e] at this;exact this⟩
theorem rInter_ok{n:Int}(hn0:0<n)(hn:n≤12){a b:Rl}(ha:a.Ok n):(rInter a b).Ok n:=⟨ha.a,cl_up _,fun t ht=>ha.rng t (mem_cl.1 ht).2.1⟩
theorem rDiff_ok{n:Int}(hn0:0<n)(hn:n≤12){a b:Rl}(ha:a.Ok n):(rDiff a b).Ok n:=⟨ha.a,cl_up _,fun t ht=>ha.rng t (mem_cl.1 ht).2.1⟩
theorem rOver_ok{n:Int}(hn0:0<n)(hn:n≤12){a b:Rl}(ha:a.Ok n)(hb:b.Ok n)(e:a.arity=b.arity):(rOver n a b).Ok n:=⟨ha.a,cl_up _,fun t ht=>by
 rcases (mem_cl.1 ht).2 with h | h
 ·have:=hb.rng t h;rw[← e] at this;exact this
 ·exact ha.rng t h.1⟩
theorem rUniv_ok{n:Int}(hn0:0<n)(hn:n≤12):(rUniv n).Ok n:=⟨⟨by show(1:Int)≤1;omega,by show(1:Int)≤3;omega⟩,cl_up _,fun t ht=>by
 have:=(mem_cl.1 ht).2
 show 0≤t∧t<n ^ 1
 rw[Int.pow_succ,Int.pow_zero];omega⟩
theorem sq{n:Int}(hn0:0<n)(hn:n≤12)(n:Int):n ^ (2:Int).toNat=n*n:=by show n ^ 2=n*n;rw[Int.pow_succ,Int.pow_succ,Int.pow_zero,Int.one_mul]
theorem rIden_ok{n:Int}(hn0:0<n)(hn:n≤12):(rIden n).Ok n:=⟨⟨by show(1:Int)≤2;omega,by show(2:Int)≤3;omega⟩,cl_up _,fun t ht=>by
 obtain⟨y,h0,h1,rfl⟩:=(mem_cl.1 ht).2
 show 0≤_∧_<n ^ (2:Int).toNat
 rw[sq hn0 hn]
 exact⟨comb_nn hn0 h0 h0,comb_lt hn0 h1 h1⟩⟩
theorem rTrans_ok{n:Int}(hn0:0<n)(hn:n≤12){a:Rl}(ha:a.Ok n)(h2:a.arity=2):(rTrans n a).Ok n:=⟨⟨by show(1:Int)≤2;omega,by show(2:Int)≤3;omega⟩,cl_up _,fun t ht=>by
 obtain⟨y,h0,rfl⟩:=(mem_cl.1 ht).2
 have hr:=ha.rng y h0
 rw[h2,sq hn0 hn] at hr
 show 0≤_∧_<n ^ (2:Int).toNat
 rw[sq hn0 hn]
 obtain⟨a0,a1⟩:=mod_rng hn0 y
 have b0:=Int.ediv_nonneg hr.1 (Int.le_of_lt hn0)
 have b1:=Int.ediv_lt_of_lt_mul hn0 hr.2
 exact⟨comb_nn hn0 a0 b0,comb_lt hn0 a1 b1⟩⟩
theorem rClos_ok{n:Int}(hn0:0<n)(hn:n≤12){a:Rl}:(rClos n a).Ok n:=⟨⟨by show(1:Int)≤2;omega,by show(2:Int)≤3;omega⟩,cl_up _,fun t ht=>by
 obtain⟨h1,h2⟩:=mem_cl.1 ht
 show 0≤_∧_<n ^ (2:Int).toNat
 rw[sq hn0 hn]
 exact⟨h1.1,h2.1⟩⟩
theorem rProduct_ok{n:Int}(hn0:0<n)(hn:n≤12){a b:Rl}(ha:a.Ok n)(hb:b.Ok n)(h3:a.arity+b.arity≤3):(rProduct n a b).Ok n:=by
 have h1:=ha.a
 have h2:=hb.a
 refine⟨⟨by show 1≤a.arity+b.arity;omega,h3⟩,cl_up _,fun t ht=>?_⟩
 obtain⟨u,hu,v,hv,rfl⟩:=(mem_cl.1 ht).2
 obtain⟨u0,u1⟩:=ha.rng u hu
 obtain⟨v0,v1⟩:=hb.rng v hv
 show 0≤_∧_<n ^ (a.arity+b.arity).toNat
 rw[show(a.arity+b.arity).toNat=a.arity.toNat+b.arity.toNat by omega,Int.pow_add,pw_eq]
 have hp:=ipow_pos hn0 b.arity.toNat
 exact⟨comb_nn hp u0 v0,comb_lt hp u1 v1⟩
theorem rJoin_ok{n:Int}(hn0:0<n)(hn:n≤12){a b:Rl}(ha:a.Ok n)(hb:b.Ok n)(h1:1≤a.arity+b.arity - 2)(h3:a.arity+b.arity - 2≤3):(rJoin n a b).Ok n:=by
 have g1:=ha.a
 have g2:=hb.a
 refine⟨⟨h1,h3⟩,cl_up _,fun t ht=>?_⟩
 obtain⟨u,hu,v,hv,_,rfl⟩:=(mem_cl.1 ht).2
 obtain⟨u0,u1⟩:=ha.rng u hu
 obtain⟨v0,v1⟩:=hb.rng v hv
 show 0≤_∧_<n ^ (a.arity+b.arity - 2).toNat
 rw[show(a.arity+b.arity - 2).toNat=(a.arity.toNat - 1)+(b.arity - 1).toNat by omega,Int.pow_add,pw_eq]
 have hp:=ipow_pos hn0 (b.arity - 1).toNat
 obtain⟨m0,m1⟩:=mod_rng hp v
 rw[show a.arity.toNat=(a.arity.toNat - 1)+1 by omega] at u1
 obtain⟨d0,d1⟩:=div_lt_pow hn0 u0 u1
 exact⟨comb_nn hp d0 m0,comb_lt hp d1 m1⟩
theorem rJoin_mem{n:Int}(hn0:0<n)(hn:n≤12){a b:Rl}(ha:a.Ok n)(hb:b.Ok n)(h1:1≤a.arity+b.arity - 2)(h3:a.arity+b.arity - 2≤3){t:Int}(t0:0≤t)(t1:t<n ^ (rJoin n a b).arity.toNat):
 t∈(rJoin n a b).tuples↔∃ c,(0≤c∧c<n)∧t / n ^ (b.arity - 1).toNat*n+c∈a.tuples∧c*n ^ (b.arity - 1).toNat+t % n ^ (b.arity - 1).toNat∈b.tuples:=by
 refine(mem_cl_rng hn0 hn (k:=(rJoin n a b).arity.toNat) (by show(a.arity+b.arity - 2).toNat≤3;omega) t0 t1).trans ?_
 have hp:=ipow_pos hn0 (b.arity - 1).toNat
 constructor
 ·rintro⟨u,hu,v,hv,e,rfl⟩
  rw[pw_eq] at e ⊢
  obtain⟨m0,m1⟩:=mod_rng hp v
  refine⟨u % n,mod_rng hn0 u,?_,?_⟩
  ·rw[comb_div m0 m1,div_comb];exact hu
  ·rw[comb_mod m0 m1,e,div_comb];exact hv
 ·rintro⟨c,⟨c0,c1⟩,hu,hv⟩
  obtain⟨m0,m1⟩:=mod_rng hp t
  refine⟨_,hu,_,hv,?_,?_⟩
  ·rw[pw_eq,comb_mod c0 c1,comb_div m0 m1]
  ·rw[pw_eq,comb_div c0 c1,comb_mod m0 m1,div_comb]
end
section
end
end Go.Ab
namespace Go.Ab
open Go Go.Proofs
set_option maxRecDepth 10000
theorem powerP(n:Int)(k:Nat)(hn:0≤n∧n≤12)(hk:k≤3):AFun Tryz.prog 185 [eI n,eI k] (.p (eI (n ^ k))):=by
 have hb:∀ i:Nat,i≤3→0≤n ^ i∧n ^ i≤1728:=fun i hi=>by
  refine⟨Int.pow_nonneg hn.1,?_⟩
  match i,hi with
  | 0,_=>simp
  | 1,_=>rw[Int.pow_succ,Int.pow_zero,Int.one_mul];omega
  | 2,_=>rw[Int.pow_succ,Int.pow_succ,Int.pow_zero,Int.one_mul];exact Int.le_trans (Int.mul_le_mul hn.2 hn.2 hn.1 (by omega)) (by omega)
  | 3,_=>rw[Int.pow_succ,Int.pow_succ,Int.pow_succ,Int.pow_zero,Int.one_mul];exact Int.le_trans (Int.mul_le_mul (Int.mul_le_mul hn.2 hn.2 hn.1 (by omega)) hn.2 hn.1 (by omega)) (by omega)
 refine AFun.of hT Tryz.func185 rfl rfl (by simp) (AD.run hT hmix ?_)
 refine AD.loopI (fun x:Nat×Int=>x.1≤k∧x.2=n ^ x.1) (fun x=>k - x.1) (fun x=>[(0,.p (eI n)),(5,.p (eI x.2)),(6,.p (eI k)),(7,eint .i64 (x.1:Nat))]) (fun _=>[]) (0,1) ⟨Nat.zero_le _,by simp⟩ .of fun ⟨i,v⟩ ⟨g1,g2⟩=>AD.run hT hmix ?_
 dsimp only at g1 g2 ⊢
 subst g2
 refine bgs (fun hb1=>?_) (fun hb1=>?_)
 ·replace hb1:=odt hb1
  have h1:=hb (i+1) (by omega)
  rw[Int.pow_succ] at h1
  refine ngo_in (by omega) (by omega) (ngo_in (by omega) (by omega) ⟨(i+1,n ^ i*n),⟨by dsimp only;omega,by dsimp only;rw[Int.pow_succ]⟩,by dsimp only;omega,.of⟩)
 ·replace hb1:=of_decide_eq_false hb1
  obtain rfl:i=k:=by omega
  exact⟨_,_,rfl,rfl,rfl⟩
theorem equalSl(a b:List Int):AFun Tryz.prog 33 [ints a,ints b] (.p (eB (decide (a=b)))):=by
  have ha:(a.map eI).length=a.length:=List.length_map _
  have hb:(b.map eI).length=b.length:=List.length_map _
  refine AFun.of hT Tryz.func33 rfl rfl (by simp) (AD.run hT hmix ?_)
  intro _ _
  refine bgs (fun h=>?_) (fun h=>?_)
  ·exact⟨_,_,rfl,rfl,by rw[decide_eq_false];rfl;rintro rfl;simp at h⟩
  have hl : a.length = b.length := by have : (a.length : Int) = b.length := by simpa using h
                                      omega
  intro h1
  refine AD.loopI (fun i:Nat=>i≤a.length∧a.take i=b.take i) (fun i=>a.length - i) (fun i=>[(0,.p (ints a)),(1,.p (ints b)),(12,eint .i64 (a.map eI).length),(13,eint .i64 i)]) (fun _=>[]) 0 ⟨Nat.zero_le _,by simp⟩ .of fun i ⟨g1,g2⟩=>AD.run hT hmix ?_
  refine bgs (fun h2=>?_) (fun h2=>?_)
  ·replace h2:=odt h2
   have hlt:i<a.length:=by omega
   refine igo_map i rfl hlt (igo_map i rfl (by omega) ⟨by kernel_rfl,?_⟩)
   refine bgs (fun h3=>?_) (fun h3=>?_)
   ·exact⟨_,_,rfl,rfl,by rw[decide_eq_false];rfl;rintro rfl;simp at h3⟩
   ·replace h3:a[i]=b[i]:=by simpa using h3
    refine ngo_in (by omega) (by omega) ⟨i+1,⟨by omega,?_⟩,by omega,.of⟩
    rw[List.take_succ_eq_append_getElem hlt,List.take_succ_eq_append_getElem (by omega),g2,h3]
  ·replace h2:=of_decide_eq_false h2
   obtain rfl:i=a.length:=by omega
   rw[List.take_length,hl,List.take_length] at g2
   exact⟨_,_,rfl,rfl,by rw[decide_eq_true g2];rfl⟩
theorem equalR(a b:Rl):AFun Tryz.prog 11 [a.av,b.av] (.p (eB (decide (a.arity=b.arity)&&decide (a.tuples=b.tuples)))):=by
 refine AFun.of hT Tryz.func11 rfl rfl (by simp) (AD.run hT hmix ?_)
 refine bgs (fun h=>?_) (fun h=>?_)
 ·have h':a.arity=b.arity:=odt h
  exact .pure [ints a.tuples,ints b.tuples] _ rfl (equalSl a.tuples b.tuples) ⟨_,_,rfl,rfl,by rw[decide_eq_true h',Bool.true_and];rfl⟩
 ·have h':¬ a.arity=b.arity:=of_decide_eq_false h
  exact⟨_,_,rfl,rfl,by rw[decide_eq_false h',Bool.false_and];rfl⟩
def cntM(l:List (Int×Int)):List (AV×AV):=l.map fun x=>(eI x.1,eI x.2)
theorem mgo_ints{l:List (Int×Int)}{a:Int}{A:AV×AV→Prop}{B:Prop}(hA:∀ v,(a,v)∈l→A (eI a,eI v))(hB:(∀ v,(a,v)∉l)→B):List.rec (motive:=fun _=>Prop) B (fun x _ ih=>bgo (keyB x.1 (eI a)) (A x) ih) (cntM l):=by
 induction l with
 | nil=>exact hB (by simp)
 | cons x r ih=>
  show bgo (keyB (eI x.1) (eI a)) (A (eI x.1,eI x.2)) _
  refine bgs (fun h=>?_) (fun h=>?_)
  ·obtain rfl:x.1=a:=odt h
   exact hA _ (List.mem_cons_self ..)
  ·have hx:¬ x.1=a:=of_decide_eq_false h
   refine ih (fun v hv=>hA v (List.mem_cons_of_mem _ hv)) fun h2=>hB fun v hv=>?_
   rcases List.mem_cons.1 hv with e | hv
   ·exact hx (by rw[← e])
   ·exact h2 v hv
def setI(l:List (Int×Int))(a v:Int):List (Int×Int):=bif l.any (fun x=>decide (x.1=a)) then l.map (fun x=>bif decide (x.1=a) then (a,v) else x) else l++[(a,v)]
theorem mset_cnt(l:List (Int×Int))(a v:Int):mset (cntM l) (eI a) (eI v)=cntM (setI l a v):=by
 have h1:(cntM l).any (fun x=>keyB x.1 (eI a))=l.any (fun x=>decide (x.1=a)):=by rw[cntM,List.any_map];rfl
 rw[mset,setI,h1]
 cases l.any (fun x=>decide (x.1=a)) with
 | true=>
  simp only[cond_true,cntM,List.map_map]
  refine List.map_congr_left fun x _=>?_
  show(bif decide (x.1=a) then _ else _)=_
  simp only[Function.comp]
  cases decide (x.1=a) <;> rfl
 | false=>simp[cntM]
theorem setI_mem{l:List (Int×Int)}{a v b w:Int}(h:(b,w)∈setI l a v):(b=a∧w=v)∨(b,w)∈l:=by
 unfold setI at h
 cases hc:l.any (fun x=>decide (x.1=a)) with
 | true=>
  rw[hc] at h
  obtain⟨x,hx,e⟩:=List.mem_map.1 h
  cases hd:decide (x.1=a) with
  | true=>rw[hd] at e;cases e;exact .inl ⟨rfl,rfl⟩
  | false=>rw[hd] at e;exact .inr (by rw[← e];exact hx)
 | false=>
  rw[hc] at h
  rcases List.mem_append.1 h with h | h
  ·exact .inr h
  ·cases List.mem_singleton.1 h;exact .inl ⟨rfl,rfl⟩
theorem setI_key{l:List (Int×Int)}{a v b:Int}:(∃ w,(b,w)∈setI l a v)↔b=a∨∃ w,(b,w)∈l:=by
 constructor
 ·rintro⟨w,h⟩
  rcases setI_mem h with ⟨h,_⟩ | h
  ·exact .inl h
  ·exact .inr ⟨w,h⟩
 ·intro h
  unfold setI
  cases hc:l.any (fun x=>decide (x.1=a)) with
  | true=>
   have:∃ w,(b,w)∈l:=by
    rcases h with rfl | h
    ·obtain⟨x,hx,he⟩:=List.any_eq_true.1 hc
     have he:=odt he
     exact⟨x.2,by rw[← he];exact hx⟩
    ·exact h
   obtain⟨w,hw⟩:=this
   by_cases e:b=a
   ·subst e;exact⟨v,List.mem_map.2 ⟨_,hw,by simp⟩⟩
   ·exact⟨w,List.mem_map.2 ⟨_,hw,by simp[e]⟩⟩
  | false=>
   rcases h with rfl | ⟨w,h⟩
   ·exact⟨v,List.mem_append_right _ (List.mem_singleton.2 rfl)⟩
   ·exact⟨w,List.mem_append_left _ h⟩
structure Cnt(r:List Int)(g:Int→Int)(l:List (Int×Int)):Prop where
 key:∀ a,(∃ w,(a,w)∈l)↔∃ x∈r,g x=a
 pos:∀ a w,(a,w)∈l→1≤w∧w≤r.length
theorem sameP(x:Int):AFun Tryz.prog 181 [eI x] (.p (eI x)):=by
 exact AFun.of hT Tryz.func181 rfl rfl (by simp) (AD.run hT hmix ⟨_,_,rfl,rfl,rfl⟩)
theorem setP(r:Rl)(f:FuncId)(caps:List AV)(g:Int→Int)(hg:∀ x∈r.tuples,AFun Tryz.prog f (eI x::caps) (.p (eI (g x)))):
 ∃ l,Cnt r.tuples g l∧AFun Tryz.prog 180 [r.av,.fn (.func f) [] caps] (.p (.mp (.int .i64) (cntM l))):=by
 suffices hh:∃ y,(∃ l,Cnt r.tuples g l∧y=.p (.mp (.int .i64) (cntM l)))∧AFun Tryz.prog 180 [r.av,.fn (.func f) [] caps] y by
  obtain⟨y,⟨l,h1,rfl⟩,hf⟩:=hh
  exact⟨l,h1,hf⟩
 have ha:(r.tuples.map eI).length=r.tuples.length:=List.length_map _
 refine AFunE.intro hT Tryz.func180 rfl rfl (by simp) ⟨_,r.tuples.map fun x=>(g x,1),⟨fun a=>⟨fun ⟨w,hw⟩=>let ⟨x,hx,e⟩:=List.mem_map.1 hw;⟨x,hx,congrArg Prod.fst e⟩,fun ⟨x,hx,e⟩=>⟨1,List.mem_map.2 ⟨x,hx,by rw[e]⟩⟩⟩,fun a w hw=>by
  obtain⟨x,hx,e⟩:=List.mem_map.1 hw
  cases e
  have:=List.length_pos_of_mem hx
  omega⟩,rfl⟩ (AD.cut hT hmix 7 (fun es:List (AV×AV)=>∃ l,es=cntM l∧Cnt r.tuples g l) (fun es=>[(5,.p (.mp (.int .i64) es))]) (fun _=>[]) ?_ fun es ⟨l,he,hl⟩=>AD.run hT hmix ⟨_,_,rfl,rfl,l,hl,by rw[he];rfl⟩)
 intro h1
 refine AD.loopI (fun x:Nat×List (AV×AV)=>x.1≤r.tuples.length∧∃ l,x.2=cntM l∧Cnt (r.tuples.take x.1) g l) (fun x=>r.tuples.length - x.1) (fun x=>[(1,.p (.fn (.func f) [] caps)),(5,.mtok 8),(10,.p (ints r.tuples)),(11,eint .i64 (r.tuples.map eI).length),(12,eint .i64 x.1)]) (fun x=>[(8,.map (.int .i64) x.2)]) (0,[]) ⟨Nat.zero_le _,[],rfl,⟨by simp,by simp⟩⟩ .of fun ⟨i,es⟩ ⟨g1,l,g2,g3⟩=>AD.run hT hmix ?_
 dsimp only at g1 g2 g3 ⊢
 subst g2
 refine bgs (fun h2=>?_) (fun h2=>?_)
 ·replace h2:=odt h2
  have hlt:i<r.tuples.length:=by omega
  have hnext:∀ v:Int,1≤v∧v≤(i:Int)+1→Cnt (r.tuples.take (i+1)) g (setI l (g r.tuples[i]) v):=by
   intro v hv
   refine⟨fun a=>?_,fun a w hw=>?_⟩
   ·rw[setI_key,g3.key,List.take_succ_eq_append_getElem hlt]
    simp only[List.mem_append,List.mem_singleton]
    constructor
    ·rintro (rfl | ⟨x,hx,rfl⟩)
     ·exact⟨_,.inr rfl,rfl⟩
     ·exact⟨x,.inl hx,rfl⟩
    ·rintro⟨x,hx | rfl,rfl⟩
     ·exact .inr ⟨x,hx,rfl⟩
     ·exact .inl rfl
   ·have:(r.tuples.take (i+1)).length=i+1:=by simp;omega
    rw[this]
    rcases setI_mem hw with ⟨_,rfl⟩ | hw
    ·exact⟨hv.1,by omega⟩
    ·have:=g3.pos _ _ hw
     have:(r.tuples.take i).length=i:=by simp;omega
     omega
  refine igo_map i rfl hlt ?_
  refine .pure (eI r.tuples[i]::caps) _ (toPs_p (eI r.tuples[i]::caps)) (hg _ (List.getElem_mem hlt)) ?_
  refine mgo_ints (fun v hv=>?_) (fun hv=>?_)
  ·have hv2:=g3.pos _ _ hv
   rw[show(r.tuples.take i).length=i by simp;omega] at hv2
   refine ngo_in (by omega) (by omega) (ngo_in (by omega) (by omega) ⟨(i+1,mset (cntM l) (eI (g r.tuples[i])) (eI (v+1))),⟨by dsimp only;omega,_,mset_cnt l _ _,hnext _ (by omega)⟩,by dsimp only;omega,.of⟩)
  ·refine ngo_in (by omega) (by omega) (ngo_in (by omega) (by omega) ⟨(i+1,mset (cntM l) (eI (g r.tuples[i])) (eI 1)),⟨by dsimp only;omega,_,mset_cnt l _ _,hnext _ (by omega)⟩,by dsimp only;omega,.of⟩)
 ·replace h2:=of_decide_eq_false h2
  obtain rfl:i=r.tuples.length:=by omega
  rw[List.take_length] at g3
  exact⟨_,⟨l,rfl,g3⟩,.mseal 8⟩
abbrev mref(l:List (Int×Int)):AV:=.ref [.mp (.int .i64) (cntM l)]
theorem interF{r:List Int}{l:List (Int×Int)}(h:Cnt r (fun x=>x) l)(x:Int):AFun Tryz.prog 183 [eI x,mref l] (.p (eB (decide (x∈r)))):=by
 refine AFun.of hT Tryz.func183 rfl rfl (by simp) (AD.run hT hmix ?_)
 refine mgo_ints (fun v hv=>?_) (fun hv=>?_)
 ·have h1:=h.pos _ _ hv
  obtain⟨y,hy,rfl⟩:=(h.key x).1 ⟨v,hv⟩
  exact⟨_,_,rfl,rfl,by rw[decide_eq_true hy];simp only[decide_eq_true (show v>0 by omega)];rfl⟩
 ·have:x∉r:=fun hx=>by
   obtain⟨w,hw⟩:=(h.key x).2 ⟨x,hx,rfl⟩
   exact hv w hw
  exact⟨_,_,rfl,rfl,by rw[decide_eq_false this];rfl⟩
theorem diffF{r:List Int}{l:List (Int×Int)}(h:Cnt r (fun x=>x) l)(x:Int):AFun Tryz.prog 184 [eI x,mref l] (.p (eB (decide (x∉r)))):=by
 refine AFun.of hT Tryz.func184 rfl rfl (by simp) (AD.run hT hmix ?_)
 refine mgo_ints (fun v hv=>?_) (fun hv=>?_)
 ·have h1:=h.pos _ _ hv
  obtain⟨y,hy,rfl⟩:=(h.key x).1 ⟨v,hv⟩
  exact⟨_,_,rfl,rfl,by rw[decide_eq_false (fun h=>h hy)];rw[show(v==0)=false by simp;omega];rfl⟩
 ·have:x∉r:=fun hx=>by
   obtain⟨w,hw⟩:=(h.key x).2 ⟨x,hx,rfl⟩
   exact hv w hw
  exact⟨_,_,rfl,rfl,by rw[decide_eq_true this];rfl⟩
theorem keepP(r:List Int)(hlen:r.length≤1000000000)(f:FuncId)(caps:List AV)(q:Int→Bool)(hq:∀ x∈r,AFun Tryz.prog f (eI x::caps) (.p (eB (q x)))):AFun Tryz.prog 182 [ints r,.fn (.func f) [] caps] (.p (ints (r.filter q))):=by
 have ha:(r.map eI).length=r.length:=List.length_map _
 refine AFun.of hT Tryz.func182 rfl rfl (by simp) (AD.run hT hmix ?_)
 intro h1
 refine AD.loopI (fun x:Nat×List AV=>x.1≤r.length∧x.2=((r.take x.1).filter q).map eI) (fun x=>r.length - x.1) (fun x=>[(1,.p (.fn (.func f) [] caps)),(5,.own 1 x.2 5),(8,.p (ints r)),(9,eint .i64 (r.map eI).length),(10,eint .i64 x.1)]) (fun x=>[(5,.tail x.2.length)]) (0,[]) ⟨Nat.zero_le _,rfl⟩ .of fun ⟨i,es⟩ ⟨g1,g2⟩=>AD.run hT hmix ?_
 dsimp only at g1 g2 ⊢
 have hes:es.length≤i:=by
  rw[g2,List.length_map]
  refine Nat.le_trans (List.length_filter_le ..) ?_
  rw[List.length_take];omega
 refine bgs (fun h2=>?_) (fun h2=>?_)
 ·replace h2:=odt h2
  have hlt:i<r.length:=by omega
  refine igo_map i rfl hlt ?_
  refine .pure (eI r[i]::caps) _ (toPs_p (eI r[i]::caps)) (hq _ (List.getElem_mem hlt)) ?_
  refine bgs (fun h3=>?_) (fun h3=>?_)
  ·refine⟨rfl,⟨by simp;omega,by simp;omega⟩,ngo_in (by omega) (by omega) ⟨(i+1,es++[eI r[i]]),⟨by dsimp only;omega,?_⟩,by dsimp only;omega,.of⟩⟩
   dsimp only
   rw[List.take_succ_eq_append_getElem hlt,List.filter_append,List.map_append,g2]
   simp[h3]
  ·refine ngo_in (by omega) (by omega) ⟨(i+1,es),⟨by dsimp only;omega,?_⟩,by dsimp only;omega,.of⟩
   dsimp only
   rw[List.take_succ_eq_append_getElem hlt,List.filter_append,List.map_append,g2]
   simp[h3]
 ·replace h2:=of_decide_eq_false h2
  obtain rfl:i=r.length:=by omega
  rw[List.take_length] at g2
  exact⟨_,_,rfl,rfl,by rw[g2];rfl⟩
end Go.Ab
