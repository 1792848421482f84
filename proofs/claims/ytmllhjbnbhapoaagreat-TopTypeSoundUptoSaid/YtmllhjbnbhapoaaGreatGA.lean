/- Texts Ab1, Ab2, Ab3, Ab4, Ab5, Ab6, Ab7, Ab8. Conditions: none. -/
import Derived.Calls
import Derived.Below
import Derived.Laws.Rows
import Derived.Laws.CopyRow
import Derived.Laws.MakeOwn
import Derived.Deep.MidRow
set_option linter.unusedSimpArgs false
set_option linter.unusedVariables false
theorem Go.odt{p:Prop}[Decidable p](h:decide p=true):p:=of_decide_eq_true h
theorem Go.nbt{n m:Nat}(h:Nat.beq n m=true):n=m:=Nat.eq_of_beq_eq_true h
namespace Go.Ab
open Go Go.RowKit
inductive KP where
 | int (k:IntKind)
 | str
 | ints (ks:List IntKind)
 | iter
 deriving DecidableEq,Inhabited
inductive AV where
 | imm (v:Value)
 | agg (cs:List AV)
 | slice (sz:Nat) (es:List AV)
 | ref (cs:List AV)
 | fn (f:Fn) (first caps:List AV)
 | iface (t:TypeId) (x:AV)
 | mp (kp:KP) (es:List (AV×AV))
 deriving Inhabited
def AV.cells:AV→List AV
 | .agg cs=>cs
 | x=>[x]
def flat:List AV→List AV
 | []=>[]
 | e::r=>e.cells++flat r
theorem flat_append(a b:List AV):flat (a++b)=flat a++flat b:=by
 induction a with
 | nil=>rfl
 | cons e r ih=>simp[flat,ih]
theorem flat_length{sz:Nat}{es:List AV}(h:∀ e∈es,e.cells.length=sz):(flat es).length=es.length*sz:=by
 induction es with
 | nil=>simp[flat]
 | cons e r ih=>simp only[flat,List.length_append,List.length_cons,h e (by simp),ih (fun x hx=>h x (by simp[hx]))];rw[Nat.succ_mul];omega
theorem flat_get{sz:Nat}{es:List AV}(h:∀ e∈es,e.cells.length=sz){i j:Nat}{e:AV}(hi:es[i]?=some e)(hj:j<sz):(flat es)[i*sz+j]?=e.cells[j]?:=by
 induction es generalizing i with
 | nil=>simp at hi
 | cons x r ih=>
  have hx:=h x (by simp)
  cases i with
  | zero=>
   simp at hi
   subst hi
   simp only[flat,Nat.zero_mul,Nat.zero_add]
   rw[List.getElem?_append_left (by omega)]
  | succ i=>
   simp at hi
   have:=ih (fun y hy=>h y (by simp[hy])) hi
   simp only[flat]
   rw[List.getElem?_append_right (by rw[hx,Nat.succ_mul];omega),hx,show(i+1)*sz+j - sz=i*sz+j by rw[Nat.succ_mul];omega]
   exact this
abbrev Fz:=Nat→Nat→Option Value
def RowAt(fz:Fz)(p:Option Addr)(vs:List Value):Prop:=∀ i v,vs[i]?=some v→∃ b o,p=some ⟨b,o,none⟩∧fz b (o+i)=some v
def Ones(vs:List Value):Prop:=∀ v∈vs,v.oneCell'=true
def mapCode(es:Array MapEntry)(clk:Nat):Value:=.tuple (Value.int .i64 clk::es.toList.map fun e=>.tuple #[e.key,e.val,.int .i64 e.born]).toArray
def _root_.Go.World.pk(w:World)(b o:Nat):Option Value:=
 match w.heap[b]? with
 | some (.cells c _ _)=>(match c[o]? with | some v=>if v.oneCell'=true then some v else none | none=>none)
 | some (.map es clk)=>if o=0 then some (mapCode es clk) else none
 | _=>none
theorem pk_cell{w:World}{b o:Nat}{v:Value}(h:w.pk b o=some v)(h1:v.oneCell'=true):w.cell? ⟨b,o,none⟩=some v:=by
 unfold World.pk at h
 unfold World.cell?
 split at h
 ·rename_i c t f hb
  split at h
  ·rename_i u hu
   split at h
   ·cases h;simp[hb,hu]
   ·cases h
  ·cases h
 ·split at h
  ·cases h;simp[mapCode,Value.oneCell'] at h1
  ·cases h
 ·cases h
theorem cell_pk{w:World}{b o:Nat}{v:Value}(h:w.cell? ⟨b,o,none⟩=some v)(h1:v.oneCell'=true):w.pk b o=some v:=by
 unfold World.cell? at h
 unfold World.pk
 split at h
 ·rename_i c t f hb
  simp only[hb]
  simp only[Option.isSome_none,Bool.false_eq_true,if_false] at h
  rw[h];simp[h1]
 ·cases h
theorem pk_congr{w w':World}{b:Nat}(h:w'.heap[b]?=w.heap[b]?)(o:Nat):w'.pk b o=w.pk b o:=by
 unfold World.pk;rw[h]
theorem pk_lt{w:World}{b o:Nat}{v:Value}(h:w.pk b o=some v):b<w.heap.size:=by
 rcases Nat.lt_or_ge b w.heap.size with h' | h'
 ·exact h'
 ·unfold World.pk at h;rw[Array.getElem?_eq_none h'] at h;cases h
theorem mapCode_inj{es es':Array MapEntry}{c c':Nat}(h:mapCode es c=mapCode es' c'):es=es'∧c=c':=by
 unfold mapCode at h
 have h:=congrArg Array.toList (Value.tuple.inj h)
 simp only[List.cons.injEq] at h
 obtain⟨h1,h2⟩:=h
 refine⟨?_,by have:=(Value.int.inj h1).2;omega⟩
 apply Array.ext'
 generalize es.toList=l at h2 ⊢
 generalize es'.toList=l' at h2 ⊢
 induction l generalizing l' with
 | nil=>cases l' with
  | nil=>rfl
  | cons _ _=>simp at h2
 | cons x r ih=>cases l' with
  | nil=>simp at h2
  | cons y r'=>
   simp only[List.map_cons,List.cons.injEq] at h2
   obtain⟨e1,e2⟩:=h2
   rw[ih _ e2]
   congr 1
   have e1:=congrArg Array.toList (Value.tuple.inj e1)
   simp only[List.cons.injEq,and_true,Value.int.injEq,true_and] at e1
   obtain⟨a,b,c⟩:=e1
   cases x;cases y
   simp only at a b c
   simp[a,b];omega
theorem pk_map{w:World}{r o:Nat}{es:Array MapEntry}{clk:Nat}(h:w.pk r o=some (mapCode es clk)):w.heap[r]?=some (.map es clk):=by
 unfold World.pk at h
 split at h
 ·split at h
  ·split at h
   ·rename_i h1
    have h:=Option.some.inj h
    rw[h] at h1
    simp[mapCode,Value.oneCell'] at h1
   ·cases h
  ·cases h
 ·rename_i es' clk' hb
  split at h
  ·obtain⟨rfl,rfl⟩:=mapCode_inj (Option.some.inj h)
   exact hb
  ·cases h
 ·cases h
theorem map_pk{w:World}{r:Nat}{es:Array MapEntry}{clk:Nat}(h:w.heap[r]?=some (.map es clk)):w.pk r 0=some (mapCode es clk):=by
 unfold World.pk;simp[h]
def kfitL:List IntKind→List AV→Bool
 | [],[]=>true
 | k::r,.imm (.int k' _)::s=>decide (k=k')&&kfitL r s
 | _,_=>false
def kfit:KP→AV→Bool
 | .int k,.imm (.int k' _)=>decide (k=k')
 | .str,.imm (.string _)=>true
 | .ints ks,.agg cs=>kfitL ks cs
 | _,_=>false
def keyB:AV→AV→Bool
 | .imm (.int _ a),.imm (.int _ b)=>decide (a=b)
 | .imm (.string a),.imm (.string b)=>decide (a=b)
 | .agg xs,.agg ys=>keyL xs ys
 | _,_=>false
where keyL:List AV→List AV→Bool
 | [],[]=>true
 | .imm (.int _ a)::r,.imm (.int _ b)::s=>decide (a=b)&&keyL r s
 | _,_=>false
theorem keyL_iff:∀ {ks:List IntKind} {a b:List AV},kfitL ks a=true→kfitL ks b=true→(keyB.keyL a b=true↔a=b)
 | [],[],[],_,_=>by simp[keyB.keyL]
 | [],[],_::_,_,h=>by simp[kfitL] at h
 | [],_::_,_,h,_=>by simp[kfitL] at h
 | _::_,[],_,h,_=>by simp[kfitL] at h
 | _::_,_::_,[],_,h=>by simp[kfitL] at h
 | k::r,x::s,y::t,h1,h2=>by
  cases x with
  | imm v=>
   cases v with
   | int k1 a=>
    cases y with
    | imm u=>
     cases u with
     | int k2 b=>
      simp only[kfitL,Bool.and_eq_true,decide_eq_true_eq] at h1 h2
      have ih:=keyL_iff h1.2 h2.2
      simp only[keyB.keyL,Bool.and_eq_true,decide_eq_true_eq,ih,List.cons.injEq,AV.imm.injEq,Value.int.injEq]
      constructor
      ·rintro⟨rfl,rfl⟩;exact⟨⟨h1.1.symm.trans h2.1,rfl⟩,rfl⟩
      ·rintro⟨⟨_,rfl⟩,rfl⟩;exact⟨rfl,rfl⟩
     | _=>simp[kfitL] at h2
    | _=>simp[kfitL] at h2
   | _=>simp[kfitL] at h1
  | _=>simp[kfitL] at h1
theorem keyB_iff{kp:KP}{a b:AV}(h1:kfit kp a=true)(h2:kfit kp b=true):keyB a b=true↔a=b:=by
 cases kp with
 | int k=>
  cases a with
  | imm v=>cases v with
   | int k1 x=>cases b with
    | imm u=>cases u with
     | int k2 y=>
      simp only[kfit,decide_eq_true_eq] at h1 h2
      simp only[keyB,decide_eq_true_eq,AV.imm.injEq,Value.int.injEq]
      exact⟨fun e=>⟨h1.symm.trans h2,e⟩,fun e=>e.2⟩
     | _=>simp[kfit] at h2
    | _=>simp[kfit] at h2
   | _=>simp[kfit] at h1
  | _=>simp[kfit] at h1
 | str=>
  cases a with
  | imm v=>cases v with
   | string x=>cases b with
    | imm u=>cases u with
     | string y=>simp[keyB]
     | _=>simp[kfit] at h2
    | _=>simp[kfit] at h2
   | _=>simp[kfit] at h1
  | _=>simp[kfit] at h1
 | ints ks=>
  cases a with
  | agg xs=>cases b with
   | agg ys=>simp only[kfit] at h1 h2;simp[keyB,keyL_iff h1 h2]
   | _=>simp[kfit] at h2
  | _=>simp[kfit] at h1
 | iter=>simp[kfit] at h1
def KeysOk(kp:KP)(es:List (AV×AV)):Prop:=(∀ x∈es,kfit kp x.1=true)∧(es.map (·.1)).Nodup
theorem KeysOk.perm{kp:KP}{a b:List (AV×AV)}(h:KeysOk kp a)(hp:a.Perm b):KeysOk kp b:=⟨fun x hx=>h.1 x (hp.mem_iff.2 hx),(hp.map _).nodup_iff.1 h.2⟩
def Born(ents:Array MapEntry)(clk:Nat):Prop:=(∀ e∈ents.toList,e.born<clk)∧(ents.toList.map (·.born)).Pairwise (·<·)
inductive Rep(fz:Fz):Value→AV→Prop
 | imm (v:Value) (h1:v.oneCell'=true):Rep fz v (.imm v)
 | agg (vs:List Value) (cs:List AV) (h1:Ones vs) (hl:vs.length=cs.length) (h:∀ (i:Nat) v x,vs[i]?=some v→cs[i]?=some x→Rep fz v x):Rep fz (.agg vs.toArray) (.agg cs)
 | slice (p:Option Addr) (n cap sz:Nat) (es:List AV) (vs:List Value) (hn:n=es.length) (hc:n≤cap) (hm:n≤9223372036854775807) (hs:∀ e∈es,e.cells.length=sz)
  (h1:Ones vs) (hr:RowAt fz p vs) (hl:vs.length=(flat es).length) (h:∀ (i:Nat) v x,vs[i]?=some v→(flat es)[i]?=some x→Rep fz v x):Rep fz (.slice p n cap) (.slice sz es)
 | ref (b o:Nat) (cs:List AV) (vs:List Value) (h1:Ones vs) (hr:RowAt fz (some ⟨b,o,none⟩) vs) (hl:vs.length=cs.length)
  (h:∀ (i:Nat) v x,vs[i]?=some v→cs[i]?=some x→Rep fz v x):Rep fz (.pointer (some ⟨b,o,none⟩)) (.ref cs)
 | fn (f:Fn) (vf vc:List Value) (first caps:List AV) (hl:vf.length=first.length) (hl2:vc.length=caps.length)
  (h:∀ (i:Nat) v x,vf[i]?=some v→first[i]?=some x→Rep fz v x) (h2:∀ (i:Nat) v x,vc[i]?=some v→caps[i]?=some x→Rep fz v x):Rep fz (.func f vf.toArray vc.toArray) (.fn f first caps)
 | iface (t:TypeId) (v:Value) (x:AV) (h:Rep fz v x):Rep fz (.iface t v) (.iface t x)
 | mp (kp:KP) (r:Nat) (ents:Array MapEntry) (clk:Nat) (es0 es:List (AV×AV)) (hz:fz r 0=some (mapCode ents clk)) (hb:Born ents clk) (hl:ents.size=es0.length) (hp:es0.Perm es) (hm:KeysOk kp es0)
  (h:∀ (i:Nat) (e:MapEntry) (x:AV×AV),ents[i]?=some e→es0[i]?=some x→Rep fz e.key x.1)
  (h2:∀ (i:Nat) (e:MapEntry) (x:AV×AV),ents[i]?=some e→es0[i]?=some x→Rep fz e.val x.2):Rep fz (.map (some r)) (.mp kp es)
def FzLe(a b:Fz):Prop:=∀ k o v,a k o=some v→b k o=some v
theorem FzLe.refl(a:Fz):FzLe a a:=fun _ _ _ h=>h
theorem FzLe.trans{a b c:Fz}(h:FzLe a b)(k:FzLe b c):FzLe a c:=fun _ _ _ x=>k _ _ _ (h _ _ _ x)
theorem RowAt.mono{a b:Fz}{p:Option Addr}{vs:List Value}(h:RowAt a p vs)(hl:FzLe a b):RowAt b p vs:=
 fun i v hv=>let ⟨x,o,hp,hz⟩:=h i v hv;⟨x,o,hp,hl _ _ _ hz⟩
theorem Rep.mono{a b:Fz}(hl:FzLe a b){v:Value}{x:AV}(h:Rep a v x):Rep b v x:=by
 induction h with
 | imm v h1=>exact .imm v h1
 | agg vs cs h1 hl2 _ ih=>exact .agg vs cs h1 hl2 ih
 | slice p n cap sz es vs hn hc hm hs h1 hr hl2 _ ih=>exact .slice p n cap sz es vs hn hc hm hs h1 (hr.mono hl) hl2 ih
 | ref b o cs vs h1 hr hl2 _ ih=>exact .ref b o cs vs h1 (hr.mono hl) hl2 ih
 | fn f vf vc first caps hl1 hl2 _ _ ih1 ih2=>exact .fn f vf vc first caps hl1 hl2 ih1 ih2
 | iface t v x _ ih=>exact .iface t v x ih
 | mp kp r ents clk es0 es hz hb hl2 hp hm _ _ ih ih2=>exact .mp kp r ents clk es0 es (hl _ _ _ hz) hb hl2 hp hm ih ih2
theorem Rep.cells{fz:Fz}{v:Value}{x:AV}(h:Rep fz v x):v.cells.toList.length=x.cells.length∧Ones v.cells.toList∧∀ (i:Nat) u y,v.cells.toList[i]?=some u→x.cells[i]?=some y→Rep fz u y:=by
 cases h with
 | agg vs cs h1 hl h=>exact⟨by simpa[Value.cells,AV.cells] using hl,by simpa[Value.cells] using h1,by simpa[Value.cells,AV.cells] using h⟩
 | imm v h1=>
  have hv:v.cells=#[v]:=by cases v <;> first | rfl | (simp[Value.oneCell'] at h1)
  refine⟨by simp[hv,AV.cells],by simpa[hv,Ones] using h1,fun i u y hu hy=>?_⟩
  rw[hv] at hu
  cases i with
  | zero=>simp[AV.cells] at hu hy;subst hu;subst hy;exact .imm _ h1
  | succ i=>simp at hu
 | slice p n cap sz es vs hn hc hm hs h1 hr hl h=>
  refine⟨by simp[Value.cells,AV.cells],by simp[Value.cells,Ones,Value.oneCell'],fun i u y hu hy=>?_⟩
  cases i with
  | zero=>simp[Value.cells,AV.cells] at hu hy;subst hu;subst hy;exact .slice p n cap sz es vs hn hc hm hs h1 hr hl h
  | succ i=>simp[Value.cells] at hu
 | ref b o cs vs h1 hr hl h=>
  refine⟨by simp[Value.cells,AV.cells],by simp[Value.cells,Ones,Value.oneCell'],fun i u y hu hy=>?_⟩
  cases i with
  | zero=>simp[Value.cells,AV.cells] at hu hy;subst hu;subst hy;exact .ref b o cs vs h1 hr hl h
  | succ i=>simp[Value.cells] at hu
 | fn f vf vc first caps hl hl2 h h2=>
  refine⟨by simp[Value.cells,AV.cells],by simp[Value.cells,Ones,Value.oneCell'],fun i u y hu hy=>?_⟩
  cases i with
  | zero=>simp[Value.cells,AV.cells] at hu hy;subst hu;subst hy;exact .fn f vf vc first caps hl hl2 h h2
  | succ i=>simp[Value.cells] at hu
 | iface t v x h=>
  refine⟨by simp[Value.cells,AV.cells],by simp[Value.cells,Ones,Value.oneCell'],fun i u y hu hy=>?_⟩
  cases i with
  | zero=>simp[Value.cells,AV.cells] at hu hy;subst hu;subst hy;exact .iface t v x h
  | succ i=>simp[Value.cells] at hu
 | mp kp r ents clk es0 es hz hb hl hp hm h h2=>
  refine⟨by simp[Value.cells,AV.cells],by simp[Value.cells,Ones,Value.oneCell'],fun i u y hu hy=>?_⟩
  cases i with
  | zero=>simp[Value.cells,AV.cells] at hu hy;subst hu;subst hy;exact .mp kp r ents clk es0 es hz hb hl hp hm h h2
  | succ i=>simp[Value.cells] at hu
inductive EV where
 | dead
 | p (x:AV)
 | loc (k off:Nat)
 | own (sz:Nat) (es:List AV) (k:Nat)
 | full (sz:Nat) (es:List AV)
 | eptr (sz:Nat) (x:AV)
 | arr (sz k off n:Nat)
 | agg (cs:List EV)
 | fn (f:Fn) (first caps:List EV)
 | tup (vs:List EV)
 | mtok (k:Nat)
 deriving Inhabited
structure Ext where
 Z:Fz
 φ:(Nat→Prop)→World→Prop
 st:∀ D w w',φ D w→(∀ b,D b→w'.heap[b]?=w.heap[b]?)→φ D w'
 lt:∀ D w b,φ D w→D b→b<w.heap.size
 ne:∀ D w,φ D w→∃ b,D b
 zk:∀ D w b o v,φ D w→Z b o=some v→w.pk b o=some v
inductive AObj where
 | gone
 | lost
 | box (t:TypeId) (cs:List EV)
 | tail (n:Nat)
 | map (kp:KP) (es:List (AV×AV))
 | ext (e:Ext)
 deriving Inhabited
structure Gh where
 fz:Fz
 blk:Nat→Nat
 lo:Nat→Nat
 hi:Nat→Nat
 dom:Nat→Prop:=fun _=>False
abbrev Hp:=Nat→AObj
inductive ERep(g:Gh)(H:Hp):Value→EV→Prop
 | dead (v:Value):ERep g H v .dead
 | p (v:Value) (x:AV) (h:Rep g.fz v x):ERep g H v (.p x)
 | loc (k off b:Nat) (h:H k=.lost∨(b=g.blk k∧∃ t cs,H k=.box t cs)):ERep g H (.pointer (some ⟨b,off,none⟩)) (.loc k off)
 | own (p:Option Addr) (n cap sz:Nat) (es:List AV) (k m:Nat) (h:Rep g.fz (.slice p n cap) (.slice sz es)) (hk:H k=.tail m) (hm:n≤m)
  (hr:n=m→cap=n∨∃ o,p=some ⟨g.blk k,o,none⟩∧o+n*sz=g.lo k∧o+cap*sz=g.hi k):ERep g H (.slice p n cap) (.own sz es k)
 | full (p:Option Addr) (n sz:Nat) (es:List AV) (h:Rep g.fz (.slice p n n) (.slice sz es)):ERep g H (.slice p n n) (.full sz es)
 | eptr (b o sz:Nat) (x:AV) (hs:x.cells.length=sz) (h:Rep g.fz (.pointer (some ⟨b,o,none⟩)) (.ref x.cells)):ERep g H (.pointer (some ⟨b,o,none⟩)) (.eptr sz x)
 | arr (p:Option Addr) (sz k off n cap:Nat) (hc:n≤cap) (hm:n≤9223372036854775807) (hn:n≠0→∃ b,p=some ⟨b,off,none⟩)
  (h:H k=.lost∨∃ t cs,H k=.box t cs∧off+n*sz≤cs.length∧((0<g.hi k∧p=some ⟨g.blk k,off,none⟩∧off+cap*sz≤g.hi k)∨(g.hi k=0∧cap=0))):ERep g H (.slice p n cap) (.arr sz k off n)
 | agg (vs:List Value) (cs:List EV) (h1:Ones vs) (hl:vs.length=cs.length) (h:∀ (i:Nat) v x,vs[i]?=some v→cs[i]?=some x→ERep g H v x):ERep g H (.agg vs.toArray) (.agg cs)
 | fn (f:Fn) (vf vc:List Value) (first caps:List EV) (hl:vf.length=first.length) (hl2:vc.length=caps.length)
  (h:∀ (i:Nat) v x,vf[i]?=some v→first[i]?=some x→ERep g H v x) (h2:∀ (i:Nat) v x,vc[i]?=some v→caps[i]?=some x→ERep g H v x):ERep g H (.func f vf.toArray vc.toArray) (.fn f first caps)
 | tup (vs:List Value) (xs:List EV) (hl:vs.length=xs.length) (h:∀ (i:Nat) v x,vs[i]?=some v→xs[i]?=some x→ERep g H v x):ERep g H (.tuple vs.toArray) (.tup xs)
 | mtok (k r:Nat) (h:H k=.lost∨(r=g.blk k∧∃ kp es,kp≠.iter∧H k=.map kp es)):ERep g H (.map (some r)) (.mtok k)
 | itok (k r:Nat) (h:H k=.lost∨(r=g.blk k∧∃ es,H k=.map .iter es)):ERep g H (.pointer (some ⟨r,0,none⟩)) (.mtok k)
structure GLe(g:Gh)(H:Hp)(g':Gh)(H':Hp):Prop where
 fz:FzLe g.fz g'.fz
 box:∀ k t cs,H k=.box t cs→H' k=.lost∨(g'.blk k=g.blk k∧g'.hi k=g.hi k∧∃ cs',H' k=.box t cs'∧cs'.length=cs.length)
 lost:∀ k,H k=.lost→H' k=.lost
 tail:∀ k m,H k=.tail m→∃ m',H' k=.tail m'∧m≤m'∧(m=m'→g'.blk k=g.blk k∧g'.lo k=g.lo k∧g'.hi k=g.hi k)
 map:∀ k kp es,H k=.map kp es→H' k=.lost∨(g'.blk k=g.blk k∧∃ es',H' k=.map kp es')
theorem GLe.refl(g:Gh)(H:Hp):GLe g H g H:=⟨FzLe.refl _,fun k t cs h=>.inr ⟨rfl,rfl,cs,h,rfl⟩,fun _ h=>h,fun k m h=>⟨m,h,Nat.le_refl _,fun _=>⟨rfl,rfl,rfl⟩⟩,fun k kp es h=>.inr ⟨rfl,es,h⟩⟩
theorem GLe.trans{g H g' H' g'' H''}(a:GLe g H g' H')(b:GLe g' H' g'' H''):GLe g H g'' H'':=by
 refine⟨a.fz.trans b.fz,fun k t cs h=>?_,fun k h=>b.lost k (a.lost k h),fun k m h=>?_,fun k kp es h=>?_⟩
 ·rcases a.box k t cs h with h1 | ⟨h1,h0,cs',h2,h3⟩
  ·exact .inl (b.lost k h1)
  ·rcases b.box k t cs' h2 with k1 | ⟨k1,k0,cs'',k2,k3⟩
   ·exact .inl k1
   ·exact .inr ⟨k1.trans h1,k0.trans h0,cs'',k2,k3.trans h3⟩
 ·obtain⟨m',h1,h2,h3⟩:=a.tail k m h
  obtain⟨m'',k1,k2,k3⟩:=b.tail k m' h1
  refine⟨m'',k1,Nat.le_trans h2 k2,fun e=>?_⟩
  obtain⟨x1,x2,x3⟩:=h3 (by omega)
  obtain⟨y1,y2,y3⟩:=k3 (by omega)
  exact⟨y1.trans x1,y2.trans x2,y3.trans x3⟩
 ·rcases a.map k kp es h with h1 | ⟨h1,es',h2⟩
  ·exact .inl (b.lost k h1)
  ·rcases b.map k kp es' h2 with k1 | ⟨k1,es'',k2⟩
   ·exact .inl k1
   ·exact .inr ⟨k1.trans h1,es'',k2⟩
theorem ERep.mono{g H g' H'}(hl:GLe g H g' H'){v:Value}{x:EV}(h:ERep g H v x):ERep g' H' v x:=by
 induction h with
 | dead v=>exact .dead v
 | p v x h=>exact .p v x (h.mono hl.fz)
 | loc k off b h=>
  rcases h with h | ⟨rfl,t,cs,h⟩
  ·exact .loc k off b (.inl (hl.lost k h))
  ·rcases hl.box k t cs h with h0 | ⟨h1,_,cs',h2,_⟩
   ·exact .loc k off _ (.inl h0)
   ·exact .loc k off _ (.inr ⟨h1.symm,t,cs',h2⟩)
 | own p n cap sz es k m h hk hm hr=>
  obtain⟨m',h1,h2,h3⟩:=hl.tail k m hk
  refine .own p n cap sz es k m' (h.mono hl.fz) h1 (by omega) fun e=>?_
  obtain⟨x1,x2,x3⟩:=h3 (by omega)
  rw[x1,x2,x3];exact hr (by omega)
 | full p n sz es h=>exact .full p n sz es (h.mono hl.fz)
 | eptr b o sz x hs h=>exact .eptr b o sz x hs (h.mono hl.fz)
 | arr p sz k off n cap hc hm hn h=>
  refine .arr p sz k off n cap hc hm hn ?_
  rcases h with h | ⟨t,cs,h,hb,hp⟩
  ·exact .inl (hl.lost k h)
  ·rcases hl.box k t cs h with h0 | ⟨h1,h0,cs',h2,h3⟩
   ·exact .inl h0
   ·exact .inr ⟨t,cs',h2,by omega,by rw[h1,h0];exact hp⟩
 | agg vs cs h1 hl2 _ ih=>exact .agg vs cs h1 hl2 ih
 | fn f vf vc first caps h1 h2 _ _ ih1 ih2=>exact .fn f vf vc first caps h1 h2 ih1 ih2
 | tup vs xs h1 _ ih=>exact .tup vs xs h1 ih
 | mtok k r h=>
  rcases h with h | ⟨rfl,kp,es,hn,h⟩
  ·exact .mtok k r (.inl (hl.lost k h))
  ·rcases hl.map k kp es h with h0 | ⟨h1,es',h2⟩
   ·exact .mtok k _ (.inl h0)
   ·exact .mtok k _ (.inr ⟨h1.symm,kp,es',hn,h2⟩)
 | itok k r h=>
  rcases h with h | ⟨rfl,es,h⟩
  ·exact .itok k r (.inl (hl.lost k h))
  ·rcases hl.map k .iter es h with h0 | ⟨h1,es',h2⟩
   ·exact .itok k _ (.inl h0)
   ·exact .itok k _ (.inr ⟨h1.symm,es',h2⟩)
def Bset(g:Gh)(k:Nat)(o:AObj)(b:Nat):Prop:=
 match o with
 | .gone=>False
 | .lost=>False
 | .box _ _=>0<g.hi k∧b=g.blk k
 | .tail _=>g.lo k<g.hi k∧b=g.blk k
 | .map _ _=>b=g.blk k
 | .ext _=>g.dom b
def MapIs(kp:KP)(fz:Fz)(w:World)(b:Nat)(es:List (AV×AV)):Prop:=
 ∃ (ents:Array MapEntry) (clk:Nat) (es0:List (AV×AV)),w.heap[b]?=some (.map ents clk)∧Born ents clk∧ents.size=es0.length∧es0.Perm es∧KeysOk kp es0 ∧
  (∀ (i:Nat) (e:MapEntry) (x:AV×AV),ents[i]?=some e→es0[i]?=some x→Rep fz e.key x.1)∧∀ (i:Nat) (e:MapEntry) (x:AV×AV),ents[i]?=some e→es0[i]?=some x→Rep fz e.val x.2
def IterIs(fz:Fz)(w:World)(b:Nat)(es:List (AV×AV)):Prop:=
 ∃ (kp:KP) (tot:List (AV×AV)) (idxs:List Nat) (m:Nat) (ents:Array MapEntry) (clk:Nat) (es0:List (AV×AV)) (seen:Array Nat),
  es=(.mp kp tot,.imm (.bool true))::idxs.map (fun i=>es0.getD i (.imm (.bool true),.imm (.bool true)))∧w.heap[b]?=some (.mapIter (some m) clk seen clk)∧fz m 0=some (mapCode ents clk)∧Born ents clk∧ents.size=es0.length∧es0.Perm tot∧KeysOk kp es0 ∧
  idxs.Nodup∧(∀ i∈idxs,i<es0.length)∧seen.toList.reverse=idxs.map (fun i=>(ents.toList.map (·.born)).getD i 0) ∧
  (∀ (i:Nat) (e:MapEntry) (x:AV×AV),ents[i]?=some e→es0[i]?=some x→Rep fz e.key x.1)∧∀ (i:Nat) (e:MapEntry) (x:AV×AV),ents[i]?=some e→es0[i]?=some x→Rep fz e.val x.2
def ObjOk(g:Gh)(H:Hp)(w:World)(k:Nat)(o:AObj):Prop:=
 match o with
 | .gone=>True
 | .lost=>True
 | .box t cs=>(g.hi k=0→cs=[])∧(0<g.hi k→∃ vs:List Value,w.heap[g.blk k]?=some (.cells vs.toArray t (0,0))∧(vs.length=g.hi k∧cs.length≤vs.length)∧Ones vs∧(∀ (i:Nat) v x,vs[i]?=some v→cs[i]?=some x→ERep g H v x)∧∀ o,g.fz (g.blk k) o=none)
 | .tail _=>g.lo k<g.hi k→∃ (vs:Array Value) (t:TypeId),w.heap[g.blk k]?=some (.cells vs t (0,0))∧g.hi k≤vs.size∧∀ o,g.lo k≤o→o<g.hi k→g.fz (g.blk k) o=none
 | .map kp es=>((kp≠.iter→MapIs kp g.fz w (g.blk k) es)∧(kp=.iter→IterIs g.fz w (g.blk k) es)∧∃ x,w.heap[g.blk k]?=some x)∧∀ o,g.fz (g.blk k) o=none
 | .ext e=>e.φ g.dom w∧∀ b o v,g.dom b→g.fz b o=some v→e.Z b o=some v
structure WInv(g:Gh)(H:Hp)(w:World):Prop where
 fz:∀ b o v,g.fz b o=some v→w.pk b o=some v
 obj:∀ k,ObjOk g H w k (H k)
 inj:∀ k j b,Bset g k (H k) b→Bset g j (H j) b→k=j
theorem WInv.fz_lt{g H w}(h:WInv g H w){b o:Nat}{v:Value}(hz:g.fz b o=some v):b<w.heap.size:=pk_lt (h.fz b o v hz)
theorem lt_of_heap{w:World}{b:Nat}{o:Obj}(h:w.heap[b]?=some o):b<w.heap.size:=by
 rcases Nat.lt_or_ge b w.heap.size with h' | h'
 ·exact h'
 ·rw[Array.getElem?_eq_none h'] at h;cases h
theorem WInv.blk_lt{g H w}(h:WInv g H w){k b:Nat}(hb:Bset g k (H k) b):b<w.heap.size:=by
 have ho:=h.obj k
 generalize H k=o at *
 cases o with
 | gone=>exact hb.elim
 | lost=>exact hb.elim
 | box t cs=>obtain⟨hlt,rfl⟩:=hb;obtain⟨vs,hv,_⟩:=ho.2 hlt;exact lt_of_heap hv
 | tail n=>obtain⟨hlt,rfl⟩:=hb;obtain⟨vs,t,hv,_⟩:=ho hlt;exact lt_of_heap hv
 | map kp es=>obtain rfl:b=g.blk k:=hb;obtain⟨⟨_,_,_,hv⟩,_⟩:=ho;exact lt_of_heap hv
 | ext e=>exact e.lt _ _ _ ho.1 hb
structure Kept(X:Nat→Prop)(w w':World):Prop where
 os:w'.os=w.os
 tape:w'.tape=w.tape
 output:w'.output=w.output
 size:w.heap.size≤w'.heap.size
 block:∀ k,k<w.heap.size→¬ X k→w'.heap[k]?=w.heap[k]?
theorem Kept.refl(X:Nat→Prop)(w:World):Kept X w w:=⟨rfl,rfl,rfl,Nat.le_refl _,fun _ _ _=>rfl⟩
theorem Kept.trans{X Y:Nat→Prop}{a b c:World}(h:Kept X a b)(k:Kept Y b c)(hY:∀ i,i<a.heap.size→Y i→X i):Kept X a c:=
 ⟨k.os.trans h.os,k.tape.trans h.tape,k.output.trans h.output,Nat.le_trans h.size k.size,
  fun i hi hx=>(k.block i (Nat.lt_of_lt_of_le hi h.size) (fun hy=>hx (hY i hi hy))).trans (h.block i hi hx)⟩
theorem Kept.below{w w':World}(h:Kept (fun _=>False) w w'):Below w.heap.size w w':=⟨h.os,h.tape,h.output,h.size,fun k hk=>h.block k hk id⟩
theorem Kept.of_below{w w':World}(h:Below w.heap.size w w'):Kept (fun _=>False) w w':=⟨h.os,h.tape,h.output,h.size,fun k hk _=>h.block k hk⟩
theorem Kept.alloc(X:Nat→Prop)(w:World)(o:Obj):Kept X w (w.alloc o):=⟨rfl,rfl,rfl,by simp,fun k hk _=>Below.heap_alloc _ _ _ hk⟩
theorem Kept.drew(X:Nat→Prop)(w:World):Kept X w w.drew:=⟨rfl,rfl,rfl,Nat.le_refl _,fun _ _ _=>rfl⟩
theorem Kept.setRow(X:Nat→Prop)(w:World)(g:Nat)(cs:Array Value)(h:X g):Kept X w (w.setRow g cs):=
 ⟨rfl,rfl,rfl,by simp,fun k hk hx=>setRow_other _ _ _ _ (fun e=>hx (e▸h))⟩
theorem Kept.mono{X Y:Nat→Prop}{w w':World}(h:Kept X w w')(hY:∀ i,i<w.heap.size→X i→Y i):Kept Y w w':=⟨h.os,h.tape,h.output,h.size,fun k hk hx=>h.block k hk fun hX=>hx (hY k hk hX)⟩
theorem Kept.pk{X:Nat→Prop}{w w':World}(h:Kept X w w'){b o:Nat}{v:Value}(hc:w.pk b o=some v)(hx:¬ X b):w'.pk b o=some v:=by
 rw[pk_congr (h.block b (pk_lt hc) hx)];exact hc
theorem Kept.cell{X:Nat→Prop}{w w':World}(h:Kept X w w'){b o:Nat}{v:Value}(hc:w.cell? ⟨b,o,none⟩=some v)(hx:¬ X b):w'.cell? ⟨b,o,none⟩=some v:=by
 rw[World.cell?_of_block (w:=w) (h.block b (World.block_lt_of_cell? _ _ hc) hx)];exact hc
structure Ctx where
 w0:World
 g0:Gh
 os0:Hp
 ntmps:Nat
 dfs:List Deferred
 rd:Option Nat
def Ctx.X(Γ:Ctx)(b:Nat):Prop:=∃ k,Bset Γ.g0 k (Γ.os0 k) b
structure Fr(Γ:Ctx)(g:Gh)(H:Hp)(w:World):Prop where
 kept:Kept Γ.X Γ.w0 w
 fz:FzLe Γ.g0.fz g.fz
 low:∀ b,b<Γ.w0.heap.size→¬ Γ.X b→g.fz b=Γ.g0.fz b
 own:∀ k b,Bset g k (H k) b→Γ.X b∨Γ.w0.heap.size≤b
 box:∀ k t cs,Γ.os0 k=.box t cs→H k=.lost∨∃ cs',H k=.box t cs'∧cs'.length=cs.length∧g.blk k=Γ.g0.blk k∧g.hi k=Γ.g0.hi k
 map:∀ k kp es,Γ.os0 k=.map kp es→H k=.lost∨∃ es',H k=.map kp es'∧g.blk k=Γ.g0.blk k
 tail:∀ k m,Γ.os0 k=.tail m→∃ m',H k=.tail m'∧m≤m'∧(m=m'→g.blk k=Γ.g0.blk k∧g.lo k=Γ.g0.lo k∧g.hi k=Γ.g0.hi k)
structure TI where
 kind:Nat
 size:Nat
 bytes:Nat
 zero:List EV
 flds:List (Nat×Nat×Nat):=[]
 elem:Nat:=0
 esz:Nat:=0
 ebytes:Nat:=0
 ezero:List EV:=[]
 len:Nat:=0
 ik:IntKind:=.i64
 mkey:Nat:=0
 kp:KP:=.str
def TI.agg(i:TI):Bool:=Nat.beq i.kind 1||Nat.beq i.kind 2
abbrev Tab:=List (Nat×TI)
def Tab.get:Tab→Nat→Option TI
 | [],_=>none
 | (k,i)::r,t=>bif Nat.beq k t then some i else Tab.get r t
def zCell:Value→EV→Bool
 | .slice none 0 0,.full _ []=>true
 | .int k n,.p (.imm (.int k' n'))=>decide (k=k')&&decide (n=n')
 | .bool b,.p (.imm (.bool b'))=>decide (b=b')
 | .string s,.p (.imm (.string s'))=>Nat.beq s.data.size 0&&Nat.beq s'.data.size 0
 | .pointer none,.p (.imm (.pointer none))=>true
 | .nilIface,.p (.imm .nilIface)=>true
 | .nilFunc,.p (.imm .nilFunc)=>true
 | .map none,.p (.imm (.map none))=>true
 | _,_=>false
def zCells:List Value→List EV→Bool
 | [],[]=>true
 | v::r,e::s=>zCell v e&&zCells r s
 | _,_=>false
def zOk:Option Value→List EV→Bool
 | some v,l=>zCells v.cells.toList l
 | none,_=>false
def elemOk(P:Program)(i:TI)(e:TypeId):Bool:=
 Nat.beq e i.elem&&(match P.info? e with | some ie=>Nat.beq ie.size i.esz&&Nat.beq ie.bytes i.ebytes&&zOk ie.zero i.ezero | none=>false)
def fldsOk(P:Program):List Field→List (Nat×Nat×Nat)→Bool
 | [],[]=>true
 | f::r,(o,t,s)::l=>Nat.beq f.offset o&&Nat.beq f.type t&&(match P.info? f.type with | some i=>Nat.beq i.size s&&!(Nat.beq s 0) | none=>false)&&fldsOk P r l
 | _,_=>false
def intFlds(P:Program):List Field→List IntKind→Nat→Bool
 | [],[],_=>true
 | f :: r, k :: ks, o => f.name != "_" && Nat.beq f.offset o && (match P.underlying f.type with | some (.int k') => decide (k = k') | _ => false) && intFlds P r ks (o + 1)
 | _,_,_=>false
def kpOk(P:Program)(t:TypeId):KP→Bool
 | .int k=>(match P.underlying t with | some (.int k')=>decide (k=k') | _=>false)
 | .str=>(match P.underlying t with | some .string=>true | _=>false)
 | .ints ks=>(match P.underlying t with
  | some (.array n e)=>(match P.underlying e,P.info? e with | some (.int k),some ie=>Nat.beq ie.size 1&&decide (ks=List.replicate n k) | _,_=>false)
  | some (.struct fs)=>!P.stoodInHeld t&&intFlds P fs.toList ks 0
  | _=>false)
 | .iter=>false
def zform(P:Program)(e:TypeId):Bool:=
 match P.info? e,P.underlying e with
 | some ie,some d=>(match ie.zero with | some (.agg _)=>d.isRow | some (.tuple _)=>false | some _=>!d.isRow | none=>false)
 | _,_=>false
def tiOk(P:Program)(t:TypeId)(i:TI):Bool:=
 match P.info? t,P.underlying t with
 | some inf,some d=>Nat.beq inf.size i.size&&Nat.beq inf.bytes i.bytes&&zOk inf.zero i.zero &&
  (match i.kind,d with
   | 1,.struct fs=>fldsOk P fs.toList i.flds
   | 2,.array n e=>Nat.beq n i.len&&elemOk P i e
   | 3,.slice e=>elemOk P i e&&Nat.beq i.size 1
   | 4,.string=>Nat.beq i.size 1
   | 5,.bool=>Nat.beq i.size 1
   | 6,.int k=>decide (k=i.ik)&&Nat.beq i.size 1
   | 7,.map k e=>Nat.beq k i.mkey&&elemOk P i e&&kpOk P k i.kp&&zform P e&&Nat.beq i.size 1
   | 0,.struct _=>false
   | 0,.array _ _=>false
   | 0,.slice _=>false
   | 0,.string=>false
   | 0,.bool=>false
   | 0,.int _=>false
   | 0,_=>Nat.beq i.size 1
   | _,_=>false)
 | _,_=>false
def tabOk(P:Program)(T:Tab):Bool:=T.all fun x=>tiOk P x.1 x.2
def TabOk(P:Program)(T:Tab):Prop:=∀ t i,T.get t=some i→tiOk P t i=true
theorem Tab.get_mem{T:Tab}{t:Nat}{i:TI}(h:T.get t=some i):(t,i)∈T:=by
 induction T with
 | nil=>cases h
 | cons x r ih=>
  obtain⟨k,j⟩:=x
  simp only[Tab.get] at h
  cases hk:Nat.beq k t with
  | true=>
   rw[hk] at h
   have:=nbt hk
   simp at h;subst h;subst this;simp
  | false=>rw[hk] at h;exact List.mem_cons_of_mem _ (ih h)
theorem TabOk.of{P:Program}{T:Tab}(h:tabOk P T=true):TabOk P T:=fun t i hi=>List.all_eq_true.1 h _ (Tab.get_mem hi)
def ogo{α:Type}(o:Option α)(k:α→Prop):Prop:=match o with | some x=>k x | none=>False
def ogo2(o:Option (Nat×List AV))(k:Nat→List AV→Prop):Prop:=match o with | some (a,b)=>k a b | none=>False
def ogo3(o:Option (Nat×Nat×Nat))(k:Nat→Nat→Prop):Prop:=match o with | some (a,b,_)=>k a b | none=>False
def bgo(b:Bool)(A B:Prop):Prop:=match b with | true=>A | false=>B
def ngo(v:Int)(k:Int→Prop):Prop:=∃ r,v=r∧k r
def igo(es:List AV)(i:Int)(k:AV→Prop):Prop:=∃ (n:Nat) (x:AV),i=n∧es[n]?=some x∧k x
def nth{α:Type}:List α→Nat→Option α
 | [],_=>none
 | x::_,0=>some x
 | _::r,n+1=>nth r n
theorem nth_eq{α:Type}(l:List α)(n:Nat):nth l n=l[n]?:=by
 induction l generalizing n with
 | nil=>rfl
 | cons x r ih=>cases n with
  | zero=>rfl
  | succ n=>simpa[nth] using ih n
theorem bgs{b:Bool}{A B:Prop}(h1:b=true→A)(h2:b=false→B):bgo b A B:=by cases b;exact h2 rfl;exact h1 rfl
theorem bgo_true{b:Bool}{A B:Prop}(h:b=true)(h1:A):bgo b A B:=by subst h;exact h1
theorem bgo_false{b:Bool}{A B:Prop}(h:b=false)(h1:B):bgo b A B:=by subst h;exact h1
theorem ogo_out{α:Type}{o:Option α}{k:α→Prop}(h:ogo o k):∃ x,o=some x∧k x:=by
 cases o with
 | none=>exact h.elim
 | some x=>exact⟨x,rfl,h⟩
theorem ogo2_out{o:Option (Nat×List AV)}{k:Nat→List AV→Prop}(h:ogo2 o k):∃ x,o=some x∧k x.1 x.2:=by
 cases o with
 | none=>exact h.elim
 | some x=>exact⟨x,rfl,h⟩
theorem ogo3_out{o:Option (Nat×Nat×Nat)}{k:Nat→Nat→Prop}(h:ogo3 o k):∃ x,o=some x∧k x.1 x.2.1:=by
 cases o with
 | none=>exact h.elim
 | some x=>exact⟨x,rfl,h⟩
theorem bgo_out{b:Bool}{A B:Prop}(h:bgo b A B):(b=true∧A)∨(b=false∧B):=by
 cases b
 ·exact .inr ⟨rfl,h⟩
 ·exact .inl ⟨rfl,h⟩
theorem bgo_outT{b:Bool}{A:Prop}(h:bgo b A False):b=true∧A:=by
 rcases bgo_out h with h | h
 ·exact h
 ·exact h.2.elim
abbrev Env:=List (Nat×EV)
abbrev AHp:=List (Nat×AObj)
abbrev Fp:=List Nat×List Nat
def lk:Env→Nat→EV
 | [],_=>.dead
 | (k,x)::r,t=>bif Nat.beq k t then x else lk r t
def hp:AHp→Nat→AObj
 | [],_=>.gone
 | (k,x)::r,t=>bif Nat.beq k t then x else hp r t
def nofp:Fp:=([],[])
theorem lk_cons(k:Nat)(x:EV)(r:Env)(t:Nat):lk ((k,x)::r) t=if t=k then x else lk r t:=by
 simp only[lk]
 by_cases h:t=k
 ·subst h;simp[Nat.beq_refl]
 ·have:Nat.beq k t=false:=by
   cases hb:Nat.beq k t with
   | false=>rfl
   | true=>exact absurd (nbt hb).symm h
  simp[this,h]
theorem hp_cons(k:Nat)(x:AObj)(r:AHp)(t:Nat):hp ((k,x)::r) t=if t=k then x else hp r t:=by
 simp only[hp]
 by_cases h:t=k
 ·subst h;simp[Nat.beq_refl]
 ·have:Nat.beq k t=false:=by
   cases hb:Nat.beq k t with
   | false=>rfl
   | true=>exact absurd (nbt hb).symm h
  simp[this,h]
def constEV(T:Tab)(ty:Nat):Value→EV
 | .slice none 0 0=>.full (match T.get ty with | some i=>i.esz | none=>0) []
 | .agg _=>.dead
 | .tuple _=>.dead
 | v=>.p (.imm v)
def opv(T:Tab)(env:Env)(ty:Nat):Operand→EV
 | .tmp t=>lk env t
 | .const v=>constEV T ty v
 | .func f=>.p (.fn (.func f) [] [])
 | .global _=>.dead
def toP:EV→Option AV
 | .p x=>some x
 | .own sz es _=>some (.slice sz es)
 | .full sz es=>some (.slice sz es)
 | .eptr _ x=>some (.ref x.cells)
 | .agg cs=>(toPl cs).map .agg
 | .fn f a b=>match toPl a,toPl b with | some x,some y=>some (.fn f x y) | _,_=>none
 | _=>none
where toPl:List EV→Option (List AV)
 | []=>some []
 | e::r=>match toP e,toPl r with | some x,some l=>some (x::l) | _,_=>none
abbrev toPs:=toP.toPl
def cellsOf:EV→Option (List EV)
 | .p x=>some (x.cells.map .p)
 | .agg cs=>some cs
 | .dead=>none
 | .tup _=>none
 | e=>some [e]
def setSeg{α:Type}(cs:List α)(off:Nat):List α→List α
 | []=>cs
 | v::r=>setSeg (cs.set off v) (off+1) r
def slOf:EV→Option (Nat×List AV)
 | .p (.slice sz es)=>some (sz,es)
 | .p (.imm (.slice _ 0 _))=>some (1,[])
 | .own sz es _=>some (sz,es)
 | .full sz es=>some (sz,es)
 | _=>none
def okE(h:AHp):EV→Bool
 | .loc k _=>match hp h k with | .box _ _=>true | _=>false
 | .arr _ k _ _=>match hp h k with | .box _ _=>true | _=>false
 | .own _ _ k=>match hp h k with | .tail _=>true | _=>false
 | .mtok k=>match hp h k with | .map _ _=>true | _=>false
 | .agg cs=>okL cs
 | .fn _ a b=>okL a&&okL b
 | .tup vs=>okL vs
 | _=>true
where okL:List EV→Bool
 | []=>true
 | e::r=>okE h e&&okL r
theorem okL_mem{h:AHp}:∀ {l:List EV},okE.okL h l=true→∀ x∈l,okE h x=true
 | [],_,x,hx=>by cases hx
 | e::r,hl,x,hx=>by
  simp only[okE.okL,Bool.and_eq_true] at hl
  rcases List.mem_cons.1 hx with rfl | hx
  ·exact hl.1
  ·exact okL_mem hl.2 x hx
def upd{α:Type}(f:Nat→α)(k:Nat)(x:α):Nat→α:=fun j=>if j=k then x else f j
@[simp] theorem upd_same {α:Type} (f:Nat→α) (k:Nat) (x:α):upd f k x k=x:=by simp[upd]
theorem upd_ne{α:Type}{f:Nat→α}{k j:Nat}{x:α}(h:j≠k):upd f k x j=f j:=by simp[upd,h]
theorem Rep.val{fz:Fz}{v u:Value}(h:Rep fz v (.imm u)):v=u:=by cases h;rfl
theorem ERep.val{g H}{v u:Value}(h:ERep g H v (.p (.imm u))):v=u:=by cases h with | p _ _ h=>exact h.val
theorem Rep.ref_drop{fz:Fz}{b o:Nat}{cs:List AV}(h:Rep fz (.pointer (some ⟨b,o,none⟩)) (.ref cs))(n:Nat):Rep fz (.pointer (some ⟨b,o+n,none⟩)) (.ref (cs.drop n)):=by
 cases h with
 | ref _ _ _ vs h1 hr hl h=>
  refine .ref b (o+n) (cs.drop n) (vs.drop n) (fun v hv=>h1 v (List.mem_of_mem_drop hv)) (fun i v hv=>?_) (by simp[hl]) fun i v x hv hx=>?_
  ·rw[List.getElem?_drop] at hv
   obtain⟨b',o',hp,hz⟩:=hr _ _ hv
   cases hp
   exact⟨b,o+n,rfl,by rw[Nat.add_assoc];exact hz⟩
  ·rw[List.getElem?_drop] at hv hx
   exact h _ _ _ hv hx
theorem Rep.elem{fz:Fz}{p:Option Addr}{n cap sz:Nat}{es:List AV}(h:Rep fz (.slice p n cap) (.slice sz es))(hz:0<sz){i:Nat}{x:AV}(hx:es[i]?=some x):
 i<n∧∃ b o,p=some ⟨b,o,none⟩∧x.cells.length=sz∧Rep fz (.pointer (some ⟨b,o+i*sz,none⟩)) (.ref x.cells):=by
 cases h with
 | slice _ _ _ _ _ vs hn hc hm hs h1 hr hl h=>
  have hi:i<es.length:=by
   rcases Nat.lt_or_ge i es.length with h' | h'
   ·exact h'
   ·rw[List.getElem?_eq_none h'] at hx;cases hx
  have hxs:x.cells.length=sz:=hs x (List.mem_of_getElem? hx)
  have hfl:=flat_length hs
  have hle:i*sz+sz≤es.length*sz:=by rw[← Nat.succ_mul];exact Nat.mul_le_mul_right _ hi
  have hv0:i*sz<vs.length:=by rw[hl,hfl];omega
  obtain⟨b,o,rfl,_⟩:=hr (i*sz) _ (List.getElem?_eq_getElem hv0)
  refine⟨by omega,b,o,rfl,hxs,?_⟩
  refine .ref b (o+i*sz) x.cells ((vs.drop (i*sz)).take sz) (fun v hv=>h1 v (List.mem_of_mem_drop (List.mem_of_mem_take hv))) (fun j v hv=>?_) ?_ fun j v y hv hy=>?_
  ·rw[List.getElem?_take] at hv
   split at hv
   ·rw[List.getElem?_drop] at hv
    obtain⟨b',o',hp,hz'⟩:=hr _ _ hv
    cases hp
    exact⟨b,o+i*sz,rfl,by rw[Nat.add_assoc];exact hz'⟩
   ·cases hv
  ·rw[List.length_take,List.length_drop,hxs,hl,hfl];omega
  ·rw[List.getElem?_take] at hv
   split at hv
   ·rename_i hj
    rw[List.getElem?_drop] at hv
    exact h _ _ _ hv (by rw[flat_get hs hx hj];exact hy)
   ·cases hv
theorem Rep.ref_row{fz:Fz}{v:Value}{cs:List AV}(h:Rep fz v (.ref cs)):∃ b o vs,v=.pointer (some ⟨b,o,none⟩)∧Ones vs∧vs.length=cs.length∧(∀ i v,vs[i]?=some v→fz b (o+i)=some v)∧∀ (i:Nat) v x,vs[i]?=some v→cs[i]?=some x→Rep fz v x:=by
 cases h with
 | ref b o _ vs h1 hr hl h=>
  exact⟨b,o,vs,rfl,h1,hl,fun i v hv=>by obtain⟨b',o',hp,hz⟩:=hr i v hv;cases hp;exact hz,h⟩
section
variable {P:Program}
theorem run_loadAt_one(w:World)(b o:Nat)(ty:TypeId)(v:Value)(d:TypeDesc)(hc:w.cell? ⟨b,o,none⟩=some v)(hu:P.underlying ty=some d)(hd:d.isRow=false):
 (Instr.loadAt ty (.pointer (some ⟨b,o,none⟩))).run P w=.ok v w:=by
 have hagg:(isAgg ty).run P w=.ok false w:=by
  unfold isAgg
  rw[Sem.run_bind,run_underlying hu w]
  cases d <;> simp_all
 simp[Instr.loadAt,Instr.sureAddr,loadVar,Sem.run_bind,hagg,run_load,hc]
theorem run_storeAt_row(w:World)(b o:Nat)(ty t:TypeId)(cur:Array Value)(v:Value)(hg:w.heap[b]?=some (.cells cur t (0,0)))(hi:(P.info? ty).map (·.size)=some v.cells.toList.length)
 (hb:o+v.cells.toList.length≤cur.size)(h1:Ones v.cells.toList):
 (Instr.storeAt ty (.pointer (some ⟨b,o,none⟩)) v).run P w=.ok () (w.setRow b (cur.toList.take o++v.cells.toList++cur.toList.drop (o+v.cells.toList.length)).toArray):=by
 have hst:=run_storeCells_at P b o t v.cells.toList 0 cur w hg (by simpa using hb) h1
 simp only[Nat.add_zero] at hst
 cases hq:P.info? ty with
 | none=>simp[hq] at hi
 | some i=>
  have hs:v.cells.size=i.size:=by simp[hq] at hi;omega
  simp[Instr.storeAt,Instr.sureAddr,storeVar,sizeOf,typeInfo,hq,hs,hst]
end
theorem setSeg_length{α:Type}(vs:List α):∀ (cs:List α) (o:Nat),(setSeg cs o vs).length=cs.length:=by
 induction vs with
 | nil=>intro cs o;rfl
 | cons v r ih=>intro cs o;simp[setSeg,ih]
theorem setSeg_eq{α:Type}(vs:List α):∀ (cs:List α) (o:Nat),o+vs.length≤cs.length→setSeg cs o vs=cs.take o++vs++cs.drop (o+vs.length):=by
 induction vs with
 | nil=>intro cs o _;simp[setSeg]
 | cons v r ih=>
  intro cs o h
  simp only[List.length_cons] at h
  rw[setSeg,ih _ _ (by simp;omega)]
  apply List.ext_getElem?
  intro i
  simp only[List.append_assoc,List.getElem?_append,List.length_take,List.length_set,List.length_cons]
  rcases Nat.lt_trichotomy i o with hi | hi | hi
  ·have h1:i<min (o+1) cs.length:=by omega
   have h2:i<min o cs.length:=by omega
   rw[if_pos h1,if_pos h2,List.getElem?_take,List.getElem?_take,if_pos (by omega),if_pos hi,List.getElem?_set,if_neg (by omega)]
  ·subst hi
   have h1:i<min (i+1) cs.length:=by omega
   have h2:¬ i<min i cs.length:=by omega
   rw[if_pos h1,if_neg h2,List.getElem?_take,if_pos (by omega),List.getElem?_set,if_pos rfl,if_pos (by omega),show i - min i cs.length=0 by omega]
   simp
  ·have h1:¬ i<min (o+1) cs.length:=by omega
   have h2:¬ i<min o cs.length:=by omega
   rw[if_neg h1,if_neg h2,show i - min o cs.length=(i - min (o+1) cs.length)+1 by omega,List.getElem?_cons_succ]
   split
   ·rename_i h3
    rw[if_pos (by omega)]
   ·rename_i h3
    rw[if_neg (by omega),List.getElem?_drop,List.getElem?_drop,List.getElem?_set,if_neg (by omega)]
    congr 1
    omega
theorem GLe.of_box{g H}{k:Nat}{t:TypeId}{cs cs':List EV}(hk:H k=.box t cs)(hl:cs'.length=cs.length):GLe g H g (upd H k (.box t cs')):=by
 refine⟨FzLe.refl _,fun j u ds h=>.inr ⟨rfl,rfl,?_⟩,fun j h=>?_,fun j m h=>⟨m,?_,Nat.le_refl _,fun _=>⟨rfl,rfl,rfl⟩⟩,fun j kp es h=>.inr ⟨rfl,es,?_⟩⟩
 ·by_cases hj:j=k
  ·subst hj;rw[hk] at h;cases h;exact⟨cs',by simp,hl⟩
  ·exact⟨ds,by rw[upd_ne hj];exact h,rfl⟩
 ·by_cases hj:j=k
  ·subst hj;rw[hk] at h;cases h
  ·rw[upd_ne hj];exact h
 ·by_cases hj:j=k
  ·subst hj;rw[hk] at h;cases h
  ·rw[upd_ne hj];exact h
 ·by_cases hj:j=k
  ·subst hj;rw[hk] at h;cases h
  ·rw[upd_ne hj];exact h
theorem Bset.upd_box{g H}{k:Nat}{t:TypeId}{cs cs':List EV}(hk:H k=.box t cs){j b:Nat}(h:Bset g j (upd H k (.box t cs') j) b):Bset g j (H j) b:=by
 by_cases hj:j=k
 ·subst hj;rw[hk];simpa[Bset] using h
 ·rwa [upd_ne hj] at h
theorem ObjOk.mono{g H g' H' w w'}(hl:GLe g H g' H'){k:Nat}{o:AObj}(h:ObjOk g H w k o)(hb:g'.blk k=g.blk k)(hlo:g'.lo k=g.lo k)(hhi:g'.hi k=g.hi k)
 (hw:∀ b,Bset g k o b→w'.heap[b]?=w.heap[b]?)(hf:∀ b,Bset g k o b→∀ x,g'.fz b x=g.fz b x)(hd:g'.dom=g.dom:=by rfl):ObjOk g' H' w' k o:=by
 cases o with
 | ext e=>exact⟨by rw[hd];exact e.st _ _ _ h.1 hw,fun b o v hb hz=>h.2 b o v (hd▸hb) (by rw[← hf b (show g.dom b from hd▸hb)];exact hz)⟩
 | gone=>trivial
 | lost=>trivial
 | box t cs=>
  refine⟨fun h0=>h.1 (hhi▸h0),fun hlt=>?_⟩
  rw[hhi] at hlt
  obtain⟨vs,h1,h2,h3,h4,h5⟩:=h.2 hlt
  refine⟨vs,by rw[hb,hw _ ⟨hlt,rfl⟩];exact h1,by rw[hhi];exact h2,h3,fun i v x hv hx=>(h4 i v x hv hx).mono hl,fun o=>?_⟩
  rw[hb,hf _ ⟨hlt,rfl⟩];exact h5 o
 | tail n=>
  intro hlt
  rw[hlo,hhi] at hlt
  obtain⟨vs,t,h1,h2,h3⟩:=h hlt
  refine⟨vs,t,by rw[hb,hw _ ⟨hlt,rfl⟩];exact h1,by rw[hhi];exact h2,fun o h4 h5=>?_⟩
  rw[hb,hf _ ⟨hlt,rfl⟩]
  exact h3 o (by omega) (by omega)
 | map kp es=>
  obtain⟨⟨h1,h2,x,h3⟩,h8⟩:=h
  have e:w'.heap[g'.blk k]?=w.heap[g.blk k]?:=by rw[hb,hw _ rfl]
  refine⟨⟨fun hn=>?_,fun hn=>?_,x,by rw[e];exact h3⟩,fun o=>by rw[hb,hf _ rfl];exact h8 o⟩
  ·obtain⟨ents,clk,es0,a1,a2,a3,a4,a5,a6,a7⟩:=h1 hn
   exact⟨ents,clk,es0,by rw[e];exact a1,a2,a3,a4,a5,fun i e x a b=>(a6 i e x a b).mono hl.fz,fun i e x a b=>(a7 i e x a b).mono hl.fz⟩
  ·obtain⟨kp',tot,idxs,m,ents,clk,es0,seen,a1,a2,a3,a4,a5,a6,a7,a8,a9,b1,b2,b3⟩:=h2 hn
   exact⟨kp',tot,idxs,m,ents,clk,es0,seen,a1,by rw[e];exact a2,hl.fz _ _ _ a3,a4,a5,a6,a7,a8,a9,b1,fun i e x a b=>(b2 i e x a b).mono hl.fz,fun i e x a b=>(b3 i e x a b).mono hl.fz⟩
theorem ObjOk.cells{g H w k t cs}(h:ObjOk g H w k (.box t cs)):∃ vs:List Value,vs.length=cs.length∧Ones vs∧(∀ (i:Nat) v x,vs[i]?=some v→cs[i]?=some x→ERep g H v x)∧∀ (i:Nat) v,vs[i]?=some v→w.cell? ⟨g.blk k,i,none⟩=some v:=by
 rcases Nat.eq_zero_or_pos (g.hi k) with h0 | h0
 ·obtain rfl:=h.1 h0
  exact⟨[],rfl,by simp[Ones],by intro i v x hv;simp at hv,by intro i v hv;simp at hv⟩
 ·obtain⟨vs,h1,h2,h3,h4,h5⟩:=h.2 h0
  refine⟨vs.take cs.length,by rw[List.length_take];omega,fun v hv=>h3 v (List.mem_of_mem_take hv),fun i v x hv hx=>?_,fun i v hv=>?_⟩
  ·rw[List.getElem?_take] at hv
   split at hv
   ·exact h4 i v x hv hx
   ·cases hv
  ·rw[List.getElem?_take] at hv
   split at hv
   ·rw[cell_of_row _ _ _ _ _ _ h1];simpa using hv
   ·cases hv
theorem WInv.setBox{g H w}(h:WInv g H w){k:Nat}{t:TypeId}{cs cs':List EV}(hk:H k=.box t cs)(hlt:0<g.hi k)(hl:cs'.length=cs.length){vs:List Value}(hv:vs.length=g.hi k)(h1:Ones vs)
 (hr:∀ (i:Nat) v x,vs[i]?=some v→cs'[i]?=some x→ERep g H v x):WInv g (upd H k (.box t cs')) (w.setRow (g.blk k) vs.toArray):=by
 have hle:GLe g H g (upd H k (.box t cs')):=GLe.of_box hk hl
 have hob:=h.obj k
 rw[hk] at hob
 obtain⟨old,ho1,ho2,ho3,ho4,ho5⟩:=hob.2 hlt
 refine⟨fun b o v hz=>?_,fun j=>?_,fun i j b h1 h2=>h.inj i j b (Bset.upd_box hk h1) (Bset.upd_box hk h2)⟩
 ·have hne:b≠g.blk k:=fun e=>by rw[e,ho5] at hz;cases hz
  rw[pk_congr (setRow_other _ _ _ _ hne)]
  exact h.fz b o v hz
 ·by_cases hj:j=k
  ·subst hj
   rw[upd_same]
   exact⟨fun h0=>by omega,fun _=>⟨vs,setRow_heap _ _ _ _ _ _ ho1,⟨hv,by omega⟩,h1,fun i v x a b=>(hr i v x a b).mono hle,ho5⟩⟩
  ·rw[upd_ne hj]
   refine(h.obj j).mono hle rfl rfl rfl (fun b hb=>setRow_other _ _ _ _ fun e=>hj ?_) fun b hb x=>rfl
   exact h.inj j k b hb (by rw[hk];exact⟨hlt,e⟩)
theorem Fr.setBox{Γ g H w}(h:Fr Γ g H w){k:Nat}{t:TypeId}{cs cs':List EV}(hk:H k=.box t cs)(hlt:0<g.hi k)(hl:cs'.length=cs.length)(vs:Array Value):Fr Γ g (upd H k (.box t cs')) (w.setRow (g.blk k) vs):=by
 refine⟨?_,h.fz,h.low,fun j b hb=>h.own j b (Bset.upd_box hk hb),fun j u ds hj=>?_,fun j kp es hj=>?_,fun j m hj=>?_⟩
 ·rcases h.own k (g.blk k) (by rw[hk];exact⟨hlt,rfl⟩) with hX | hX
  ·exact h.kept.trans (Kept.setRow (fun b=>b=g.blk k) w (g.blk k) vs rfl) fun i _ e=>e▸hX
  ·exact h.kept.trans (Kept.setRow (fun b=>b=g.blk k) w (g.blk k) vs rfl) fun i hi e=>by omega
 ·rcases h.box j u ds hj with h0 | ⟨ds',h1,h2,h3⟩
  ·left
   by_cases hjk:j=k
   ·subst hjk;rw[hk] at h0;cases h0
   ·rw[upd_ne hjk];exact h0
  ·right
   by_cases hjk:j=k
   ·subst hjk;rw[hk] at h1;cases h1;exact⟨cs',by simp,by omega,h3⟩
   ·exact⟨ds',by rw[upd_ne hjk];exact h1,h2,h3⟩
 ·have hjk:∀ {x},H j=x→x≠.box t cs→j≠k:=fun h1 h2 e=>by subst e;exact h2 (h1.symm.trans hk)
  rcases h.map j kp es hj with h0 | ⟨es',h1,h2⟩
  ·exact .inl (by rw[upd_ne (hjk h0 (by simp))];exact h0)
  ·exact .inr ⟨es',by rw[upd_ne (hjk h1 (by simp))];exact h1,h2⟩
 ·obtain⟨m',h1,h2⟩:=h.tail j m hj
  have hjk:j≠k:=fun e=>by subst e;rw[hk] at h1;cases h1
  exact⟨m',by rw[upd_ne hjk];exact h1,h2⟩
theorem heap_push{w w':World}{o:Obj}(hw:w'.heap=w.heap.push o){b:Nat}(hb:b<w.heap.size):w'.heap[b]?=w.heap[b]?:=by
 simp[hw,Array.getElem?_push,Nat.ne_of_lt hb]
theorem heap_push_new{w w':World}{o:Obj}(hw:w'.heap=w.heap.push o):w'.heap[w.heap.size]?=some o:=by simp[hw]
structure Grew(w w':World)(o:Obj):Prop where
 heap:w'.heap=w.heap.push o
 os:w'.os=w.os
 tape:w'.tape=w.tape
 output:w'.output=w.output
theorem Grew.alloc(w:World)(o:Obj):Grew w (w.alloc o) o:=⟨rfl,rfl,rfl,rfl⟩
theorem Grew.drew_alloc(w:World)(o:Obj):Grew w (w.drew.alloc o) o:=⟨rfl,rfl,rfl,rfl⟩
theorem Grew.kept{w w':World}{o:Obj}(h:Grew w w' o)(X:Nat→Prop):Kept X w w':=⟨h.os,h.tape,h.output,by simp[h.heap],fun k hk _=>heap_push h.heap hk⟩
def Gh.fix(g:Gh)(N:Nat)(f:Nat→Option Value):Gh:={ g with fz:=fun b o=>if b=N then f o else g.fz b o }
theorem Gh.fix_ne{g:Gh}{N b:Nat}{f:Nat→Option Value}(h:b≠N)(o:Nat):(g.fix N f).fz b o=g.fz b o:=by simp[Gh.fix,h]
theorem Gh.fix_eq{g:Gh}{N:Nat}{f:Nat→Option Value}(o:Nat):(g.fix N f).fz N o=f o:=by simp[Gh.fix]
theorem WInv.le_fix{g H w}(h:WInv g H w)(f:Nat→Option Value):GLe g H (g.fix w.heap.size f) H:=by
 refine⟨fun b o v hz=>?_,fun k t cs hk=>.inr ⟨rfl,rfl,cs,hk,rfl⟩,fun k hk=>hk,fun k m hk=>⟨m,hk,Nat.le_refl _,fun _=>⟨rfl,rfl,rfl⟩⟩,fun k kp es hk=>.inr ⟨rfl,es,hk⟩⟩
 rw[Gh.fix_ne (by have:=h.fz_lt hz;omega)];exact hz
theorem WInv.alloc{g H w}(h:WInv g H w){w':World}{cur:Array Value}{t:TypeId}(hw:Grew w w' (.cells cur t (0,0))){f:Nat→Option Value}(hf:∀ o v,f o=some v→cur[o]?=some v∧v.oneCell'=true):WInv (g.fix w.heap.size f) H w':=by
 refine⟨fun b o v hz=>?_,fun k=>?_,fun k j b h1 h2=>h.inj k j b ?_ ?_⟩
 ·by_cases hb:b=w.heap.size
  ·subst hb
   rw[Gh.fix_eq] at hz
   obtain⟨h1,h2⟩:=hf o v hz
   simp only[World.pk,heap_push_new hw.heap,h1,h2,if_true]
  ·rw[Gh.fix_ne hb] at hz
   rw[pk_congr (heap_push hw.heap (h.fz_lt hz))]
   exact h.fz b o v hz
 ·refine(h.obj k).mono (h.le_fix f) rfl rfl rfl (fun b hb=>heap_push hw.heap (h.blk_lt hb)) fun b hb x=>Gh.fix_ne (by have:=h.blk_lt hb;omega) x
 ·cases hk:H k with
  | gone=>rw[hk] at h1;exact h1.elim
  | lost=>rw[hk] at h1;exact h1.elim
  | map _ _=>rw[hk] at h1;exact h1
  | ext _=>rw[hk] at h1;exact h1
  | box t cs=>rw[hk] at h1;exact h1
  | tail n=>rw[hk] at h1;exact h1
 ·cases hk:H j with
  | gone=>rw[hk] at h2;exact h2.elim
  | lost=>rw[hk] at h2;exact h2.elim
  | map _ _=>rw[hk] at h2;exact h2
  | ext _=>rw[hk] at h2;exact h2
  | box t cs=>rw[hk] at h2;exact h2
  | tail n=>rw[hk] at h2;exact h2
theorem Fr.alloc{Γ g H w}(h:Fr Γ g H w)(hi:WInv g H w){w':World}{o:Obj}(hw:Grew w w' o)(f:Nat→Option Value):Fr Γ (g.fix w.heap.size f) H w':=by
 refine⟨h.kept.trans (hw.kept (fun _=>False)) fun _ _=>False.elim,fun b o v hz=>?_,fun b hb hX=>?_,fun k b hb=>h.own k b ?_,h.box,h.map,h.tail⟩
 ·have:=h.fz b o v hz
  rw[Gh.fix_ne (by have:=hi.fz_lt this;omega)];exact this
 ·funext o
  rw[Gh.fix_ne (by have:=h.kept.size;omega),h.low b hb hX]
 ·cases hk:H k with
  | gone=>rw[hk] at hb;exact hb.elim
  | lost=>rw[hk] at hb;exact hb.elim
  | map _ _=>rw[hk] at hb;exact hb
  | ext _=>rw[hk] at hb;exact hb
  | box t cs=>rw[hk] at hb;exact hb
  | tail n=>rw[hk] at hb;exact hb
def Gh.name(g:Gh)(k B L M:Nat):Gh:={ g with blk:=upd g.blk k B,lo:=upd g.lo k L,hi:=upd g.hi k M }
theorem Gh.name_fz(g:Gh)(k B L M b o:Nat):(g.name k B L M).fz b o=g.fz b o:=rfl
theorem Gh.name_blk(g:Gh)(k B L M:Nat):(g.name k B L M).blk k=B:=by simp[Gh.name]
theorem Gh.name_lo(g:Gh)(k B L M:Nat):(g.name k B L M).lo k=L:=by simp[Gh.name]
theorem Gh.name_hi(g:Gh)(k B L M:Nat):(g.name k B L M).hi k=M:=by simp[Gh.name]
theorem Gh.name_ne{g:Gh}{k j B L M:Nat}(h:j≠k):(g.name k B L M).blk j=g.blk j∧(g.name k B L M).lo j=g.lo j∧(g.name k B L M).hi j=g.hi j:=by
 simp[Gh.name,upd_ne h]
theorem GLe.name{g H}{k:Nat}(hk:H k=.gone)(o:AObj)(B L M:Nat):GLe g H (g.name k B L M) (upd H k o):=by
 refine⟨FzLe.refl _,fun j t cs hj=>?_,fun j hj=>?_,fun j m hj=>?_,fun j kp es hj=>?_⟩
 ·have hne:j≠k:=fun e=>by rw[e,hk] at hj;cases hj
  exact .inr ⟨(Gh.name_ne hne).1,(Gh.name_ne hne).2.2,cs,by rw[upd_ne hne];exact hj,rfl⟩
 ·have hne:j≠k:=fun e=>by rw[e,hk] at hj;cases hj
  rw[upd_ne hne];exact hj
 ·have hne:j≠k:=fun e=>by rw[e,hk] at hj;cases hj
  exact⟨m,by rw[upd_ne hne];exact hj,Nat.le_refl _,fun _=>Gh.name_ne hne⟩
 ·have hne:j≠k:=fun e=>by rw[e,hk] at hj;cases hj
  exact .inr ⟨(Gh.name_ne hne).1,es,by rw[upd_ne hne];exact hj⟩
theorem Bset.name{g:Gh}{k j B L M:Nat}(h:j≠k){o:AObj}{b:Nat}:Bset (g.name k B L M) j o b↔Bset g j o b:=by
 cases o <;> first | rfl | simp[Bset,Gh.name_ne h]
theorem WInv.add{g H w}(h:WInv g H w){k:Nat}(hk:H k=.gone){o:AObj}{B L M:Nat}(ho:ObjOk (g.name k B L M) (upd H k o) w k o)
 (hf:∀ b,Bset (g.name k B L M) k o b→∀ j,¬ Bset g j (H j) b):WInv (g.name k B L M) (upd H k o) w:=by
 refine⟨h.fz,fun j=>?_,fun i j b h1 h2=>?_⟩
 ·by_cases hj:j=k
  ·subst hj;rw[upd_same];exact ho
  ·rw[upd_ne hj]
   obtain⟨e1,e2,e3⟩:=Gh.name_ne (g:=g) (B:=B) (L:=L) (M:=M) hj
   exact(h.obj j).mono (GLe.name hk o B L M) e1 e2 e3 (fun _ _=>rfl) fun _ _ _=>rfl
 ·by_cases hi:i=k
  ·by_cases hj:j=k
   ·rw[hi,hj]
   ·subst hi
    rw[upd_same] at h1
    rw[upd_ne hj,Bset.name hj] at h2
    exact absurd h2 (hf b h1 j)
  ·by_cases hj:j=k
   ·subst hj
    rw[upd_same] at h2
    rw[upd_ne hi,Bset.name hi] at h1
    exact absurd h1 (hf b h2 i)
   ·rw[upd_ne hi,Bset.name hi] at h1
    rw[upd_ne hj,Bset.name hj] at h2
    exact h.inj i j b h1 h2
theorem Fr.add{Γ g H w}(h:Fr Γ g H w){k:Nat}(hk:H k=.gone){o:AObj}{B L M:Nat}(hb:∀ b,Bset (g.name k B L M) k o b→Γ.X b∨Γ.w0.heap.size≤b):Fr Γ (g.name k B L M) (upd H k o) w:=by
 refine⟨h.kept,h.fz,h.low,fun j b hj=>?_,fun j t cs hj=>?_,fun j kp es hj=>?_,fun j m hj=>?_⟩
 ·by_cases hjk:j=k
  ·subst hjk;rw[upd_same] at hj;exact hb b hj
  ·rw[upd_ne hjk,Bset.name hjk] at hj;exact h.own j b hj
 ·rcases h.box j t cs hj with h0 | ⟨cs',h1,h2,h3,h4⟩
  ·have hne:j≠k:=fun e=>by rw[e,hk] at h0;cases h0
   exact .inl (by rw[upd_ne hne];exact h0)
  ·have hne:j≠k:=fun e=>by rw[e,hk] at h1;cases h1
   exact .inr ⟨cs',by rw[upd_ne hne];exact h1,h2,(Gh.name_ne hne).1.trans h3,(Gh.name_ne hne).2.2.trans h4⟩
 ·rcases h.map j kp es hj with h0 | ⟨es',h1,h2⟩
  ·have hne:j≠k:=fun e=>by rw[e,hk] at h0;cases h0
   exact .inl (by rw[upd_ne hne];exact h0)
  ·have hne:j≠k:=fun e=>by rw[e,hk] at h1;cases h1
   exact .inr ⟨es',by rw[upd_ne hne];exact h1,(Gh.name_ne hne).1.trans h2⟩
 ·obtain⟨m',h1,h2,h3⟩:=h.tail j m hj
  have hne:j≠k:=fun e=>by rw[e,hk] at h1;cases h1
  exact⟨m',by rw[upd_ne hne];exact h1,h2,fun e=>by obtain⟨a,b,c⟩:=h3 e;exact⟨(Gh.name_ne hne).1.trans a,(Gh.name_ne hne).2.1.trans b,(Gh.name_ne hne).2.2.trans c⟩⟩
theorem WInv.newBox{g H w}(h:WInv g H w){k:Nat}(hk:H k=.gone){w':World}{t:TypeId}{cs:List EV}{vs:List Value}(hw:Grew w w' (.cells vs.toArray t (0,0)))(hl:cs.length≤vs.length)(h1:Ones vs)
 (hr:∀ (i:Nat) v x,vs[i]?=some v→cs[i]?=some x→ERep g H v x):
 WInv ((g.fix w.heap.size fun _=>none).name k w.heap.size 0 vs.length) (upd H k (.box t cs)) w'∧GLe g H ((g.fix w.heap.size fun _=>none).name k w.heap.size 0 vs.length) (upd H k (.box t cs)):=by
 have h':=h.alloc hw (f:=fun _=>none) (fun _ _ e=>by cases e)
 have hle:=(h.le_fix fun _=>none).trans (GLe.name (g:=g.fix w.heap.size fun _=>none) hk (.box t cs) w.heap.size 0 vs.length)
 refine⟨h'.add hk ?_ fun b hb j hj=>?_,hle⟩
 ·refine⟨fun h0=>?_,fun _=>⟨vs,?_,⟨(Gh.name_hi ..).symm,hl⟩,h1,fun i v x a b=>(hr i v x a b).mono hle,fun o=>?_⟩⟩
  ·rw[Gh.name_hi] at h0
   exact List.eq_nil_of_length_eq_zero (by omega)
  ·rw[Gh.name_blk];exact heap_push_new hw.heap
  ·rw[Gh.name_blk,Gh.name_fz];exact Gh.fix_eq o
 ·have hb:b=w.heap.size:=by simpa[Bset,Gh.name] using hb.2
  have:b<w.heap.size:=h.blk_lt (k:=j) (b:=b) (by
   cases hH:H j with
   | gone=>rw[hH] at hj;exact hj.elim
   | lost=>rw[hH] at hj;exact hj.elim
   | map _ _=>rw[hH] at hj;exact hj
   | ext _=>rw[hH] at hj;exact hj
   | box _ _=>rw[hH] at hj;exact hj
   | tail _=>rw[hH] at hj;exact hj)
  omega
theorem Fr.newBox{Γ g H w}(h:Fr Γ g H w)(hi:WInv g H w){k:Nat}(hk:H k=.gone){w':World}{ob:Obj}(hw:Grew w w' ob)(o:AObj)(f:Nat→Option Value)(L M:Nat)(hx:∀ e,o≠.ext e:=by nofun):
 Fr Γ ((g.fix w.heap.size f).name k w.heap.size L M) (upd H k o) w':=by
 refine(h.alloc hi hw f).add hk fun b hb=>.inr ?_
 have:b=w.heap.size:=by
  cases o with
  | gone=>exact hb.elim
  | lost=>exact hb.elim
  | box _ _=>simpa[Bset,Gh.name] using hb.2
  | tail _=>simpa[Bset,Gh.name] using hb.2
  | map _ _=>simpa[Bset,Gh.name] using hb
  | ext e=>exact absurd rfl (hx e)
 rw[this];exact h.kept.size
theorem WInv.newTail{g H w}(h:WInv g H w){k:Nat}(hk:H k=.gone){w':World}{t:TypeId}{cur:Array Value}(hw:Grew w w' (.cells cur t (0,0)))(L n:Nat)(hL:L≤cur.size)(h1:Ones (cur.toList.take L)):
 WInv ((g.fix w.heap.size fun o=>if o<L then cur[o]? else none).name k w.heap.size L cur.size) (upd H k (.tail n)) w' ∧
 GLe g H ((g.fix w.heap.size fun o=>if o<L then cur[o]? else none).name k w.heap.size L cur.size) (upd H k (.tail n)):=by
 have h':=h.alloc hw (f:=fun o=>if o<L then cur[o]? else none) (fun o v e=>by
  split at e
  ·rename_i ho
   exact⟨e,h1 v (List.mem_of_getElem? (i:=o) (by rw[List.getElem?_take,if_pos ho];simpa using e))⟩
  ·cases e)
 have hle:=(h.le_fix fun o=>if o<L then cur[o]? else none).trans (GLe.name (g:=g.fix w.heap.size fun o=>if o<L then cur[o]? else none) hk (.tail n) w.heap.size L cur.size)
 refine⟨h'.add hk ?_ fun b hb j hj=>?_,hle⟩
 ·intro hlt
  refine⟨cur,t,?_,?_,fun o h1 h2=>?_⟩
  ·rw[Gh.name_blk];exact heap_push_new hw.heap
  ·rw[Gh.name_hi];exact Nat.le_refl _
  ·rw[Gh.name_blk]
   rw[Gh.name_lo] at h1
   rw[Gh.name_fz,Gh.fix_eq,if_neg (by omega)]
 ·have hb:b=w.heap.size:=by simpa[Bset,Gh.name] using hb.2
  have:b<w.heap.size:=h.blk_lt (k:=j) (b:=b) (by
   cases hH:H j with
   | gone=>rw[hH] at hj;exact hj.elim
   | lost=>rw[hH] at hj;exact hj.elim
   | map _ _=>rw[hH] at hj;exact hj
   | ext _=>rw[hH] at hj;exact hj
   | box _ _=>rw[hH] at hj;exact hj
   | tail _=>rw[hH] at hj;exact hj)
  omega
def Gh.grow(g:Gh)(k:Nat)(vs:List Value):Gh:=
 { g with fz:=fun b o=>if b=g.blk k∧g.lo k≤o∧o<g.lo k+vs.length then vs[o - g.lo k]? else g.fz b o,lo:=upd g.lo k (g.lo k+vs.length) }
theorem WInv.grow{g H w}(h:WInv g H w){k m q:Nat}(hk:H k=.tail m)(hlt:g.lo k<g.hi k){cur:Array Value}{t:TypeId}(hc:w.heap[g.blk k]?=some (.cells cur t (0,0))){vs:List Value}(hfit:g.lo k+vs.length≤g.hi k)(h1v:Ones vs)(hq:vs≠[]→0<q):
 WInv (g.grow k vs) (upd H k (.tail (m+q))) (w.setRow (g.blk k) (cur.toList.take (g.lo k)++vs++cur.toList.drop (g.lo k+vs.length)).toArray) ∧
 GLe g H (g.grow k vs) (upd H k (.tail (m+q))):=by
 have hob:=h.obj k
 rw[hk] at hob
 obtain⟨cur',t',hc',hs,hn⟩:=hob hlt
 rw[hc] at hc'
 cases hc'
 have hle:GLe g H (g.grow k vs) (upd H k (.tail (m+q))):=by
  refine⟨fun b o v hz=>?_,fun j t cs hj=>?_,fun j hj=>?_,fun j m' hj=>?_,fun j kp es hj=>?_⟩
  ·show(if _ then _ else _)=_
   rw[if_neg]
   ·exact hz
   ·rintro⟨rfl,h1,h2⟩
    rw[hn o h1 (by omega)] at hz;cases hz
  ·have hne:j≠k:=fun e=>by rw[e,hk] at hj;cases hj
   exact .inr ⟨rfl,rfl,cs,by rw[upd_ne hne];exact hj,rfl⟩
  ·have hne:j≠k:=fun e=>by rw[e,hk] at hj;cases hj
   rw[upd_ne hne];exact hj
  ·by_cases hjk:j=k
   ·subst hjk
    rw[hk] at hj;cases hj
    refine⟨m+q,by simp,by omega,fun e=>⟨rfl,?_,rfl⟩⟩
    have:vs=[]:=by
     cases vs with
     | nil=>rfl
     | cons v r=>exact absurd (hq (by simp)) (by omega)
    subst this
    simp[Gh.grow]
   ·exact⟨m',by rw[upd_ne hjk];exact hj,Nat.le_refl _,fun _=>⟨rfl,upd_ne hjk,rfl⟩⟩
  ·have hne:j≠k:=fun e=>by rw[e,hk] at hj;cases hj
   exact .inr ⟨rfl,es,by rw[upd_ne hne];exact hj⟩
 have hget:∀ o,(cur.toList.take (g.lo k)++vs++cur.toList.drop (g.lo k+vs.length))[o]?=if g.lo k≤o∧o<g.lo k+vs.length then vs[o - g.lo k]? else cur[o]?:=by
  intro o
  have hlen:(cur.toList.take (g.lo k)).length=g.lo k:=by rw[List.length_take];simp;omega
  split
  ·rename_i h1
   rw[List.append_assoc,List.getElem?_append_right (by omega),hlen,List.getElem?_append_left (by omega)]
  ·rename_i h1
   rcases Nat.lt_or_ge o (g.lo k) with h2 | h2
   ·rw[List.append_assoc,List.getElem?_append_left (by omega),List.getElem?_take,if_pos h2];simp
   ·rw[List.append_assoc,List.getElem?_append_right (by omega),hlen,List.getElem?_append_right (by omega),List.getElem?_drop,show g.lo k+vs.length+(o - g.lo k - vs.length)=o by omega];simp
 have hsize:(cur.toList.take (g.lo k)++vs++cur.toList.drop (g.lo k+vs.length)).length=cur.size:=by simp;omega
 refine⟨⟨fun b o v hz=>?_,fun j=>?_,fun i j b h1 h2=>h.inj i j b ?_ ?_⟩,hle⟩
 ·by_cases hb:b=g.blk k
  ·subst hb
   have hz':(if g.blk k=g.blk k∧g.lo k≤o∧o<g.lo k+vs.length then vs[o - g.lo k]? else g.fz (g.blk k) o)=some v:=hz
   simp only[true_and] at hz'
   have key:v.oneCell'=true∧(if g.lo k≤o∧o<g.lo k+vs.length then vs[o - g.lo k]? else cur[o]?)=some v:=by
    split
    ·rename_i h1
     rw[if_pos h1] at hz'
     exact⟨h1v v (List.mem_of_getElem? hz'),hz'⟩
    ·rename_i h1
     rw[if_neg h1] at hz'
     have:=h.fz _ _ _ hz'
     unfold World.pk at this
     simp only[hc] at this
     split at this
     ·rename_i u hu
      split at this
      ·rename_i h1u;cases this;exact⟨h1u,hu⟩
      ·cases this
     ·cases this
   refine cell_pk ?_ key.1
   rw[cell_setRow_same _ _ _ _ _ _ _ hc,List.getElem?_toArray,hget]
   exact key.2
  ·rw[pk_congr (setRow_other _ _ _ _ hb)]
   have hz':(if b=g.blk k∧g.lo k≤o∧o<g.lo k+vs.length then vs[o - g.lo k]? else g.fz b o)=some v:=hz
   rw[if_neg (fun e=>hb e.1)] at hz'
   exact h.fz b o v hz'
 ·by_cases hj:j=k
  ·subst hj
   rw[upd_same]
   intro hlt'
   have e1:(g.grow j vs).lo j=g.lo j+vs.length:=by simp[Gh.grow]
   rw[e1] at hlt'
   refine⟨_,t,setRow_heap _ _ _ _ _ _ hc,?_,fun o h1 h2=>?_⟩
   ·show g.hi j≤_
    rw[List.size_toArray,hsize];exact hs
   ·rw[e1] at h1
    show(if _ then _ else _)=_
    rw[if_neg (by omega)]
    exact hn o (by omega) h2
  ·rw[upd_ne hj]
   have hne:∀ b,Bset g j (H j) b→b≠g.blk k:=fun b hb e=>hj (h.inj j k b hb (by rw[hk];exact⟨hlt,e⟩))
   refine(h.obj j).mono hle rfl (upd_ne hj) rfl (fun b hb=>setRow_other _ _ _ _ (hne b hb)) fun b hb x=>?_
   show(if _ then _ else _)=_
   rw[if_neg (fun e=>hne b hb e.1)]
 ·by_cases hi:i=k
  ·subst hi;rw[upd_same] at h1;rw[hk];exact⟨hlt,h1.2⟩
  ·rw[upd_ne hi] at h1
   cases hH:H i with
   | gone=>rw[hH] at h1;exact h1.elim
   | lost=>rw[hH] at h1;exact h1.elim
   | map _ _=>rw[hH] at h1;exact h1
   | ext _=>rw[hH] at h1;exact h1
   | box _ _=>rw[hH] at h1;exact h1
   | tail _=>rw[hH] at h1;exact⟨by simpa[Gh.grow,upd_ne hi] using h1.1,h1.2⟩
 ·by_cases hi:j=k
  ·subst hi;rw[upd_same] at h2;rw[hk];exact⟨hlt,h2.2⟩
  ·rw[upd_ne hi] at h2
   cases hH:H j with
   | gone=>rw[hH] at h2;exact h2.elim
   | lost=>rw[hH] at h2;exact h2.elim
   | map _ _=>rw[hH] at h2;exact h2
   | ext _=>rw[hH] at h2;exact h2
   | box _ _=>rw[hH] at h2;exact h2
   | tail _=>rw[hH] at h2;exact⟨by simpa[Gh.grow,upd_ne hi] using h2.1,h2.2⟩
theorem Fr.grow{Γ g H w}(h:Fr Γ g H w)(hi:WInv g H w){k m q:Nat}(hk:H k=.tail m)(hlt:g.lo k<g.hi k){vs:List Value}(hfit:g.lo k+vs.length≤g.hi k)(row:Array Value)(hq:0<q):Fr Γ (g.grow k vs) (upd H k (.tail (m+q))) (w.setRow (g.blk k) row):=by
 have hown:=h.own k (g.blk k) (by rw[hk];exact⟨hlt,rfl⟩)
 have hob:=hi.obj k
 rw[hk] at hob
 obtain⟨cur',t',hc',hs,hn⟩:=hob hlt
 refine⟨?_,fun b o v hz=>?_,fun b hb hX=>?_,fun j b hb=>?_,fun j t cs hj=>?_,fun j kp es hj=>?_,fun j m0 hj=>?_⟩
 ·rcases hown with hX | hX
  ·exact h.kept.trans (Kept.setRow (fun b=>b=g.blk k) w (g.blk k) row rfl) fun i _ e=>e▸hX
  ·exact h.kept.trans (Kept.setRow (fun b=>b=g.blk k) w (g.blk k) row rfl) fun i hi e=>by omega
 ·have hz:=h.fz b o v hz
  show(if _ then _ else _)=_
  rw[if_neg]
  ·exact hz
  ·rintro⟨rfl,h1,h2⟩
   rw[hn o h1 (by omega)] at hz;cases hz
 ·funext o
  show(if _ then _ else _)=_
  rw[if_neg,h.low b hb hX]
  rintro⟨rfl,_⟩
  rcases hown with h1 | h1
  ·exact hX h1
  ·omega
 ·by_cases hjk:j=k
  ·subst hjk;rw[upd_same] at hb;exact h.own j b (by rw[hk];exact⟨hlt,hb.2⟩)
  ·rw[upd_ne hjk] at hb
   refine h.own j b ?_
   cases hH:H j with
   | gone=>rw[hH] at hb;exact hb.elim
   | lost=>rw[hH] at hb;exact hb.elim
   | map _ _=>rw[hH] at hb;exact hb
   | ext _=>rw[hH] at hb;exact hb
   | box _ _=>rw[hH] at hb;exact hb
   | tail _=>rw[hH] at hb;exact⟨by simpa[Gh.grow,upd_ne hjk] using hb.1,hb.2⟩
 ·rcases h.box j t cs hj with h0 | ⟨cs',h1,h2,h3⟩
  ·have hne:j≠k:=fun e=>by rw[e,hk] at h0;cases h0
   exact .inl (by rw[upd_ne hne];exact h0)
  ·have hne:j≠k:=fun e=>by rw[e,hk] at h1;cases h1
   exact .inr ⟨cs',by rw[upd_ne hne];exact h1,h2,h3⟩
 ·rcases h.map j kp es hj with h0 | ⟨es',h1,h2⟩
  ·have hne:j≠k:=fun e=>by rw[e,hk] at h0;cases h0
   exact .inl (by rw[upd_ne hne];exact h0)
  ·have hne:j≠k:=fun e=>by rw[e,hk] at h1;cases h1
   exact .inr ⟨es',by rw[upd_ne hne];exact h1,h2⟩
 ·obtain⟨m',h1,h2,h3⟩:=h.tail j m0 hj
  by_cases hne:j=k
  ·subst hne
   rw[hk] at h1
   cases h1
   exact⟨m+q,upd_same ..,by omega,fun e=>by omega⟩
  ·exact⟨m',by rw[upd_ne hne];exact h1,h2,fun e=>by obtain⟨a,b,c⟩:=h3 e;exact⟨a,by simpa[Gh.grow,upd_ne hne] using b,c⟩⟩
def opTmps(op:Op):List Tmp:=op.operands.toList.filterMap fun | .tmp t=>some t | _=>none
def ovr(wr:List Nat)(H1 H':Hp):Hp:=fun k=>if k∈wr then H1 k else H' k
theorem ovr_nil(H1 H':Hp):ovr [] H1 H'=H':=by funext k;simp[ovr]
theorem ovr_one(k:Nat)(H1 H':Hp):ovr [k] H1 H'=upd H' k (H1 k):=by
 funext j
 by_cases h:j=k
 ·subst h;simp[ovr]
 ·simp[ovr,h,upd_ne h]
def OpOk(P:Program)(o:Oper)(env:Nat→EV)(H:Hp)(x:EV)(H1:Hp)(rd wr:List Nat):Prop:=
 (∀ k,k∉wr→H1 k=H k) ∧
 ∀ (Γ:Ctx) (g:Gh) (a:Act) (w:World) (env':Nat→EV) (H':Hp),
  (∀ t∈opTmps o.op,env' t=env t)→(∀ k,k∈rd∨k∈wr→H' k=H k)→(∀ t,ERep g H' (a.tmps.getD t undef) (env' t))→WInv g H' w→Fr Γ g H' w →
  ∀ (next:Act→World→Prop) (Q:Exit→Act→World→Prop),
   (∀ v g' w',GLe g H' g' (ovr wr H1 H')→WInv g' (ovr wr H1 H') w'→Fr Γ g' (ovr wr H1 H') w'→ERep g' (ovr wr H1 H') v x→next (a.put o.dst v) w')→o.wp P a w next Q
theorem constEV_rep{g H}(T:Tab)(ty:Nat)(v:Value):ERep g H v (constEV T ty v):=by
 have hp:∀ u:Value,u.oneCell'=true→ERep g H u (.p (.imm u)):=fun u h=>.p u _ (.imm u h)
 cases v with
 | slice a n c=>
  cases a with
  | none=>
   cases n with
   | zero=>
    cases c with
    | zero=>exact .full none 0 _ [] (.slice none 0 0 _ [] [] rfl (Nat.le_refl _) (by omega) (by simp) (by simp[Ones]) (by intro i v h;simp at h) rfl (by intro i v x h;simp at h))
    | succ c=>exact hp _ rfl
   | succ n=>exact hp _ rfl
  | some b=>exact hp _ rfl
 | agg cs=>exact .dead _
 | tuple cs=>exact .dead _
 | _=>exact hp _ rfl
theorem opv_rep{g H}{T:Tab}{env:Env}{a:Act}{env':Nat→EV}(hr:∀ t,ERep g H (a.tmps.getD t undef) (env' t)){op:Op}(ht:∀ t∈opTmps op,env' t=lk env t){y:Operand}(hy:y∈op.operands.toList)(ty:Nat):
 ERep g H (a.eval y) (opv T env ty y):=by
 cases y with
 | tmp t=>
  have hm:t∈opTmps op:=List.mem_filterMap.2 ⟨_,hy,rfl⟩
  show ERep g H (a.tmps.getD t undef) (lk env t)
  rw[← ht t hm];exact hr t
 | const v=>exact constEV_rep T ty v
 | func f=>exact .p _ _ (.fn (.func f) [] [] [] [] rfl rfl (by intro i v x h;simp at h) (by intro i v x h;simp at h))
 | global g=>exact .dead _
theorem OpOk.look{P:Program}{T:Tab}{o:Oper}{env:Env}{H:Hp}{x:EV}{rd:List Nat}
 (h:∀ (g:Gh) (H':Hp) (ρ:Operand→Value) (w:World),(∀ y∈o.op.operands.toList,∀ ty,ERep g H' (ρ y) (opv T env ty y))→(∀ k∈rd,H' k=H k)→WInv g H' w →
  ∃ v,(execOp ρ o).run P w=.ok (.value v) w∧ERep g H' v x):OpOk P o (lk env) H x H rd []:=by
 refine⟨fun _ _=>rfl,fun Γ g a w env' H' ht hk hr hi hf next Q hn=>?_⟩
 obtain⟨v,hv,hx⟩:=h g H' a.eval w (fun y hy ty=>opv_rep hr ht hy ty) (fun k hk'=>hk k (.inl hk')) hi
 rw[ovr_nil] at hn
 unfold Oper.wp
 rw[hv]
 exact hn v g w (GLe.refl _ _) hi hf hx
abbrev Kt:=EV→AHp→Fp→Prop
def Good(P:Program)(o:Oper)(env:Env)(h:AHp)(K:Kt):Prop:=
 ∀ (g:Gh) (a:Act),(∀ t,ERep g (hp h) (a.tmps.getD t undef) (lk env t))→∃ x h' rd wr,OpOk P o (lk env) (hp h) x (hp h') rd wr∧K x h' (rd,wr)
theorem Good.look{P:Program}{T:Tab}{o:Oper}{env:Env}{h:AHp}{K:Kt}{x:EV}(rd:List Nat)(hK:K x h (rd,[]))
 (hl:∀ (g:Gh) (H':Hp) (ρ:Operand→Value) (w:World),(∀ y∈o.op.operands.toList,∀ ty,ERep g H' (ρ y) (opv T env ty y))→(∀ k∈rd,H' k=hp h k)→WInv g H' w →
  ∃ v,(execOp ρ o).run P w=.ok (.value v) w∧ERep g H' v x):Good P o env h K:=fun _ _ _=>⟨x,h,rd,[],OpOk.look hl,hK⟩
theorem tiOk_info{P:Program}{t:TypeId}{i:TI}(h:tiOk P t i=true):∃ inf d,P.info? t=some inf∧P.underlying t=some d∧inf.size=i.size∧inf.bytes=i.bytes∧zOk inf.zero i.zero=true ∧
 (d.isRow=i.agg)∧(i.kind=1→∃ fs,d=.struct fs∧fldsOk P fs.toList i.flds=true)∧(i.kind=2→d=.array i.len i.elem∧elemOk P i i.elem=true)∧(i.kind=3→d=.slice i.elem∧elemOk P i i.elem=true∧i.size=1) ∧
 (i.kind=4→d=.string)∧(i.kind=5→d=.bool)∧(i.kind=6→d=.int i.ik)∧(i.agg=false→i.size=1):=by
 unfold tiOk at h
 cases hi:P.info? t with
 | none=>simp[hi] at h
 | some inf=>
  cases hu:P.underlying t with
  | none=>simp[hi,hu] at h
  | some d=>
   rw[hi,hu] at h
   simp only[Bool.and_eq_true] at h
   obtain⟨⟨⟨h1,h2⟩,h3⟩,h4⟩:=h
   refine⟨inf,d,rfl,rfl,nbt h1,nbt h2,h3,?_⟩
   obtain⟨kind,size,bytes,zero,flds,elem,esz,ebytes,ezero,len,ik,mkey,kp⟩:=i
   dsimp only at h4 ⊢
   have hel:∀ e,elemOk P ⟨kind,size,bytes,zero,flds,elem,esz,ebytes,ezero,len,ik,mkey,kp⟩ e=true→e=elem:=fun e he=>by
    simp only[elemOk,Bool.and_eq_true] at he
    exact nbt he.1
   match kind,d,h4 with
   | 1,.struct fs,h4=>exact⟨rfl,fun _=>⟨fs,rfl,h4⟩,by simp,by simp,by simp,by simp,by simp,by simp[TI.agg]⟩
   | 2,.array n e,h4=>
    have h4:(Nat.beq n len&&elemOk P ⟨2,size,bytes,zero,flds,elem,esz,ebytes,ezero,len,ik,mkey,kp⟩ e)=true:=h4
    rw[Bool.and_eq_true] at h4
    have:=nbt h4.1
    have he:=hel e h4.2
    subst this;subst he
    exact⟨rfl,by simp,fun _=>⟨rfl,h4.2⟩,by simp,by simp,by simp,by simp,by simp[TI.agg]⟩
   | 3,.slice e,h4=>
    have h4:(elemOk P ⟨3,size,bytes,zero,flds,elem,esz,ebytes,ezero,len,ik,mkey,kp⟩ e&&Nat.beq size 1)=true:=h4
    rw[Bool.and_eq_true] at h4
    have he:=hel e h4.1
    subst he
    exact⟨rfl,by simp,by simp,fun _=>⟨rfl,h4.1,nbt h4.2⟩,by simp,by simp,by simp,fun _=>nbt h4.2⟩
   | 4,.string,h4=>exact⟨rfl,by simp,by simp,by simp,by simp,by simp,by simp,fun _=>nbt h4⟩
   | 5,.bool,h4=>exact⟨rfl,by simp,by simp,by simp,by simp,by simp,by simp,fun _=>nbt h4⟩
   | 6,.int k,h4=>
    have h4:(decide (k=ik)&&Nat.beq size 1)=true:=h4
    rw[Bool.and_eq_true] at h4
    have hk:k=ik:=odt h4.1
    subst hk
    exact⟨rfl,by simp,by simp,by simp,by simp,by simp,fun _=>rfl,fun _=>nbt h4.2⟩
   | 7,.map k e,h4=>
    have h4:(Nat.beq k mkey&&elemOk P ⟨7,size,bytes,zero,flds,elem,esz,ebytes,ezero,len,ik,mkey,kp⟩ e&&kpOk P k kp&&zform P e&&Nat.beq size 1)=true:=h4
    simp only[Bool.and_eq_true] at h4
    exact⟨rfl,by simp,by simp,by simp,by simp,by simp,by simp,fun _=>nbt h4.2⟩
   | 0,d,h4=>
    refine⟨?_,by simp,by simp,by simp,by simp,by simp,by simp,fun _=>?_⟩
    ·cases d <;> first | rfl | (simp at h4)
    ·cases d <;> first | (exact nbt h4) | (simp at h4)
theorem tiOk_map{P:Program}{t:TypeId}{i:TI}(h:tiOk P t i=true)(hk:i.kind=7):P.underlying t=some (.map i.mkey i.elem)∧elemOk P i i.elem=true∧kpOk P i.mkey i.kp=true∧zform P i.elem=true:=by
 unfold tiOk at h
 cases hi:P.info? t with
 | none=>simp[hi] at h
 | some inf=>
  cases hu:P.underlying t with
  | none=>simp[hi,hu] at h
  | some d=>
   rw[hi,hu] at h
   simp only[Bool.and_eq_true,hk] at h
   obtain⟨_,h4⟩:=h
   cases d <;> simp only[Bool.and_eq_true,Bool.false_eq_true] at h4
   obtain⟨⟨⟨⟨h1,h2⟩,h3⟩,h5⟩,h6⟩:=h4
   have e1:=nbt h1
   have h2':=h2
   simp only[elemOk,Bool.and_eq_true] at h2'
   have e2:=nbt h2'.1
   rw[e1] at h3 ⊢
   rw[e2] at h2 h5 ⊢
   exact⟨rfl,h2,h3,h5⟩
theorem elemOk_info{P:Program}{i:TI}{e:TypeId}(h:elemOk P i e=true):∃ ie,P.info? e=some ie∧ie.size=i.esz∧ie.bytes=i.ebytes∧zOk ie.zero i.ezero=true:=by
 unfold elemOk at h
 rw[Bool.and_eq_true] at h
 cases hq:P.info? e with
 | none=>rw[hq] at h;simp at h
 | some ie=>
  rw[hq] at h
  simp only[Bool.and_eq_true] at h
  exact⟨ie,rfl,nbt h.2.1.1,nbt h.2.1.2,h.2.2⟩
theorem fldsOk_get{P:Program}:∀ {fs:List Field} {l:List (Nat×Nat×Nat)},fldsOk P fs l=true→∀ {n o t s:Nat},l[n]?=some (o,t,s)→∃ f:Field,fs[n]?=some f∧f.offset=o∧f.type=t∧(P.info? f.type).map (·.size)=some s∧s≠0
 | [],[],_,n,o,t,s,h=>by simp at h
 | [],_::_,h,_,_,_,_,_=>by simp[fldsOk] at h
 | _::_,[],h,_,_,_,_,_=>by simp[fldsOk] at h
 | f::r,(o',t',s')::l,h,n,o,t,s,hn=>by
  simp only[fldsOk,Bool.and_eq_true] at h
  obtain⟨⟨⟨h1,h2⟩,h3⟩,h4⟩:=h
  cases n with
  | zero=>
   simp at hn
   obtain⟨rfl,rfl,rfl⟩:=hn
   cases hq:P.info? f.type with
   | none=>rw[hq] at h3;simp at h3
   | some i=>
    rw[hq] at h3
    simp only[Bool.and_eq_true] at h3
    refine⟨f,rfl,nbt h1,nbt h2,?_,fun e=>?_⟩
    ·rw[hq];simp;exact nbt h3.1
    ·rw[e] at h3;simp at h3
  | succ n=>
   simp at hn
   obtain⟨f',hf,r'⟩:=fldsOk_get h4 hn
   exact⟨f',by simpa using hf,r'⟩
theorem ERep.loc_inv{g H v k off}(h:ERep g H v (.loc k off)):∃ b,v=.pointer (some ⟨b,off,none⟩)∧(H k=.lost∨(b=g.blk k∧∃ t cs,H k=.box t cs)):=by
 cases h with | loc _ _ b h=>exact⟨b,rfl,h⟩
theorem ERep.loc_at{g H v k off}(h:ERep g H v (.loc k off)){t cs}(hk:H k=.box t cs):v=.pointer (some ⟨g.blk k,off,none⟩):=by
 obtain⟨b,rfl,h0 | ⟨rfl,_⟩⟩:=h.loc_inv
 ·rw[hk] at h0;cases h0
 ·rfl
theorem ERep.p_inv{g H v x}(h:ERep g H v (.p x)):Rep g.fz v x:=by cases h;assumption
theorem Rep.ref_inv{fz v cs}(h:Rep fz v (.ref cs)):∃ b q,v=.pointer (some ⟨b,q,none⟩):=by
 cases h with | ref b q=>exact⟨b,q,rfl⟩
theorem ERep.eptr_inv{g H v sz x}(h:ERep g H v (.eptr sz x)):x.cells.length=sz∧Rep g.fz v (.ref x.cells):=by
 cases h with | eptr b q _ _ h1 h2=>exact⟨h1,h2⟩
section
variable {P:Program} {T:Tab} (hT:TabOk P T) {o:Oper} {env:Env} {h:AHp} {K:Kt}
def force(e:EV)(k:EV→Prop):Prop:=
 match e with
 | .dead=>k .dead
 | .p x=>k (.p x)
 | .loc a b=>k (.loc a b)
 | .own a b c=>k (.own a b c)
 | .full a b=>k (.full a b)
 | .eptr a b=>k (.eptr a b)
 | .arr a b c d=>k (.arr a b c d)
 | .agg cs=>k (.agg cs)
 | .fn f a b=>k (.fn f a b)
 | .tup vs=>k (.tup vs)
 | .mtok a=>k (.mtok a)
theorem force_out{e:EV}{k:EV→Prop}(h:force e k):k e:=by cases e <;> exact h
def aMove(T:Tab)(ty:Nat)(x:Operand)(env:Env)(h:AHp)(K:Kt):Prop:=force (opv T env ty x) fun e=>K e h nofp
theorem aMove_good{x:Operand}{ty:Nat}(ho:o.op=.move x∨o.op=.assign x)(hh:aMove T ty x env h K):Good P o env h K:=
 Good.look [] (force_out hh) fun g H' ρ w hr _ _=>by
  rcases ho with ho | ho
  ·exact⟨ρ x,by simp[execOp,ho],hr x (by simp[ho,Op.operands]) ty⟩
  ·exact⟨ρ x,by simp[execOp,ho],hr x (by simp[ho,Op.operands]) ty⟩
def aPick(T:Tab)(ty:Nat)(c x y:Operand)(env:Env)(h:AHp)(K:Kt):Prop:=
 match opv T env 0 c with
 | .p (.imm (.bool b))=>bgo b (K (opv T env ty x) h nofp) (K (opv T env ty y) h nofp)
 | _=>False
theorem aPick_good{ty:Nat}{c x y:Operand}(ho:o.op=.pick c x y)(hh:aPick T ty c x y env h K):Good P o env h K:=by
 unfold aPick at hh
 split at hh
 ·rename_i b hb
  rcases bgo_out hh with ⟨rfl,hk⟩ | ⟨rfl,hk⟩
  ·refine Good.look (T:=T) [] hk fun g H' ρ w hr _ _=>⟨ρ x,?_,hr x (by simp[ho,Op.operands]) ty⟩
   have hc:=hr c (by simp[ho,Op.operands]) 0
   rw[hb] at hc
   simp[execOp,ho,hc.val,asBool]
  ·refine Good.look (T:=T) [] hk fun g H' ρ w hr _ _=>⟨ρ y,?_,hr y (by simp[ho,Op.operands]) ty⟩
   have hc:=hr c (by simp[ho,Op.operands]) 0
   rw[hb] at hc
   simp[execOp,ho,hc.val,asBool]
 ·exact hh.elim
def aNilCheck(e:EV)(h:AHp)(K:Kt):Prop:=
 match e with
 | .loc _ _=>K e h nofp
 | .eptr _ _=>K e h nofp
 | .p (.ref _)=>K e h nofp
 | .p (.fn (.func _) _ _)=>K e h nofp
 | .fn (.func _) _ _=>K e h nofp
 | _=>False
theorem aNilCheck_good{x:Operand}(ho:o.op=.nilCheck x)(hh:aNilCheck (opv T env 0 x) h K):Good P o env h K:=by
 unfold aNilCheck at hh
 have key:∀ (hk:K (opv T env 0 x) h nofp),(∀ (g:Gh) (H':Hp) (v:Value),ERep g H' v (opv T env 0 x)→(∃ a,v=.pointer (some a))∨∃ f a b,v=.func (.func f) a b)→Good P o env h K:=fun hk hv=>by
  refine Good.look (T:=T) [] hk fun g H' ρ w hr _ _=>⟨ρ x,?_,hr x (by simp[ho,Op.operands]) 0⟩
  rcases hv g H' _ (hr x (by simp[ho,Op.operands]) 0) with ⟨a,e⟩ | ⟨f,a,b,e⟩
  ·simp[execOp,ho,e]
  ·simp[execOp,ho,e]
 split at hh
 ·rename_i hx;refine key (hx▸hh) fun g H' v hv=>?_
  rw[hx] at hv;cases hv;exact .inl ⟨_,rfl⟩
 ·rename_i hx;refine key (hx▸hh) fun g H' v hv=>?_
  rw[hx] at hv;cases hv;exact .inl ⟨_,rfl⟩
 ·rename_i hx;refine key (hx▸hh) fun g H' v hv=>?_
  rw[hx] at hv;cases hv with | p _ _ hv=>cases hv;exact .inl ⟨_,rfl⟩
 ·rename_i hx;refine key (hx▸hh) fun g H' v hv=>?_
  rw[hx] at hv;cases hv with | p _ _ hv=>cases hv;exact .inr ⟨_,_,_,rfl⟩
 ·rename_i hx;refine key (hx▸hh) fun g H' v hv=>?_
  rw[hx] at hv;cases hv;exact .inr ⟨_,_,_,rfl⟩
 ·exact hh.elim
def aFieldAddr(T:Tab)(s:Nat)(f:Nat)(e:EV)(h:AHp)(K:Kt):Prop:=
 ogo (T.get s) fun ti=>bgo (Nat.beq ti.kind 1) (ogo3 (nth ti.flds f) fun fo _=>
  match e with
  | .loc k off=>K (.loc k (off+fo)) h nofp
  | .p (.ref cs)=>K (.p (.ref (cs.drop fo))) h nofp
  | .eptr _ x=>K (.p (.ref (x.cells.drop fo))) h nofp
  | _=>False) False
include hT in
theorem aFieldAddr_good{s f:Nat}{x:Operand}(ho:o.op=.fieldAddr s x f)(hh:aFieldAddr T s f (opv T env 0 x) h K):Good P o env h K:=by
 obtain⟨ti,hti,hh⟩:=ogo_out hh
 obtain⟨hk,hh⟩:=bgo_outT hh
 obtain⟨fl,hfl,hh⟩:=ogo3_out hh
 rw[nth_eq] at hfl
 obtain⟨off,fty,fsz⟩:=fl
 obtain⟨inf,d,h1,h2,_,_,_,_,h3,_⟩:=tiOk_info (hT s ti hti)
 obtain⟨fs,rfl,hfs⟩:=h3 (nbt hk)
 obtain⟨fd,hfd,ho1,ho2,ho3,ho4⟩:=fldsOk_get hfs hfl
 have hfd':fs[f]?=some fd:=by simpa using hfd
 have run:∀ (w:World) (b q:Nat),(Instr.fieldAt s (.pointer (some ⟨b,q,none⟩)) f).run P w=.ok (.pointer (some ⟨b,q+off,none⟩)) w:=fun w b q=>by
  cases hq:P.info? fd.type with
  | none=>rw[hq] at ho3;simp at ho3
  | some i=>
   have hs:i.size≠0:=by rw[hq] at ho3;simp at ho3;omega
   simp[Instr.fieldAt,run_underlying h2,hfd',Instr.sureAddr,fieldPlace,sizeOf,typeInfo,hq,hs,ho1,Addr.add_mid]
 dsimp only at hh
 have ex:∀ (ρ:Operand→Value) (w:World),(execOp ρ o).run P w=((Instr.fieldAt s (ρ x) f).run P w).andThen fun v w=>.ok (.value v) w:=fun ρ w=>by simp[execOp,ho]
 split at hh
 ·rename_i k off' hx
  refine Good.look (T:=T) [] hh fun g H' ρ w hr _ _=>?_
  have hv:=hr x (by simp[ho,Op.operands]) 0
  rw[hx] at hv
  obtain⟨b,e,hc⟩:=hv.loc_inv
  refine⟨_,by rw[ex,e,run];rfl,.loc _ _ b hc⟩
 ·rename_i cs hx
  refine Good.look (T:=T) [] hh fun g H' ρ w hr _ _=>?_
  have hv:=hr x (by simp[ho,Op.operands]) 0
  rw[hx] at hv
  have hv:=hv.p_inv
  obtain⟨b,q,e⟩:=hv.ref_inv
  rw[e] at hv
  exact⟨_,by rw[ex,e,run];rfl,.p _ _ (hv.ref_drop off)⟩
 ·rename_i sz y hx
  refine Good.look (T:=T) [] hh fun g H' ρ w hr _ _=>?_
  have hv:=hr x (by simp[ho,Op.operands]) 0
  rw[hx] at hv
  have hv:=hv.eptr_inv.2
  obtain⟨b,q,e⟩:=hv.ref_inv
  rw[e] at hv
  exact⟨_,by rw[ex,e,run];rfl,.p _ _ (hv.ref_drop off)⟩
 ·exact hh.elim
end
def aLoad(T:Tab)(ty:Nat)(e:EV)(h:AHp)(K:Kt):Prop:=
 ogo (T.get ty) fun ti=>
  match e with
  | .loc k off=>
   match hp h k with
   | .box _ cs=>bgo ti.agg (bgo (Nat.ble (off+ti.size) cs.length) (K (.agg ((cs.drop off).take ti.size)) h ([k],[])) False) (ogo (nth cs off) fun x=>K x h ([k],[]))
   | _=>False
  | .p (.ref cs)=>bgo ti.agg (bgo (Nat.ble ti.size cs.length) (K (.p (.agg (cs.take ti.size))) h nofp) False) (ogo (nth cs 0) fun x=>K (.p x) h nofp)
  | .eptr sz x=>bgo ti.agg (bgo (Nat.beq sz ti.size&&!Nat.beq sz 1) (K (.p x) h nofp) (bgo (Nat.ble ti.size x.cells.length) (K (.p (.agg (x.cells.take ti.size))) h nofp) False)) (ogo (nth x.cells 0) fun y=>K (.p y) h nofp)
  | _=>False
theorem Ones.take{vs:List Value}(h:Ones vs)(n:Nat):Ones (vs.take n):=fun v hv=>h v (List.mem_of_mem_take hv)
theorem Ones.drop{vs:List Value}(h:Ones vs)(n:Nat):Ones (vs.drop n):=fun v hv=>h v (List.mem_of_mem_drop hv)
section
variable {P:Program} {T:Tab} (hT:TabOk P T) {o:Oper} {env:Env} {h:AHp} {K:Kt}
theorem load_agg{ti:TI}{ty:Nat}(hti:T.get ty=some ti)(hT:TabOk P T)(ha:ti.agg=true){w:World}{b q:Nat}{vs:List Value}(hl:vs.length=ti.size)(hc:∀ i v,vs[i]?=some v→w.cell? ⟨b,q+i,none⟩=some v):
 (Instr.loadAt ty (.pointer (some ⟨b,q,none⟩))).run P w=.ok (.agg vs.toArray) w:=by
 obtain⟨inf,d,h1,h2,h3,_,_,h4,_⟩:=tiOk_info (hT ty ti hti)
 exact run_loadAt_mid w b q ty vs d hc h2 (h4.trans ha) (by simp[h1,h3,hl])
theorem load_one{ti:TI}{ty:Nat}(hti:T.get ty=some ti)(hT:TabOk P T)(ha:ti.agg=false){w:World}{b q:Nat}{v:Value}(hc:w.cell? ⟨b,q,none⟩=some v):
 (Instr.loadAt ty (.pointer (some ⟨b,q,none⟩))).run P w=.ok v w:=by
 obtain⟨inf,d,h1,h2,h3,_,_,h4,_⟩:=tiOk_info (hT ty ti hti)
 exact run_loadAt_one w b q ty v d hc h2 (h4.trans ha)
theorem Rep.ref_take{fz:Fz}{v:Value}{cs:List AV}{w:World}(hr:Rep fz v (.ref cs))(hz:∀ b o v,fz b o=some v→w.pk b o=some v){n:Nat}(hn:n≤cs.length):
 ∃ (b q:Nat) (vs:List Value),v=.pointer (some ⟨b,q,none⟩)∧vs.length=n∧(∀ i v,vs[i]?=some v→w.cell? ⟨b,q+i,none⟩=some v)∧Rep fz (.agg vs.toArray) (.agg (cs.take n)):=by
 obtain⟨b,q,vs,rfl,h1,h2,h3,h4⟩:=hr.ref_row
 refine⟨b,q,vs.take n,rfl,by rw[List.length_take];omega,fun i v hv=>?_,.agg _ _ (h1.take n) (by simp[h2]) fun i v x hv hx=>?_⟩
 ·rw[List.getElem?_take] at hv
  split at hv
  ·exact pk_cell (hz _ _ _ (h3 i v hv)) (h1 v (List.mem_of_getElem? hv))
  ·cases hv
 ·rw[List.getElem?_take] at hv hx
  split at hv
  ·rename_i hi
   rw[if_pos hi] at hx
   exact h4 i v x hv hx
  ·cases hv
theorem Rep.ref_nth{fz:Fz}{v:Value}{cs:List AV}{w:World}(hr:Rep fz v (.ref cs))(hz:∀ b o v,fz b o=some v→w.pk b o=some v){x:AV}(hx:cs[0]?=some x):
 ∃ b q u,v=.pointer (some ⟨b,q,none⟩)∧w.cell? ⟨b,q,none⟩=some u∧Rep fz u x:=by
 obtain⟨b,q,vs,rfl,h1,h2,h3,h4⟩:=hr.ref_row
 have hlt:0<vs.length:=by
  cases cs with
  | nil=>simp at hx
  | cons y r=>rw[h2];simp
 refine⟨b,q,vs[0],rfl,?_,h4 0 _ x (List.getElem?_eq_getElem hlt) hx⟩
 exact pk_cell (hz _ _ _ (h3 0 _ (List.getElem?_eq_getElem hlt))) (h1 _ (List.getElem_mem hlt))
include hT in
theorem aLoad_good{ty:Nat}{x:Operand}(ho:o.op=.load ty x)(hh:aLoad T ty (opv T env 0 x) h K):Good P o env h K:=by
 obtain⟨ti,hti,hh⟩:=ogo_out hh
 have ex:∀ (ρ:Operand→Value) (w:World),(execOp ρ o).run P w=((Instr.loadAt ty (ρ x)).run P w).andThen fun v w=>.ok (.value v) w:=fun ρ w=>by simp[execOp,ho]
 split at hh
 ·rename_i k off hx
  split at hh
  ·rename_i t cs hk
   rcases bgo_out hh with ⟨ha,hh⟩ | ⟨ha,hh⟩
   ·obtain⟨hle,hh⟩:=bgo_outT hh
    have hle:=Nat.le_of_ble_eq_true hle
    refine Good.look (T:=T) [k] hh fun g H' ρ w hr hH hi=>?_
    have hv:=hr x (by simp[ho,Op.operands]) 0
    rw[hx] at hv
    have hkk:H' k=.box t cs:=(hH k (by simp)).trans hk
    have e:=hv.loc_at hkk
    have hob:=hi.obj k
    rw[hkk] at hob
    obtain⟨vs,q2,q3,q4,q1⟩:=hob.cells
    refine⟨.agg ((vs.drop off).take ti.size).toArray,?_,.agg _ _ ((q3.drop off).take _) (by simp[q2]) fun i v y hv hy=>?_⟩
    ·rw[ex,e,load_agg hti hT ha]
     ·rfl
     ·rw[List.length_take,List.length_drop];omega
     ·intro i v hv
      rw[List.getElem?_take] at hv
      split at hv
      ·rw[List.getElem?_drop] at hv
       exact q1 _ _ hv
      ·cases hv
    ·rw[List.getElem?_take] at hv hy
     split at hv
     ·rename_i hi'
      rw[if_pos hi'] at hy
      rw[List.getElem?_drop] at hv hy
      exact q4 _ _ _ hv hy
     ·cases hv
   ·obtain⟨y,hy,hh⟩:=ogo_out hh
    rw[nth_eq] at hy
    refine Good.look (T:=T) [k] hh fun g H' ρ w hr hH hi=>?_
    have hv:=hr x (by simp[ho,Op.operands]) 0
    rw[hx] at hv
    have hkk:H' k=.box t cs:=(hH k (by simp)).trans hk
    have e:=hv.loc_at hkk
    have hob:=hi.obj k
    rw[hkk] at hob
    obtain⟨vs,q2,q3,q4,q1⟩:=hob.cells
    have hlt:off<vs.length:=by
     rcases Nat.lt_or_ge off cs.length with h' | h'
     ·omega
     ·rw[List.getElem?_eq_none h'] at hy;cases hy
    refine⟨vs[off],?_,q4 _ _ _ (List.getElem?_eq_getElem hlt) hy⟩
    rw[ex,e,load_one hti hT ha (v:=vs[off]) (q1 _ _ (List.getElem?_eq_getElem hlt))]
    rfl
  ·exact hh.elim
 ·rename_i cs hx
  rcases bgo_out hh with ⟨ha,hh⟩ | ⟨ha,hh⟩
  ·obtain⟨hle,hh⟩:=bgo_outT hh
   have hle:=Nat.le_of_ble_eq_true hle
   refine Good.look (T:=T) [] hh fun g H' ρ w hr hH hi=>?_
   have hv:=hr x (by simp[ho,Op.operands]) 0
   rw[hx] at hv
   obtain⟨b,q,vs,e,h1,h2,h3⟩:=hv.p_inv.ref_take hi.fz hle
   exact⟨_,by rw[ex,e,load_agg hti hT ha h1 h2];rfl,.p _ _ h3⟩
  ·obtain⟨y,hy,hh⟩:=ogo_out hh
   rw[nth_eq] at hy
   refine Good.look (T:=T) [] hh fun g H' ρ w hr hH hi=>?_
   have hv:=hr x (by simp[ho,Op.operands]) 0
   rw[hx] at hv
   obtain⟨b,q,u,e,h1,h2⟩:=hv.p_inv.ref_nth hi.fz hy
   exact⟨_,by rw[ex,e,load_one hti hT ha h1];rfl,.p _ _ h2⟩
 ·rename_i sz y hx
  rcases bgo_out hh with ⟨ha,hh⟩ | ⟨ha,hh⟩
  ·rcases bgo_out hh with ⟨hs,hh⟩ | ⟨hs,hh⟩
   ·rw[Bool.and_eq_true] at hs
    have hs1:=nbt hs.1
    have hs2:sz≠1:=fun e=>by rw[e] at hs;simp at hs
    refine Good.look (T:=T) [] hh fun g H' ρ w hr hH hi=>?_
    have hv:=hr x (by simp[ho,Op.operands]) 0
    rw[hx] at hv
    obtain⟨hlen,hv⟩:=hv.eptr_inv
    obtain⟨b,q,vs,e,h1,h2,h3⟩:=hv.ref_take hi.fz (n:=ti.size) (by omega)
    refine⟨_,by rw[ex,e,load_agg hti hT ha h1 h2];rfl,.p _ _ ?_⟩
    rw[List.take_of_length_le (by omega)] at h3
    cases y with
    | agg cs=>exact h3
    | _=>exact absurd hlen.symm hs2
   ·obtain⟨hle,hh⟩:=bgo_outT hh
    have hle:=Nat.le_of_ble_eq_true hle
    refine Good.look (T:=T) [] hh fun g H' ρ w hr hH hi=>?_
    have hv:=hr x (by simp[ho,Op.operands]) 0
    rw[hx] at hv
    obtain⟨b,q,vs,e,h1,h2,h3⟩:=hv.eptr_inv.2.ref_take hi.fz hle
    exact⟨_,by rw[ex,e,load_agg hti hT ha h1 h2];rfl,.p _ _ h3⟩
  ·obtain⟨z,hz,hh⟩:=ogo_out hh
   rw[nth_eq] at hz
   refine Good.look (T:=T) [] hh fun g H' ρ w hr hH hi=>?_
   have hv:=hr x (by simp[ho,Op.operands]) 0
   rw[hx] at hv
   obtain⟨b,q,u,e,h1,h2⟩:=hv.eptr_inv.2.ref_nth hi.fz hz
   exact⟨_,by rw[ex,e,load_one hti hT ha h1];rfl,.p _ _ h2⟩
 ·exact hh.elim
theorem ERep.cellsOf{g H}{v:Value}{e:EV}(hv:ERep g H v e){cs:List EV}(hc:cellsOf e=some cs):
 v.cells.toList.length=cs.length∧Ones v.cells.toList∧∀ (i:Nat) u y,v.cells.toList[i]?=some u→cs[i]?=some y→ERep g H u y:=by
 have one:v.oneCell'=true→v.cells=#[v]:=fun h=>by cases v <;> first | rfl | (simp[Value.oneCell'] at h)
 have key:v.oneCell'=true→cs=[e]→v.cells.toList.length=cs.length∧Ones v.cells.toList∧∀ (i:Nat) u y,v.cells.toList[i]?=some u→cs[i]?=some y→ERep g H u y:=fun h1 h2=>by
  subst h2
  rw[one h1]
  refine⟨rfl,by simpa[Ones] using h1,fun i u y hu hy=>?_⟩
  cases i with
  | zero=>simp at hu hy;subst hu;subst hy;exact hv
  | succ i=>simp at hu
 cases e with
 | dead=>simp[Ab.cellsOf] at hc
 | tup vs=>simp[Ab.cellsOf] at hc
 | p x=>
  simp only[Ab.cellsOf,Option.some.injEq] at hc
  subst hc
  obtain⟨h1,h2,h3⟩:=hv.p_inv.cells
  refine⟨by simpa using h1,h2,fun i u y hu hy=>?_⟩
  rw[List.getElem?_map] at hy
  cases hq:x.cells[i]? with
  | none=>rw[hq] at hy;cases hy
  | some z=>rw[hq] at hy;cases hy;exact .p _ _ (h3 i u z hu hq)
 | agg ds=>
  simp only[Ab.cellsOf,Option.some.injEq] at hc
  subst hc
  cases hv with
  | agg vs _ h1 hl h=>exact⟨by simpa[Value.cells] using hl,by simpa[Value.cells] using h1,by simpa[Value.cells] using h⟩
 | loc k off=>simp only[Ab.cellsOf,Option.some.injEq] at hc;exact key (by cases hv;rfl) hc.symm
 | own sz es k=>simp only[Ab.cellsOf,Option.some.injEq] at hc;exact key (by cases hv;rfl) hc.symm
 | full sz es=>simp only[Ab.cellsOf,Option.some.injEq] at hc;exact key (by cases hv;rfl) hc.symm
 | eptr sz x=>simp only[Ab.cellsOf,Option.some.injEq] at hc;exact key (by cases hv;rfl) hc.symm
 | arr sz k off n=>simp only[Ab.cellsOf,Option.some.injEq] at hc;exact key (by cases hv;rfl) hc.symm
 | fn f a b=>simp only[Ab.cellsOf,Option.some.injEq] at hc;exact key (by cases hv;rfl) hc.symm
 | mtok k=>simp only[Ab.cellsOf,Option.some.injEq] at hc;exact key (by cases hv <;> rfl) hc.symm
def aStore(T:Tab)(ty:Nat)(e v:EV)(h:AHp)(K:Kt):Prop:=
 ogo (T.get ty) fun ti=>
  match e with
  | .loc k off=>
   match hp h k with
   | .box t cs=>ogo (cellsOf v) fun vs=>bgo (Nat.beq vs.length ti.size&&(Nat.ble (off+ti.size) cs.length&&Nat.blt 0 ti.size)) (K (.tup []) ((k,.box t (setSeg cs off vs))::h) ([],[k])) False
   | _=>False
  | _=>False
theorem seg_get{α:Type}{l n:List α}{o:Nat}(h:o+n.length≤l.length)(i:Nat):(l.take o++n++l.drop (o+n.length))[i]?=if o≤i∧i<o+n.length then n[i - o]? else l[i]?:=by
 have hlen:(l.take o).length=o:=by rw[List.length_take];omega
 split
 ·rename_i h1
  rw[List.append_assoc,List.getElem?_append_right (by omega),hlen,List.getElem?_append_left (by omega)]
 ·rename_i h1
  rcases Nat.lt_or_ge i o with h2 | h2
  ·rw[List.append_assoc,List.getElem?_append_left (by omega),List.getElem?_take,if_pos h2]
  ·rw[List.append_assoc,List.getElem?_append_right (by omega),hlen,List.getElem?_append_right (by omega),List.getElem?_drop,show o+n.length+(i - o - n.length)=i by omega]
include hT in
theorem aStore_good{ty:Nat}{x y:Operand}{yt:Nat}(ho:o.op=.store ty x y)(hh:aStore T ty (opv T env 0 x) (opv T env yt y) h K):Good P o env h K:=by
 obtain⟨ti,hti,hh⟩:=ogo_out hh
 obtain⟨inf,d,t1,t2,t3,_⟩:=tiOk_info (hT ty ti hti)
 split at hh
 ·rename_i k off hx
  split at hh
  ·rename_i t cs hk
   obtain⟨vs,hvs,hh⟩:=ogo_out hh
   obtain⟨hb,hh⟩:=bgo_outT hh
   rw[Bool.and_eq_true,Bool.and_eq_true] at hb
   have hb1:=nbt hb.1
   have hb2:=Nat.le_of_ble_eq_true hb.2.1
   have hb3:0<ti.size:=by have:=hb.2.2;simp[Nat.blt] at this;omega
   refine fun _ _ _=>⟨_,_,[],[k],⟨fun j hj=>?_,fun Γ g a w env' H' ht hH hr hi hf next Q hn=>?_⟩,hh⟩
   ·have hjk:j≠k:=by simpa using hj
    rw[hp_cons,if_neg hjk]
   ·have hkk:H' k=.box t cs:=(hH k (.inr (by simp))).trans hk
    have hv:=opv_rep (T:=T) hr ht (y:=x) (by simp[ho,Op.operands]) 0
    rw[hx] at hv
    have e:=hv.loc_at hkk
    have hy:=opv_rep (T:=T) hr ht (y:=y) (by simp[ho,Op.operands]) yt
    obtain⟨c1,c2,c3⟩:=hy.cellsOf hvs
    have hob:=hi.obj k
    rw[hkk] at hob
    have hlt:0<g.hi k:=by
     rcases Nat.eq_zero_or_pos (g.hi k) with h0 | h0
     ·have:=hob.1 h0
      subst this
      simp at hb2;omega
     ·exact h0
    obtain⟨old,q1,⟨q2,q2'⟩,q3,q4,q5⟩:=hob.2 hlt
    have hrun:=run_storeAt_row (P:=P) w (g.blk k) off ty t old.toArray (a.eval y) q1 (by simp only[t1,Option.map_some,t3];congr 1;omega) (by simp only[List.size_toArray];omega) c2
    simp only at hrun
    generalize (a.eval y).cells.toList=nv at hrun c1 c2 c3
    have hH2:ovr [k] (hp ((k,.box t (setSeg cs off vs))::h)) H'=upd H' k (.box t (setSeg cs off vs)):=by rw[ovr_one,hp_cons,if_pos rfl]
    rw[hH2] at hn
    have hseg:=setSeg_eq vs cs off (by omega)
    have hnew:∀ (i:Nat) v z,(old.take off++nv++old.drop (off+nv.length))[i]?=some v→(setSeg cs off vs)[i]?=some z→ERep g H' v z:=fun i v z hv hz=>by
     rw[hseg,seg_get (by omega)] at hz
     rw[seg_get (by omega)] at hv
     split at hz
     ·rename_i h1
      rw[if_pos (by omega)] at hv
      exact c3 _ _ _ hv hz
     ·rename_i h1
      rw[if_neg (by omega)] at hv
      exact q4 _ _ _ hv hz
    have hw:=hi.setBox (cs':=setSeg cs off vs) hkk hlt (setSeg_length _ _ _) (vs:=old.take off++nv++old.drop (off+nv.length)) (by simp;omega)
     (fun v hv=>by
      rcases List.mem_append.1 hv with hv | hv
      ·rcases List.mem_append.1 hv with hv | hv
       ·exact q3 v (List.mem_of_mem_take hv)
       ·exact c2 v hv
      ·exact q3 v (List.mem_of_mem_drop hv)) hnew
    have:=hn undef g _ (GLe.of_box hkk (setSeg_length _ _ _)) hw (hf.setBox hkk hlt (setSeg_length _ _ _) _) (.tup [] [] rfl (by intro i v x h;simp at h))
    unfold Oper.wp
    rw[show(execOp a.eval o).run P w=.ok .skip _ from by simp only[execOp,ho,Sem.run_bind];rw[e,hrun];rfl]
    exact this
  ·exact hh.elim
 ·exact hh.elim
def aNew(d:Option Tmp)(h:AHp)(t:TypeId)(cs:List EV)(K:Kt):Prop:=
 ogo d fun d=>match hp h d with | .gone=>K (.loc d 0) ((d,.box t cs)::h) ([],[d]) | _=>False
theorem aNew_good{t:TypeId}{cs:List EV}
 (hx:∀ (g:Gh) (H':Hp) (a:Act) (w:World) (env':Nat→EV),(∀ t∈opTmps o.op,env' t=lk env t)→(∀ t,ERep g H' (a.tmps.getD t undef) (env' t))→∃ vs:List Value,(execOp a.eval o).run P w=.ok (.value (.pointer (some ⟨w.heap.size,0,none⟩))) (w.alloc (.cells vs.toArray t (0,0)))∧vs.length=cs.length∧Ones vs ∧
  ∀ (i:Nat) v x,vs[i]?=some v→cs[i]?=some x→ERep g H' v x){d:Option Tmp}(hh:aNew d h t cs K):Good P o env h K:=by
 unfold aNew at hh
 obtain⟨d,hd0,h2⟩:=ogo_out hh
 subst hd0
 replace hh:=h2
 split at hh
 ·rename_i hd
  refine fun _ _ _=>⟨_,_,[],[d],⟨fun j hj=>?_,fun Γ g a w env' H' ht hH hr hi hf next Q hn=>?_⟩,hh⟩
  ·have hjk:j≠d:=by simpa using hj
   rw[hp_cons,if_neg hjk]
  ·have hdd:H' d=.gone:=(hH d (.inr (by simp))).trans hd
   obtain⟨vs,hrun,hl,h1,hc⟩:=hx g H' a w env' ht hr
   have hH2:ovr [d] (hp ((d,.box t cs)::h)) H'=upd H' d (.box t cs):=by rw[ovr_one,hp_cons,if_pos rfl]
   rw[hH2] at hn
   obtain⟨hw,hle⟩:=hi.newBox hdd (Grew.alloc w (.cells vs.toArray t (0,0))) (Nat.le_of_eq hl.symm) h1 hc
   have:=hn (.pointer (some ⟨w.heap.size,0,none⟩)) _ _ hle hw (hf.newBox hi hdd (Grew.alloc w _) _ _ _ _) (by
    exact .loc d 0 _ (.inr ⟨(Gh.name_blk ..).symm,t,cs,by simp⟩))
   unfold Oper.wp
   rw[hrun]
   exact this
 ·exact hh.elim
theorem zCells_rep{g H}:∀ {vs:List Value} {es:List EV},zCells vs es=true→vs.length=es.length∧Ones vs∧∀ (i:Nat) v x,vs[i]?=some v→es[i]?=some x→ERep g H v x
 | [],[],_=>⟨rfl,by simp[Ones],by intro i v x h;simp at h⟩
 | [],_::_,h=>by simp[zCells] at h
 | _::_,[],h=>by simp[zCells] at h
 | v::r,e::s,h=>by
  simp only[zCells,Bool.and_eq_true] at h
  obtain⟨h1,h2⟩:=h
  obtain⟨i1,i2,i3⟩:=zCells_rep (g:=g) (H:=H) h2
  have hv:v.oneCell'=true∧ERep g H v e:=by
   have imm:∀ u:Value,u.oneCell'=true→ERep g H u (.p (.imm u)):=fun u h=>.p u _ (.imm u h)
   unfold zCell at h1
   split at h1
   ·exact⟨rfl,.full none 0 _ [] (.slice none 0 0 _ [] [] rfl (Nat.le_refl _) (by omega) (by simp) (by simp[Ones]) (by intro i v h;simp at h) rfl (by intro i v x h;simp at h))⟩
   ·rw[Bool.and_eq_true] at h1
    have e1:=odt h1.1
    have e2:=odt h1.2
    subst e1;subst e2;exact⟨rfl,imm _ rfl⟩
   ·have e1:=odt h1
    subst e1;exact⟨rfl,imm _ rfl⟩
   ·rw[Bool.and_eq_true] at h1
    rename_i s s'
    have e1:=nbt h1.1
    have e2:=nbt h1.2
    have:s=s':=by
     cases s;cases s'
     simp at e1 e2
     simp[e1,e2]
    subst this;exact⟨rfl,imm _ rfl⟩
   ·exact⟨rfl,imm _ rfl⟩
   ·exact⟨rfl,imm _ rfl⟩
   ·exact⟨rfl,imm _ rfl⟩
   ·exact⟨rfl,imm _ rfl⟩
   ·cases h1
  refine⟨by simp[i1],?_,fun i u x hu hx=>?_⟩
  ·intro u hu
   rcases List.mem_cons.1 hu with rfl | hu
   ·exact hv.1
   ·exact i2 u hu
  ·cases i with
   | zero=>simp at hu hx;subst hu;subst hx;exact hv.2
   | succ i=>simp at hu hx;exact i3 i u x hu hx
theorem zOk_rep{g H}{z:Option Value}{es:List EV}(h:zOk z es=true):∃ v,z=some v∧v.cells.toList.length=es.length∧Ones v.cells.toList∧∀ (i:Nat) u x,v.cells.toList[i]?=some u→es[i]?=some x→ERep g H u x:=by
 cases z with
 | none=>simp[zOk] at h
 | some v=>exact⟨v,rfl,zCells_rep h⟩
def aAlloc(T:Tab)(ty:Nat)(d:Option Tmp)(h:AHp)(K:Kt):Prop:=ogo (T.get ty) fun ti=>aNew d h ty ti.zero K
include hT in
theorem aAlloc_good{ty:Nat}(ho:o.op=.alloc ty)(hh:aAlloc T ty o.dst h K):Good P o env h K:=by
 obtain⟨ti,hti,hh⟩:=ogo_out hh
 obtain⟨inf,d,t1,t2,t3,_,t5,_⟩:=tiOk_info (hT ty ti hti)
 refine aNew_good (fun g H' a w env' ht hr=>?_) hh
 obtain⟨z,hz,z1,z2,z3⟩:=zOk_rep (g:=g) (H:=H') t5
 refine⟨z.cells.toList,?_,z1,z2,z3⟩
 simp[execOp,ho,Instr.alloc,zeroValue,typeInfo,t1,hz,newVar,newRow]
def aBox(T:Tab)(ty:Nat)(e:EV)(d:Option Tmp)(h:AHp)(K:Kt):Prop:=ogo (cellsOf e) fun cs=>aNew d h ty cs K
theorem aBox_good{ty:Nat}{x:Operand}(ho:o.op=.box ty x)(hh:aBox T ty (opv T env ty x) o.dst h K):Good P o env h K:=by
 obtain⟨cs,hcs,hh⟩:=ogo_out hh
 refine aNew_good (fun g H' a w env' ht hr=>?_) hh
 have hv:=opv_rep (T:=T) hr ht (y:=x) (by simp[ho,Op.operands]) ty
 obtain⟨c1,c2,c3⟩:=hv.cellsOf hcs
 exact⟨(a.eval x).cells.toList,by simp[execOp,ho,Instr.box,newVar,newRow],c1,c2,c3⟩
end
abbrev eint(k:IntKind)(n:Int):EV:=.p (.imm (.int k n))
abbrev ebool(b:Bool):EV:=.p (.imm (.bool b))
abbrev estr(s:ByteArray):EV:=.p (.imm (.string s))
section
variable {P:Program} {T:Tab} (hT:TabOk P T) {o:Oper} {env:Env} {h:AHp} {K:Kt}
def aBin(T:Tab)(op:BinOp)(xt:Nat)(x y:EV)(h:AHp)(K:Kt):Prop:=
 match x,y with
 | .p (.imm (.int k a)),.p (.imm (.int k' b))=>bgo (decide (k=k')) (match op with
  | .add=>ngo (k.wrap (a+b)) fun r=>K (eint k r) h nofp
  | .sub=>ngo (k.wrap (a - b)) fun r=>K (eint k r) h nofp
  | .mul=>ngo (k.wrap (a*b)) fun r=>K (eint k r) h nofp
  | .quo=>b≠0∧ngo (k.wrap (a.tdiv b)) fun r=>K (eint k r) h nofp
  | .rem=>b≠0∧ngo (a.tmod b) fun r=>K (eint k r) h nofp
  | .eql=>K (ebool (a==b)) h nofp
  | .neq=>K (ebool (a != b)) h nofp
  | .lss=>K (ebool (decide (a<b))) h nofp
  | .leq=>K (ebool (decide (a≤b))) h nofp
  | .gtr=>K (ebool (decide (a>b))) h nofp
  | .geq=>K (ebool (decide (a≥b))) h nofp
  | _=>False) False
 | .p (.imm (.string a)),.p (.imm (.string b))=>match op with
  | .add=>((a.size+b.size:Nat):Int)≤9223372036854775807∧K (estr (a++b)) h nofp
  | .eql=>K (ebool (a.toList==b.toList)) h nofp
  | .neq=>K (ebool !(a.toList==b.toList)) h nofp
  | _=>False
 | .p (.imm (.bool a)),.p (.imm (.bool b))=>ogo (T.get xt) fun ti=>bgo (Nat.beq ti.kind 5) (match op with
  | .eql=>K (ebool (a==b)) h nofp
  | .neq=>K (ebool !(a==b)) h nofp
  | _=>False) False
 | _,_=>False
theorem i64_max:IntKind.i64.max=9223372036854775807:=by decide
theorem run_eq_bool{t:TypeId}(ht:P.underlying t=some .bool)(a b:Bool)(w:World):(Op.equal t (.bool a) (.bool b)).run P w=.ok (a==b) w:=by
 have:∀ d,(Op.equalIn (d+1) t (.bool a) (.bool b)).run P w=.ok (a==b) w:=fun d=>by simp[Op.equalIn,run_underlying ht]
 exact this 9999
theorem binOp_eql_bool(t:TypeId)(x y:Operand)(a b:Bool):(do eqGuard .eql t x y (.bool a) (.bool b);Go.binOp .eql t (.bool a) (.bool b):Sem Value)=(do let _ ← (pure ():Sem Unit);let r ← Op.equal t (.bool a) (.bool b);pure (.bool r)):=rfl
theorem binOp_neq_bool(t:TypeId)(x y:Operand)(a b:Bool):(do eqGuard .neq t x y (.bool a) (.bool b);Go.binOp .neq t (.bool a) (.bool b):Sem Value)=(do let _ ← (pure ():Sem Unit);let r ← Op.equal t (.bool a) (.bool b);pure (.bool !r)):=rfl
include hT in
theorem aBin_good{op:BinOp}{xt yt:Nat}{x y:Operand}(ho:o.op=.binOp op xt x y yt)(hh:aBin T op xt (opv T env xt x) (opv T env yt y) h K):Good P o env h K:=by
 have hx':∀ {g:Gh} {H':Hp} {ρ:Operand→Value},(∀ y∈o.op.operands.toList,∀ ty,ERep g H' (ρ y) (opv T env ty y))→ERep g H' (ρ x) (opv T env xt x):=fun hr=>hr x (by simp[ho,Op.operands]) xt
 have hy':∀ {g:Gh} {H':Hp} {ρ:Operand→Value},(∀ y∈o.op.operands.toList,∀ ty,ERep g H' (ρ y) (opv T env ty y))→ERep g H' (ρ y) (opv T env yt y):=fun hr=>hr y (by simp[ho,Op.operands]) yt
 unfold aBin at hh
 split at hh
 ·rename_i k a k' b hx hy
  replace hh:=bgo_outT hh
  obtain⟨hk,hh⟩:=hh
  have hk:=odt hk
  subst hk
  have go:∀ (u:Value) (hu:u.oneCell'=true),K (.p (.imm u)) h nofp→(∀ w,(do eqGuard op xt x y (.int k a) (.int k b);Go.binOp op xt (.int k a) (.int k b):Sem Value).run P w=.ok u w)→Good P o env h K:=fun u hu hk hrun=>by
   refine Good.look (T:=T) [] hk fun g H' ρ w hr _ _=>⟨u,?_,.p _ _ (.imm _ hu)⟩
   have e1:=hx' hr
   have e2:=hy' hr
   rw[hx] at e1;rw[hy] at e2
   have hw:=hrun w
   simp only[execOp,ho,e1.val,e2.val,Sem.run_bind] at hw ⊢
   rw[hw];rfl
  cases op
  case add=>obtain⟨r,hr,hh⟩:=hh;subst hr;exact go _ rfl hh fun w=>by simp[eqGuard,Go.binOp,Op.intArith]
  case sub=>obtain⟨r,hr,hh⟩:=hh;subst hr;exact go _ rfl hh fun w=>by simp[eqGuard,Go.binOp,Op.intArith]
  case mul=>obtain⟨r,hr,hh⟩:=hh;subst hr;exact go _ rfl hh fun w=>by simp[eqGuard,Go.binOp,Op.intArith]
  case quo=>obtain⟨h0,r,hr,hh⟩:=hh;subst hr;exact go _ rfl hh fun w=>by simp[eqGuard,Go.binOp,Op.intDiv,h0]
  case rem=>obtain⟨h0,r,hr,hh⟩:=hh;subst hr;exact go _ rfl hh fun w=>by simp[eqGuard,Go.binOp,Op.intDiv,h0]
  case eql=>exact go (.bool (a==b)) rfl hh fun w=>by simp[eqGuard,Go.binOp,Op.intCmp]
  case neq=>exact go (.bool (a != b)) rfl hh fun w=>by simp[eqGuard,Go.binOp,Op.intCmp]
  case lss=>exact go (.bool (decide (a<b))) rfl hh fun w=>by simp[eqGuard,Go.binOp,Op.intCmp]
  case leq=>exact go (.bool (decide (a≤b))) rfl hh fun w=>by simp[eqGuard,Go.binOp,Op.intCmp]
  case gtr=>exact go (.bool (decide (a>b))) rfl hh fun w=>by simp[eqGuard,Go.binOp,Op.intCmp]
  case geq=>exact go (.bool (decide (a≥b))) rfl hh fun w=>by simp[eqGuard,Go.binOp,Op.intCmp]
  all_goals exact hh.elim
 ·rename_i a b hx hy
  have go:∀ (u:Value) (hu:u.oneCell'=true),K (.p (.imm u)) h nofp→(∀ w,(do eqGuard op xt x y (.string a) (.string b);Go.binOp op xt (.string a) (.string b):Sem Value).run P w=.ok u w)→Good P o env h K:=fun u hu hk hrun=>by
   refine Good.look (T:=T) [] hk fun g H' ρ w hr _ _=>⟨u,?_,.p _ _ (.imm _ hu)⟩
   have e1:=hx' hr
   have e2:=hy' hr
   rw[hx] at e1;rw[hy] at e2
   have hw:=hrun w
   simp only[execOp,ho,e1.val,e2.val,Sem.run_bind] at hw ⊢
   rw[hw];rfl
  cases op
  case add=>
   obtain⟨h0,hh⟩:=hh
   refine go (.string (a++b)) rfl hh fun w=>?_
   have h1:¬ (((a.size+b.size:Nat):Int)>IntKind.i64.max):=by rw[i64_max];omega
   simp only[eqGuard,Go.binOp,Op.stringOp,if_neg h1]
   rfl
  case eql=>exact go (.bool (a.toList==b.toList)) rfl hh fun w=>by simp[eqGuard,Go.binOp,Op.stringOp]
  case neq=>exact go (.bool !(a.toList==b.toList)) rfl hh fun w=>by simp[eqGuard,Go.binOp,Op.stringOp]
  all_goals exact hh.elim
 ·rename_i a b hx hy
  replace hh:=ogo_out hh
  obtain⟨ti,hti,hh⟩:=hh
  replace hh:=bgo_outT hh
  obtain⟨hk,hh⟩:=hh
  obtain⟨inf,d,t1,t2,_,_,_,_,_,_,_,_,t3,_⟩:=tiOk_info (hT xt ti hti)
  have t3:=t3 (nbt hk)
  subst t3
  have go:∀ (u:Value) (hu:u.oneCell'=true),K (.p (.imm u)) h nofp→(∀ w,(do eqGuard op xt x y (.bool a) (.bool b);Go.binOp op xt (.bool a) (.bool b):Sem Value).run P w=.ok u w)→Good P o env h K:=fun u hu hk hrun=>by
   refine Good.look (T:=T) [] hk fun g H' ρ w hr _ _=>⟨u,?_,.p _ _ (.imm _ hu)⟩
   have e1:=hx' hr
   have e2:=hy' hr
   rw[hx] at e1;rw[hy] at e2
   have hw:=hrun w
   simp only[execOp,ho,e1.val,e2.val,Sem.run_bind] at hw ⊢
   rw[hw];rfl
  cases op
  case eql=>exact go (.bool (a==b)) rfl hh fun w=>by rw[binOp_eql_bool,Sem.run_bind,run_eq_bool t2];rfl
  case neq=>exact go (.bool !(a==b)) rfl hh fun w=>by rw[binOp_neq_bool,Sem.run_bind,run_eq_bool t2];rfl
  all_goals exact hh.elim
 ·exact hh.elim
def aUn(op:UnOp)(x:EV)(h:AHp)(K:Kt):Prop:=
 match op,x with
 | .not,.p (.imm (.bool b))=>K (ebool !b) h nofp
 | .neg,.p (.imm (.int k a))=>ngo (k.wrap (0 - a)) fun r=>K (eint k r) h nofp
 | _,_=>False
theorem aUn_good{op:UnOp}{xt:Nat}{x:Operand}(ho:o.op=.unOp op xt x)(hh:aUn op (opv T env xt x) h K):Good P o env h K:=by
 have hx':∀ {g:Gh} {H':Hp} {ρ:Operand→Value},(∀ y∈o.op.operands.toList,∀ ty,ERep g H' (ρ y) (opv T env ty y))→ERep g H' (ρ x) (opv T env xt x):=fun hr=>hr x (by simp[ho,Op.operands]) xt
 unfold aUn at hh
 split at hh
 ·rename_i b hx
  refine Good.look (T:=T) [] hh fun g H' ρ w hr _ _=>⟨.bool !b,?_,.p _ _ (.imm _ rfl)⟩
  have e1:=hx' hr
  rw[hx] at e1
  simp[execOp,ho,e1.val,Op.unary]
 ·rename_i k a hx
  obtain⟨r,hr,hh⟩:=hh;subst hr
  refine Good.look (T:=T) [] hh fun g H' ρ w hr _ _=>⟨.int k (k.wrap (0 - a)),?_,.p _ _ (.imm _ rfl)⟩
  have e1:=hx' hr
  rw[hx] at e1
  simp[execOp,ho,e1.val,Op.unary,Op.intArith]
 ·exact hh.elim
def aConv(T:Tab)(src dst:Nat)(x:EV)(h:AHp)(K:Kt):Prop:=
 ogo (T.get src) fun ts=>ogo (T.get dst) fun td=>
  match x with
  | .p (.imm (.int _ n))=>bgo (Nat.beq td.kind 6) (ngo (td.ik.wrap n) fun r=>K (eint td.ik r) h nofp) False
  | .p (.imm (.string s))=>bgo (Nat.beq ts.kind 4&&Nat.beq td.kind 4) (K x h nofp) False
  | _=>False
include hT in
theorem aConv_good{src dst:Nat}{x:Operand}(ho:o.op=.convert src dst x)(hh:aConv T src dst (opv T env src x) h K):Good P o env h K:=by
 have hx':∀ {g:Gh} {H':Hp} {ρ:Operand→Value},(∀ y∈o.op.operands.toList,∀ ty,ERep g H' (ρ y) (opv T env ty y))→ERep g H' (ρ x) (opv T env src x):=fun hr=>hr x (by simp[ho,Op.operands]) src
 replace hh:=ogo_out hh
 obtain⟨ts,hts,hh⟩:=hh
 replace hh:=ogo_out hh
 obtain⟨td,htd,hh⟩:=hh
 obtain⟨_,d1,_,s2,_,_,_,_,_,_,_,s4,_⟩:=tiOk_info (hT src ts hts)
 obtain⟨_,d2,_,t2,_,_,_,_,_,_,_,t4,_,t3,_⟩:=tiOk_info (hT dst td htd)
 split at hh
 ·rename_i k n hx
  obtain⟨hk,hh⟩:=bgo_outT hh
  have t3:=t3 (nbt hk)
  subst t3
  obtain⟨r,hr,hh⟩:=hh;subst hr
  refine Good.look (T:=T) [] hh fun g H' ρ w hr _ _=>⟨.int td.ik (td.ik.wrap n),?_,.p _ _ (.imm _ rfl)⟩
  have e1:=hx' hr
  rw[hx] at e1
  simp[execOp,ho,e1.val,Go.convert,run_underlying s2,run_underlying t2,Conv.intToInt]
 ·rename_i s hx
  obtain⟨hk,hh⟩:=bgo_outT hh
  rw[Bool.and_eq_true] at hk
  have s4:=s4 (nbt hk.1)
  have t4:=t4 (nbt hk.2)
  subst s4;subst t4
  refine Good.look (T:=T) [] hh fun g H' ρ w hr _ _=>⟨.string s,?_,hx▸.p _ _ (.imm _ rfl)⟩
  have e1:=hx' hr
  rw[hx] at e1
  simp[execOp,ho,e1.val,Go.convert,run_underlying s2,run_underlying t2]
 ·exact hh.elim
theorem ERep.slOf{g H v e sz es}(hs:slOf e=some (sz,es))(hv:ERep g H v e):∃ p n cap,v=.slice p n cap∧n=es.length∧Rep g.fz (.slice p n cap) (.slice sz es):=by
 have key:∀ v,Rep g.fz v (.slice sz es)→∃ p n cap,v=.slice p n cap∧n=es.length∧Rep g.fz (.slice p n cap) (.slice sz es):=fun v hr=>by
  cases hr with
  | slice p n cap _ _ vs hn hc hm hs h1 hr hl h=>exact⟨p,n,cap,rfl,hn,.slice p n cap sz es vs hn hc hm hs h1 hr hl h⟩
 unfold Ab.slOf at hs
 split at hs
 ·simp only[Option.some.injEq,Prod.mk.injEq] at hs;obtain⟨rfl,rfl⟩:=hs;exact key v hv.p_inv
 ·simp only[Option.some.injEq,Prod.mk.injEq] at hs
  obtain⟨rfl,rfl⟩:=hs
  rw[hv.val]
  exact⟨_,_,_,rfl,rfl,.slice _ 0 _ 1 [] [] rfl (Nat.zero_le _) (by omega) (fun _ h=>by cases h) (fun _ h=>by cases h) (fun i v h=>by simp at h) rfl (fun i v x h=>by simp at h)⟩
 ·simp only[Option.some.injEq,Prod.mk.injEq] at hs;obtain⟨rfl,rfl⟩:=hs;cases hv with | own p n cap _ _ k m h=>exact key _ h
 ·simp only[Option.some.injEq,Prod.mk.injEq] at hs;obtain⟨rfl,rfl⟩:=hs;cases hv with | full p n _ _ h=>exact key _ h
 ·cases hs
theorem ERep.arr_inv{g H v sz k off n}(h:ERep g H v (.arr sz k off n)):∃ p cap,v=.slice p n cap∧n≤cap∧n≤9223372036854775807∧(n≠0→∃ b,p=some ⟨b,off,none⟩) ∧
 (H k=.lost∨∃ t cs,H k=.box t cs∧off+n*sz≤cs.length∧((0<g.hi k∧p=some ⟨g.blk k,off,none⟩∧off+cap*sz≤g.hi k)∨(g.hi k=0∧cap=0))):=by
 cases h with | arr p _ _ _ _ cap h1 h2 h3 h4=>exact⟨p,cap,rfl,h1,h2,h3,h4⟩
def aIndexAddr(T:Tab)(ty:Nat)(e i:EV)(h:AHp)(K:Kt):Prop:=
 ogo (T.get ty) fun ti=>
  match i with
  | .p (.imm (.int _ iv))=>
   (match e with
   | .loc k off=>bgo (Nat.beq ti.kind 2) (∃ n:Nat,iv=n∧n<ti.len∧K (.loc k (off+n*ti.esz)) h nofp) False
   | .arr sz k off n=>bgo (Nat.beq ti.kind 3&&Nat.beq sz ti.esz) (∃ m:Nat,iv=m∧m<n∧K (.loc k (off+m*sz)) h nofp) False
   | .p (.ref cs)=>bgo (Nat.beq ti.kind 2) (∃ n:Nat,iv=n∧n<ti.len∧K (.p (.ref (cs.drop (n*ti.esz)))) h nofp) False
   | .eptr _ y=>bgo (Nat.beq ti.kind 2) (∃ n:Nat,iv=n∧n<ti.len∧K (.p (.ref (y.cells.drop (n*ti.esz)))) h nofp) False
   | e=>ogo2 (slOf e) fun sz es=>bgo (Nat.beq ti.kind 3&&(Nat.beq sz ti.esz&&Nat.blt 0 sz)) (igo es iv fun x=>K (.eptr sz x) h nofp) False)
  | _=>False
include hT in
theorem aIndexAddr_good{ty it:Nat}{x i:Operand}(ho:o.op=.indexAddr ty x i)(hh:aIndexAddr T ty (opv T env ty x) (opv T env it i) h K):Good P o env h K:=by
 have hx':∀ {g:Gh} {H':Hp} {ρ:Operand→Value},(∀ y∈o.op.operands.toList,∀ ty,ERep g H' (ρ y) (opv T env ty y))→ERep g H' (ρ x) (opv T env ty x):=fun hr=>hr x (by simp[ho,Op.operands]) ty
 have hi':∀ {g:Gh} {H':Hp} {ρ:Operand→Value},(∀ y∈o.op.operands.toList,∀ ty,ERep g H' (ρ y) (opv T env ty y))→ERep g H' (ρ i) (opv T env it i):=fun hr=>hr i (by simp[ho,Op.operands]) it
 replace hh:=ogo_out hh
 obtain⟨ti,hti,hh⟩:=hh
 obtain⟨inf,d,t1,t2,_,_,_,_,_,ta,ts,_⟩:=tiOk_info (hT ty ti hti)
 have ex:∀ (ρ:Operand→Value) (w:World),(execOp ρ o).run P w=((Instr.indexAt ty (ρ x) (ρ i)).run P w).andThen fun v w=>.ok (.value v) w:=fun ρ w=>by simp[execOp,ho]
 split at hh
 ·rename_i ik iv hi
  split at hh
  ·rename_i k off hx
   replace hh:=bgo_outT hh
   obtain⟨hk,n,hn,hlt,hh⟩:=hh
   obtain⟨rfl,he⟩:=ta (nbt hk)
   obtain⟨ie,u1,u2,_⟩:=elemOk_info he
   subst hn
   refine Good.look (T:=T) [] hh fun g H' ρ w hr _ _=>?_
   have e1:=hx' hr
   have e2:=hi' hr
   rw[hx] at e1;rw[hi] at e2
   obtain⟨b,e,hc⟩:=e1.loc_inv
   refine⟨.pointer (some ⟨b,off+n*ti.esz,none⟩),?_,.loc _ _ b hc⟩
   rw[ex,e,e2.val]
   have hlt':(n:Int)<(ti.len:Int):=by omega
   simp[Instr.indexAt,asIntOf,run_underlying t2,Instr.sureAddr,sizeOf,typeInfo,u1,u2,hlt,Addr.add_mid]
  ·rename_i sz k off n hx
   replace hh:=bgo_outT hh
   obtain⟨hk,m,hm,hlt,hh⟩:=hh
   rw[Bool.and_eq_true] at hk
   obtain⟨rfl,he,_⟩:=ts (nbt hk.1)
   obtain⟨ie,u1,u2,_⟩:=elemOk_info he
   have hsz:=nbt hk.2
   subst hm
   refine Good.look (T:=T) [] hh fun g H' ρ w hr _ _=>?_
   have e1:=hx' hr
   have e2:=hi' hr
   rw[hx] at e1;rw[hi] at e2
   obtain⟨p,cap,e,_,_,hp,hc⟩:=e1.arr_inv
   obtain⟨b,rfl⟩:=hp (by omega)
   refine⟨.pointer (some ⟨b,off+m*sz,none⟩),?_,.loc _ _ b ?_⟩
   ·rw[ex,e,e2.val]
    simp[Instr.indexAt,asIntOf,run_underlying t2,sizeOf,typeInfo,u1,u2,hlt,hsz,Addr.add_mid]
   ·rcases hc with hc | ⟨t,cs,hc,_,⟨_,hb,_⟩ | ⟨_,h0⟩⟩
    ·exact .inl hc
    ·cases hb;exact .inr ⟨rfl,t,cs,hc⟩
    ·omega
  ·rename_i cs hx
   replace hh:=bgo_outT hh
   obtain⟨hk,n,hn,hlt,hh⟩:=hh
   obtain⟨rfl,he⟩:=ta (nbt hk)
   obtain⟨ie,u1,u2,_⟩:=elemOk_info he
   subst hn
   refine Good.look (T:=T) [] hh fun g H' ρ w hr _ _=>?_
   have e1:=hx' hr
   have e2:=hi' hr
   rw[hx] at e1;rw[hi] at e2
   obtain⟨b,q,e,hc⟩:∃ b q,ρ x=.pointer (some ⟨b,q,none⟩)∧Rep g.fz (.pointer (some ⟨b,q,none⟩)) (.ref cs):=by
    generalize hv:ρ x=v at e1
    have h:=e1.p_inv
    cases h with
    | ref b q _ vs h1 hr hl h=>exact⟨b,q,rfl,.ref b q _ vs h1 hr hl h⟩
   refine⟨.pointer (some ⟨b,q+n*ti.esz,none⟩),?_,.p _ _ (hc.ref_drop _)⟩
   rw[ex,e,e2.val]
   simp[Instr.indexAt,asIntOf,run_underlying t2,Instr.sureAddr,sizeOf,typeInfo,u1,u2,hlt,Addr.add_mid]
  ·rename_i _ y hx
   replace hh:=bgo_outT hh
   obtain⟨hk,n,hn,hlt,hh⟩:=hh
   obtain⟨rfl,he⟩:=ta (nbt hk)
   obtain⟨ie,u1,u2,_⟩:=elemOk_info he
   subst hn
   refine Good.look (T:=T) [] hh fun g H' ρ w hr _ _=>?_
   have e1:=hx' hr
   have e2:=hi' hr
   rw[hx] at e1;rw[hi] at e2
   obtain⟨b,q,e,hc⟩:∃ b q,ρ x=.pointer (some ⟨b,q,none⟩)∧Rep g.fz (.pointer (some ⟨b,q,none⟩)) (.ref y.cells):=by
    generalize hv:ρ x=v at e1
    cases e1 with
    | eptr b q _ _ hs h=>exact⟨b,q,rfl,h⟩
   refine⟨.pointer (some ⟨b,q+n*ti.esz,none⟩),?_,.p _ _ (hc.ref_drop _)⟩
   rw[ex,e,e2.val]
   simp[Instr.indexAt,asIntOf,run_underlying t2,Instr.sureAddr,sizeOf,typeInfo,u1,u2,hlt,Addr.add_mid]
  ·rename_i e hx1 hx2 _ _
   replace hh:=ogo2_out hh
   obtain⟨⟨sz,es⟩,hsl,hh⟩:=hh
   replace hh:=bgo_outT hh
   obtain⟨hk,n,y,hn,hy,hh⟩:=hh
   simp only[Bool.and_eq_true] at hk
   obtain⟨rfl,he,_⟩:=ts (nbt hk.1)
   obtain⟨ie,u1,u2,_⟩:=elemOk_info he
   have hsz:sz=ti.esz:=nbt hk.2.1
   have h0:0<sz:=by have:=hk.2.2;simp[Nat.blt] at this;omega
   subst hn
   refine Good.look (T:=T) [] hh fun g H' ρ w hr _ _=>?_
   have e1:=hx' hr
   have e2:=hi' hr
   rw[hi] at e2
   obtain⟨p,m,cap,e,hm,hrep⟩:=e1.slOf hsl
   obtain⟨hlt,b,q,rfl,hl,hp⟩:=hrep.elem h0 hy
   refine⟨.pointer (some ⟨b,q+n*sz,none⟩),?_,.eptr _ _ sz y hl hp⟩
   rw[ex,e,e2.val]
   simp[Instr.indexAt,asIntOf,run_underlying t2,sizeOf,typeInfo,u1,u2,hlt,hsz,Addr.add_mid]
 ·exact hh.elim
end
section
variable {P:Program} {T:Tab} (hT:TabOk P T) {o:Oper} {env:Env} {h:AHp} {K:Kt}
def aggOf:EV→Option (List EV)
 | .p (.agg cs)=>some (cs.map .p)
 | .agg cs=>some cs
 | _=>none
theorem ERep.aggOf{g H v e cs}(hs:aggOf e=some cs)(hv:ERep g H v e):∃ vs:List Value,v=.agg vs.toArray∧Ones vs∧vs.length=cs.length∧∀ (i:Nat) u y,vs[i]?=some u→cs[i]?=some y→ERep g H u y:=by
 unfold Ab.aggOf at hs
 split at hs
 ·cases hs
  rename_i ds
  cases hv.p_inv with
  | agg vs _ h1 hl h=>
   refine⟨vs,rfl,h1,by simpa using hl,fun i u y hu hy=>?_⟩
   rw[List.getElem?_map] at hy
   cases hq:ds[i]? with
   | none=>rw[hq] at hy;cases hy
   | some z=>rw[hq] at hy;cases hy;exact .p _ _ (h i u z hu hq)
 ·cases hs
  cases hv with
  | agg vs _ h1 hl h=>exact⟨vs,rfl,h1,hl,h⟩
 ·cases hs
def aPart(T:Tab)(ty:Nat)(cs:List EV)(off:Nat)(h:AHp)(K:Kt):Prop:=
 ogo (T.get ty) fun ti=>bgo ti.agg (bgo (Nat.ble (off+ti.size) cs.length) (K (.agg ((cs.drop off).take ti.size)) h nofp) False) (ogo (nth cs off) fun x=>K x h nofp)
include hT in
theorem aPart_run{ty off:Nat}{cs:List EV}{C:EV→Prop}(hh:aPart T ty cs off h (fun x _ _=>C x)):∃ x,C x∧∀ {g H} {vs:List Value} (w:World),Ones vs→vs.length=cs.length→(∀ (i:Nat) u y,vs[i]?=some u→cs[i]?=some y→ERep g H u y) →
 ∃ v,(part ty vs.toArray off).run P w=.ok v w∧ERep g H v x:=by
 obtain⟨ti,hti,hh⟩:=ogo_out hh
 obtain⟨inf,d,t1,t2,t3,_,_,t4,_⟩:=tiOk_info (hT ty ti hti)
 have hagg:∀ w,(isAgg ty).run P w=.ok ti.agg w:=fun w=>by
  unfold isAgg
  rw[Sem.run_bind,run_underlying t2 w,← t4]
  cases d <;> rfl
 rcases bgo_out hh with ⟨ha,hh⟩ | ⟨ha,hh⟩
 ·obtain⟨hle,hh⟩:=bgo_outT hh
  have hle:=Nat.le_of_ble_eq_true hle
  refine⟨_,hh,fun {g H vs} w h1 hl hc=>⟨.agg ((vs.drop off).take ti.size).toArray,?_,.agg _ _ ((h1.drop off).take _) (by simp[hl]) fun i v y hv hy=>?_⟩⟩
  ·simp[part,hagg,ha,sizeOf,typeInfo,t1,t3,List.extract_eq_take_drop]
  ·rw[List.getElem?_take] at hv hy
   split at hv
   ·rename_i hi'
    rw[if_pos hi'] at hy
    rw[List.getElem?_drop] at hv hy
    exact hc _ _ _ hv hy
   ·cases hv
 ·obtain⟨x,hx,hh⟩:=ogo_out hh
  rw[nth_eq] at hx
  refine⟨x,hh,fun {g H vs} w h1 hl hc=>?_⟩
  have hlt:off<vs.length:=by
   rcases Nat.lt_or_ge off cs.length with h' | h'
   ·omega
   ·rw[List.getElem?_eq_none h'] at hx;cases hx
  refine⟨vs[off],?_,hc _ _ _ (List.getElem?_eq_getElem hlt) hx⟩
  simp[part,hagg,ha,hlt]
def aField(T:Tab)(ty f:Nat)(e:EV)(h:AHp)(K:Kt):Prop:=
 ogo (T.get ty) fun ti=>bgo (Nat.beq ti.kind 1) (ogo3 (nth ti.flds f) fun fo ft=>ogo (aggOf e) fun cs=>aPart T ft cs fo h (fun x _ _=>K x h nofp)) False
include hT in
theorem aField_good{ty f:Nat}{x:Operand}(ho:o.op=.field ty x f)(hh:aField T ty f (opv T env ty x) h K):Good P o env h K:=by
 obtain⟨ti,hti,hh⟩:=ogo_out hh
 obtain⟨hk,hh⟩:=bgo_outT hh
 obtain⟨⟨off,fty,fsz⟩,hfl,hh⟩:=ogo3_out hh
 obtain⟨cs,hcs,hh⟩:=ogo_out hh
 rw[nth_eq] at hfl
 obtain⟨inf,d,h1,h2,_,_,_,_,h3,_⟩:=tiOk_info (hT ty ti hti)
 obtain⟨fs,rfl,hfs⟩:=h3 (nbt hk)
 obtain⟨fd,hfd,ho1,ho2,ho3,ho4⟩:=fldsOk_get hfs hfl
 have hfd':fs[f]?=some fd:=by simpa using hfd
 obtain⟨y,hy,hrun⟩:=aPart_run hT hh
 refine Good.look (T:=T) [] hy fun g H' ρ w hr _ _=>?_
 have e1:=hr x (by simp[ho,Op.operands]) ty
 obtain⟨vs,e,v1,v2,v3⟩:=e1.aggOf hcs
 obtain⟨v,hv,hvx⟩:=hrun w v1 v2 v3
 refine⟨v,?_,hvx⟩
 dsimp only at hv
 simp[execOp,ho,Instr.field,run_underlying h2,hfd',e,asAgg,ho1,ho2,hv]
def aIndex(T:Tab)(ty:Nat)(e i:EV)(h:AHp)(K:Kt):Prop:=
 ogo (T.get ty) fun ti=>
  match i with
  | .p (.imm (.int _ iv))=>
   (match e with
   | .p (.imm (.string s))=>bgo (Nat.beq ti.kind 4) (∃ (n:Nat) (b:UInt8),iv=n∧s[n]?=some b∧K (eint .u8 b.toNat) h nofp) False
   | e=>ogo (aggOf e) fun cs=>bgo (Nat.beq ti.kind 2) (∃ n:Nat,iv=n∧n<ti.len∧aPart T ti.elem cs (n*ti.esz) h (fun x _ _=>K x h nofp)) False)
  | _=>False
include hT in
theorem aIndex_good{ty it:Nat}{x i:Operand}(ho:o.op=.index ty x i)(hh:aIndex T ty (opv T env ty x) (opv T env it i) h K):Good P o env h K:=by
 replace hh:=ogo_out hh
 obtain⟨ti,hti,hh⟩:=hh
 obtain⟨inf,d,t1,t2,_,_,_,_,_,ta,_,ts,_⟩:=tiOk_info (hT ty ti hti)
 split at hh
 ·rename_i ik iv hi
  split at hh
  ·rename_i s hx
   replace hh:=bgo_outT hh
   obtain⟨hk,n,b,hn,hb,hh⟩:=hh
   have ts:=ts (nbt hk)
   subst ts;subst hn
   refine Good.look (T:=T) [] hh fun g H' ρ w hr _ _=>⟨_,?_,.p _ _ (.imm _ rfl)⟩
   have e1:=hr x (by simp[ho,Op.operands]) ty
   have e2:=hr i (by simp[ho,Op.operands]) it
   rw[hx] at e1;rw[hi] at e2
   simp[execOp,ho,e1.val,e2.val,Instr.index,asIntOf,run_underlying t2,hb]
  ·rename_i e hx
   replace hh:=ogo_out hh
   obtain⟨cs,hcs,hh⟩:=hh
   replace hh:=bgo_outT hh
   obtain⟨hk,n,hn,hlt,hh⟩:=hh
   obtain⟨rfl,he⟩:=ta (nbt hk)
   obtain⟨ie,u1,u2,_⟩:=elemOk_info he
   subst hn
   obtain⟨y,hy,hrun⟩:=aPart_run hT hh
   refine Good.look (T:=T) [] hy fun g H' ρ w hr _ _=>?_
   have e1:=hr x (by simp[ho,Op.operands]) ty
   have e2:=hr i (by simp[ho,Op.operands]) it
   rw[hi] at e2
   obtain⟨vs,e,v1,v2,v3⟩:=e1.aggOf hcs
   obtain⟨v,hv,hvx⟩:=hrun w v1 v2 v3
   refine⟨v,?_,hvx⟩
   simp[execOp,ho,e,e2.val,Instr.index,asIntOf,run_underlying t2,hlt,sizeOf,typeInfo,u1,u2,hv]
 ·exact hh.elim
def aExtract(i:Nat)(e:EV)(h:AHp)(K:Kt):Prop:=match e with | .tup vs=>ogo (nth vs i) fun x=>K x h nofp | _=>False
theorem aExtract_good{n:Nat}{x:Operand}(ho:o.op=.extract x n)(hh:aExtract n (opv T env 0 x) h K):Good P o env h K:=by
 unfold aExtract at hh
 split at hh
 ·rename_i xs hx
  replace hh:=ogo_out hh
  obtain⟨y,hy,hh⟩:=hh
  rw[nth_eq] at hy
  refine Good.look (T:=T) [] hh fun g H' ρ w hr _ _=>?_
  have e1:=hr x (by simp[ho,Op.operands]) 0
  rw[hx] at e1
  generalize hρ:ρ x=v at e1
  cases e1 with
  | tup vs _ hl hc=>
   have hlt:n<vs.length:=by
    rcases Nat.lt_or_ge n xs.length with h' | h'
    ·omega
    ·rw[List.getElem?_eq_none h'] at hy;cases hy
   exact⟨vs[n],by simp[execOp,ho,hρ,Instr.extract,hlt],hc n _ _ (List.getElem?_eq_getElem hlt) hy⟩
 ·exact hh.elim
mutual
theorem toP_rep{g H}:∀ {e:EV} {x:AV} {v:Value},toP e=some x→ERep g H v e→Rep g.fz v x
 | .p y,x,v,h,hv=>by simp only[toP,Option.some.injEq] at h;subst h;exact hv.p_inv
 | .own sz es k,x,v,h,hv=>by simp only[toP,Option.some.injEq] at h;subst h;cases hv with | own p n cap _ _ _ m h=>exact h
 | .full sz es,x,v,h,hv=>by simp only[toP,Option.some.injEq] at h;subst h;cases hv with | full p n _ _ h=>exact h
 | .eptr sz y,x,v,h,hv=>by simp only[toP,Option.some.injEq] at h;subst h;exact hv.eptr_inv.2
 | .agg cs,x,v,h,hv=>by
  simp only[toP] at h
  cases hq:toP.toPl cs with
  | none=>rw[hq] at h;cases h
  | some l=>
   rw[hq] at h;cases h
   cases hv with
   | agg vs _ h1 hl hc=>
    obtain⟨l1,l2⟩:=toPl_rep hq hl hc
    exact .agg vs l h1 l1 l2
 | .fn f a b,x,v,h,hv=>by
  simp only[toP] at h
  cases hq:toP.toPl a with
  | none=>rw[hq] at h;simp at h
  | some l=>
   cases hq2:toP.toPl b with
   | none=>rw[hq,hq2] at h;simp at h
   | some m=>
    rw[hq,hq2] at h;cases h
    cases hv with
    | fn _ vf vc _ _ hl hl2 hc hc2=>
     obtain⟨l1,l2⟩:=toPl_rep hq hl hc
     obtain⟨m1,m2⟩:=toPl_rep hq2 hl2 hc2
     exact .fn f vf vc l m l1 m1 l2 m2
 | .dead,x,v,h,hv=>by simp[toP] at h
 | .loc _ _,x,v,h,hv=>by simp[toP] at h
 | .arr _ _ _ _,x,v,h,hv=>by simp[toP] at h
 | .tup _,x,v,h,hv=>by simp[toP] at h
theorem toPl_rep{g H}:∀ {es:List EV} {l:List AV} {vs:List Value},toP.toPl es=some l→vs.length=es.length→(∀ (i:Nat) v x,vs[i]?=some v→es[i]?=some x→ERep g H v x)→vs.length=l.length∧∀ (i:Nat) v x,vs[i]?=some v→l[i]?=some x→Rep g.fz v x
 | [],l,vs,h,hl,hc=>by
  simp only[toP.toPl,Option.some.injEq] at h;subst h
  exact⟨by simpa using hl,by intro i v x _ hx;simp at hx⟩
 | e::r,l,vs,h,hl,hc=>by
  simp only[toP.toPl] at h
  cases hq:toP e with
  | none=>rw[hq] at h;simp at h
  | some x=>
   cases hq2:toP.toPl r with
   | none=>rw[hq,hq2] at h;simp at h
   | some m=>
    rw[hq,hq2] at h;cases h
    cases vs with
    | nil=>simp at hl
    | cons v vr=>
     obtain⟨m1,m2⟩:=toPl_rep (vs:=vr) hq2 (by simpa using hl) (fun i u y hu hy=>hc (i+1) u y (by simpa using hu) (by simpa using hy))
     refine⟨by simp[m1],fun i u y hu hy=>?_⟩
     cases i with
     | zero=>simp at hu hy;subst hu;subst hy;exact toP_rep hq (hc 0 v e rfl rfl)
     | succ i=>simp at hu hy;exact m2 i u y hu hy
end
def mkFn(f:Fn)(a b:List EV):EV:=match toPs a,toPs b with | some x,some y=>.p (.fn f x y) | _,_=>.fn f a b
theorem mkFn_rep{g H}{f:Fn}{a b:List EV}{vf vc:List Value}(hl:vf.length=a.length)(hl2:vc.length=b.length)(h1:∀ (i:Nat) v x,vf[i]?=some v→a[i]?=some x→ERep g H v x)(h2:∀ (i:Nat) v x,vc[i]?=some v→b[i]?=some x→ERep g H v x):
 ERep g H (.func f vf.toArray vc.toArray) (mkFn f a b):=by
 unfold mkFn
 split
 ·rename_i x y hx hy
  obtain⟨l1,l2⟩:=toPl_rep hx hl h1
  obtain⟨m1,m2⟩:=toPl_rep hy hl2 h2
  exact .p _ _ (.fn f vf vc x y l1 m1 l2 m2)
 ·exact .fn f vf vc a b hl hl2 h1 h2
def aMakeFunc(T:Tab)(f:Fn)(first caps:Array Operand)(env:Env)(h:AHp)(K:Kt):Prop:=K (mkFn f (first.toList.map (opv T env 0)) (caps.toList.map (opv T env 0))) h nofp
theorem aMakeFunc_good{f:Fn}{first caps:Array Operand}(ho:o.op=.makeFunc f first caps)(hh:aMakeFunc T f first caps env h K):Good P o env h K:=by
 refine Good.look (T:=T) [] hh fun g H' ρ w hr _ _=>⟨.func f (first.toList.map ρ).toArray (caps.toList.map ρ).toArray,?_,mkFn_rep (by simp) (by simp) (fun i v x hv hx=>?_) fun i v x hv hx=>?_⟩
 ·have e1:first.map ρ=(first.toList.map ρ).toArray:=by apply Array.ext';simp
  have e2:caps.map ρ=(caps.toList.map ρ).toArray:=by apply Array.ext';simp
  simp only[execOp,ho,Instr.makeFunc,e1,e2]
  rfl
 ·rw[List.getElem?_map] at hv hx
  cases hq:first.toList[i]? with
  | none=>rw[hq] at hv;cases hv
  | some y=>
   rw[hq] at hv hx;cases hv;cases hx
   exact hr y (by simp only[ho,Op.operands,Array.toList_append,List.mem_append];exact .inl (List.mem_of_getElem? hq)) 0
 ·rw[List.getElem?_map] at hv hx
  cases hq:caps.toList[i]? with
  | none=>rw[hq] at hv;cases hv
  | some y=>
   rw[hq] at hv hx;cases hv;cases hx
   exact hr y (by simp only[ho,Op.operands,Array.toList_append,List.mem_append];exact .inr (List.mem_of_getElem? hq)) 0
def aMakeIface(T:Tab)(ty:Nat)(e:EV)(h:AHp)(K:Kt):Prop:=ogo (T.get ty) fun ti=>bgo (Nat.beq ti.kind 0) False (ogo (toP e) fun x=>K (.p (.iface ty x)) h nofp)
include hT in
theorem aMakeIface_good{ty:Nat}{x:Operand}(ho:o.op=.makeInterface ty x)(hh:aMakeIface T ty (opv T env ty x) h K):Good P o env h K:=by
 obtain⟨ti,hti,hh⟩:=ogo_out hh
 obtain⟨inf,d,t1,t2,_⟩:=tiOk_info (hT ty ti hti)
 rcases bgo_out hh with ⟨_,hh⟩ | ⟨hk,hh⟩
 ·exact hh.elim
 ·obtain⟨y,hy,hh⟩:=ogo_out hh
  refine Good.look (T:=T) [] hh fun g H' ρ w hr _ _=>⟨.iface ty (ρ x),?_,.p _ _ (.iface ty _ y (toP_rep hy (hr x (by simp[ho,Op.operands]) ty)))⟩
  have hne:∀ ms,d≠.interface ms:=fun ms e=>by
   have h5:=hT ty ti hti
   subst e
   unfold tiOk at h5
   rw[t1,t2] at h5
   simp only[Bool.and_eq_true] at h5
   obtain⟨_,h5⟩:=h5
   split at h5 <;> first | (rename_i hd;cases hd;done) | (rename_i hd _;cases hd;done) | skip
   ·simp_all
   all_goals simp_all
  simp only[execOp,ho,Instr.makeInterface,Sem.run_bind,run_underlying t2,Result.andThen_ok]
  cases d <;> first | rfl | exact absurd rfl (hne _)
end
end Go.Ab
