/- The row of TopTypeSound: for every input of bulk at most 1048576 the law returns true, and its arguments read as before. Conditions: none. -/
import Derived.Test.YtmllhjbnbhapoaaGreatGL
import Derived.Test.YtmllhjbnbhapoaaGreatGN
import Derived.Test.YtmllhjbnbhapoaaGreatRows
import Derived.ProofKit
import Derived.JoinedOf
import Derived.JoinedCond
import Derived.OpenShut
import Derived.Carry
set_option linter.unusedSimpArgs false
set_option linter.unusedVariables false
namespace Go.Proofs.YtmllhjbnbhapoaaGreat
open Go.ChangeShapes Go.WideShapes Go.ChangeAt Go.RowKit Go.Ab
theorem own0:ownKnob Tryz.prog.godebug=none:=by kernel_rfl
theorem laidOut0:laidOutB Tryz.prog=true:=by kernel_rfl
theorem bk_ok(H:Type):Bk (H:=H) Rows.uptoBulk Rows.uptoBulkAll:=by
 refine⟨fun b=>?_,fun k m=>?_,fun b=>?_,?_,fun a b=>?_,fun a=>?_,?_,fun x r=>?_⟩ <;> first | rfl | simp only[Rows.uptoBulk,Rows.uptoBulkAll]
abbrev rowTs:List TypeId:=[38,35,5]
abbrev rowS:List TypeId:=[38,35,5,27,30,32,36,129,4,184,22,23,24,25,
 78,119,160,176,169,98,33,28,3,9]
theorem rowS_closed:closedT Tryz.prog rowS=true:=by kernel_rfl
theorem sound_row(ys:List AV)(hl:rowTs.length=ys.length)(ht:∀ (i:Nat) t y,rowTs[i]?=some t→ys[i]?=some y→TypedV Tryz.prog t y)(hb:avBs ys≤1048576):AFun Tryz.prog 4 ys (.p (.imm (.bool true))):=by
 obtain⟨y0,y1,y2,rfl⟩:∃ y0 y1 y2,ys=[y0,y1,y2]:=by
  match ys,hl with
  | [y0,y1,y2],_=>exact⟨_,_,_,rfl⟩
 obtain⟨⟨n0,t0⟩,r0,_⟩:=ht 0 _ y0 rfl rfl
 obtain⟨⟨n1,t1⟩,r1,_⟩:=ht 1 _ y1 rfl rfl
 obtain⟨⟨n2,t2⟩,_,r2⟩:=ht 2 _ y2 rfl rfl
 obtain⟨c0,rfl⟩:=r0 (by kernel_rfl)
 obtain⟨c1,rfl⟩:=r1 (by kernel_rfl)
 obtain⟨x,e0,l0,l1⟩:=rdCse _ _ t0
 obtain⟨n,e1⟩:=rdNd _ _ t1
 obtain⟨u,e2,u0,u1⟩:=rdK Tryz.underlying5 _ _ t2
 obtain rfl:y2=.imm (.int .u8 u):=(List.cons.inj ((r2 (by kernel_rfl)).symm.trans e2)).1
 obtain rfl:c0=x.cs:=e0
 obtain rfl:c1=n.ecs:=e1
 rw[show IntKind.u8.max=255 by decide] at u1
 rw[show IntKind.u8.min=0 by decide] at u0
 have hcs:x.cs=x.sp.cx++(x.sc.cs++[rawav x.raw]++x.n.ecs++[pick2 x.picks,eU8 x.loop]):=by simp only[Cse.cs,List.append_assoc]
 have hn:=sz_bulk n
 rw[show n.cs=n.ecs by rw[n.cs_eq];rfl] at hn
 have hA:avB (.agg x.cs)≤1048576:=Nat.le_trans (avBs_mem (by simp)) hb
 have hB:avB (.agg n.ecs)≤1048576:=Nat.le_trans (avBs_mem (by simp)) hb
 rw[avB,hcs,avBs_append] at hA
 rw[avB] at hB
 exact typeSound_any x n u (few_of (by omega)) (by omega) ⟨l0,l1⟩ ⟨u0,by omega⟩ head11P
set_option maxRecDepth 100000 in
theorem topTypeSound_lifted(os:Os)(started:os.Started)(H:Type)(enc:TypeId×Value→H)(F0:Stop.Interp):
 ReturnsInHanded {} Tryz.checked os 4 .any ((Rows.OpenSpec.upto Rows.topTypeSoundSpec).pre6 enc Tryz.prog Tryz.f4 Rows.topTypeSoundUptoRow.domain false) (((Rows.OpenSpec.upto Rows.topTypeSoundSpec).at F0).post enc Tryz.prog Tryz.f4 false true false false):=by
 refine returnsInHanded_of_cond (C:=Tryz.checked) (s:=Rows.OpenSpec.upto Rows.topTypeSoundSpec) (k:=Rows.uptoSmall) rfl own0 started (by kernel_rfl) Tryz.func4
  (OpenSpec.witness (enc:=enc) (C:=Tryz.checked) (s:=Rows.OpenSpec.upto Rows.topTypeSoundSpec) (k:=Rows.uptoSmall) rfl false
   ⟨#[],#[.agg #[.slice none 0 0,.slice none 0 0,.slice none 0 0,.slice none 0 0,.slice none 0 0,.int .i64 0,.slice none 0 0,.int .i64 0,.string ⟨#[]⟩,.int .i64 0,.slice none 0 0,.int .i64 0,.slice none 0 0,.int .u8 0],.agg #[.int .i64 0,.string ⟨#[]⟩,.int .i64 0,.slice none 0 0,.int .i64 0],.int .u8 0],[]⟩ 8 (by kernel_rfl) (by kernel_rfl) (by kernel_rfl)
   (x:=([.agg [.agg [.nil,.nil,.nil,.nil],.agg [.nil,.lit (.int .i64 0)],.nil,.agg [.lit (.int .i64 0),.lit (.string []),.lit (.int .i64 0),.nil,.lit (.int .i64 0)],.nil,.lit (.int .u8 0)],.agg [.lit (.int .i64 0),.lit (.string []),.lit (.int .i64 0),.nil,.lit (.int .i64 0)],.lit (.int .u8 0)],[],[])) (by kernel_rfl) (by kernel_rfl) (by kernel_rfl)) ?_
 intro W base args ds gs before hval0 hW hcnd hk _
 have hval:∀ (j:Nat) t v,Tryz.f4.params[j]?=some t→args[j]?=some v→Value.okWide Tryz.prog W .any base t v:=hval0
 have hW':=hW
 obtain⟨p,q,hA0,hV,rfl,hfz,hnd⟩:=hW
 have hA:DataW.TrodAll enc Tryz.prog W 0 (fun _=>true) true Tryz.f4.params.toList args.toList ds p:=hA0
 rw[Tryz.params4] at hA hval
 obtain⟨rfl,rfl⟩:=trodVars_none hV
 have hbulk:Rows.uptoBulkAll ds≤1048576:=by
  have:=odt hk
  rwa [List.append_nil] at this
 have hcall:=AFun.row (P:=Tryz.prog) (w:=W) (bk_ok H) rowS_closed (ts:=rowTs) (by decide) (ds:=ds) (f:=4) (fun ys h1 h2 h3=>sound_row ys h1 h2 (by omega)) (args:=args) (fun j t v hj hv=>hval j t v (by simpa using hj) hv) hA
 obtain⟨v0,vs0,d0,ds0,p0,q0,e0,rfl,rfl,h0,hA1⟩:=trodAll_cons hA
 obtain⟨v1,vs1,d1,ds1,p1,q1,e1,rfl,rfl,h1,hA2⟩:=trodAll_cons hA1
 obtain⟨v2,vs2,d2,ds2,p2,q2,e2,rfl,rfl,h2,hA3⟩:=trodAll_cons hA2
 obtain⟨rfl,rfl,rfl⟩:=trodAll_nil hA3
 obtain rfl:args=#[v0,v1,v2]:=by cases args;simp_all
 clear e0
 obtain⟨x2,rfl,rfl,rfl,w2⟩:=open_int Tryz.underlying5 (hval 2 _ v2 rfl rfl) h2
 clear hA0 hval0
 simp only[List.append_nil] at hW'
 have hlt0:∀ x∈p0,x.block<W.heap.size:=fun x hx=>by first | simpa using hW'.lt x (by simpa using hx) | exact hW'.lt x (by simp[hx])
 have hlt1:∀ x∈p1,x.block<W.heap.size:=fun x hx=>by first | simpa using hW'.lt x (by simpa using hx) | exact hW'.lt x (by simp[hx])
 refine hcall.mono fun e W' ⟨he,hb⟩=>?_
 subst he
 have ha0:DataW.Trod enc Tryz.prog W' 0 (fun b=>decide (b<W.heap.size)) true 38 v0 d0 p0:=Below.trod laidOut0 (by kernel_rfl) (odt (by kernel_rfl)) h0 hb hlt0
 have ha1:DataW.Trod enc Tryz.prog W' 0 (fun b=>decide (b<W.heap.size)) true 35 v1 d1 p1:=Below.trod laidOut0 (by kernel_rfl) (odt (by kernel_rfl)) h1 hb hlt1
 exact⟨_,rfl,_,_,_,[],_,[],hW',trodAll_mk1 (shut_bool Tryz.underlying4 true),trodAll_cons_mk ha0 (trodAll_cons_mk ha1 (trodAll_mk1 (shut_int Tryz.underlying5 w2))),rfl,hb.frame _,fun h=>by cases h⟩
theorem topTypeSoundUpto_holds:Rows.TopTypeSoundUptoSaid:=
 OpenClaim.holds_of_cond 4 Tryz.f4 rfl rfl rfl rfl rfl rfl rfl ⟨rfl,rfl,rfl,rfl,rfl⟩ rfl rfl rfl rfl rfl (by kernel_rfl) Tryz.func4 (by kernel_rfl)
  (odt (by kernel_rfl)) (by unfold Func.isWrapper;first | (rw[if_pos (by decide +kernel)];kernel_rfl) | (rw[if_neg (by decide +kernel)];exact⟨rfl,rfl⟩))
  (fun os started H enc _ F0=>topTypeSound_lifted os started H enc F0)
end Go.Proofs.YtmllhjbnbhapoaaGreat
