/- Part 1. -/
import Derived.Test.YtmcpfihkambgnaaGreatLs00
import Derived.Tactics
import Derived.Orders
import Derived.LoopN
import Derived.Deep.LoopGhost
import Derived.TacticsIn
import Derived.OrdersIn
import Derived.LoopNIn
import Derived.Sort.LoopGhostIn
set_option maxHeartbeats 2000000
set_option linter.all false
open Option renaming some->a6,none->bk,map_some->dm
open _root_ renaming List->ai,Nat->aw,Bool->b5,Option->bF,beq_eq_false_iff_ne->c4,Int->cA,ByteArray->cB,decide_eq_true_eq->cm,Array->eY,beq_iff_eq->ec,if_true->gn,Inhabited->ka
open Bool renaming false->aj,true->bj,false_eq_true->cy,not_eq_true'->fV,or_false->ia,false_and->im,not_eq_true->nv
open Go renaming Value->b3,World->bn,Operand->c6,FuncId->c7,Program->cp,Oper->e9,undef->fg,Func->kf,heap_alloc_new->m3,callsIn_wide->n2,Exit->sx,Calls->vx
open List renaming mem_cons->b4,getD_eq_getElem?_getD->bP,replicate->cd,range->ch,mem_singleton->dc,map_cons->eZ,length_cons->ey,map_nil->fB,length_nil->fl,getElem?_append_left->g6,getElem?_take->gi,all_eq_true->gv,getD_cons_succ->iz,getElem?_eq_none->jy,mem_filterMap->kN,mem_map->ky,nil_append->lp,foldl_cons->lr,map->m4,isEmpty_iff->na,any_eq_true->pb,getElem?_map->qW,append_nil->r8,foldl_nil->su,getElem?_set->ts,length->y6,getD->y7
open Nat renaming blt->c3,beq->ml,blt_eq->n4,strongRecOn->p0,ble_eq->qc,add_comm->vT
open Go.Fence renaming wide->eD
open List.cons renaming injEq->en
open Go.Oper renaming upon_enter->gy,upon_value->r7
open Array renaming getD_eq_getD_getElem?->hZ
open Go.World renaming cell?_of_block->ma
open Go.Region renaming wanted->rv
open Lw.D renaming row->yI,lit->yT,ptr->y0,agg->y4
open Or renaming inr->y2
open Option renaming some.injEq->zIq
open Prod renaming mk.injEq->zJq
open Bool renaming and_eq_true->zLq
namespace Lw
open Go Go.RowKit
variable {c:Ctx} {n:aw} {s:as0} {a:Act} {w:bn} {β:aw->aw} {X:aw->Prop}
variable {b h:ai D} {d:D} {f:c7}
def yt{P:cp}(xs:Cg P d=a6 (f,b,h)):
  ((d=yT (.func (.func f) #[] #[])/\b=[]/\h=[])\/d=.fn f b h)/\∃fn,P.funcs[f]? =a6 fn/\fn.body.isSome=bj/\(fn.name== "runtime.NumGoroutine")=aj:=by
 unfold Cg at xs;split at xs;split at xs;rename_i fn g;split at xs;rename_i e;cases xs;simp only[zLq,fV,ec]at e;rw[aqj e.1.1,aqj e.1.2];exact⟨.inl ⟨rfl,rfl,rfl⟩,fn,g,e.2.1,e.2.2⟩;cases xs;cases xs;split at xs;rename_i fn g;split at xs;rename_i e;cases xs;simp only[zLq,fV]at e;exact⟨y2 rfl,fn,g,e.1,e.2⟩;cases xs;cases xs;cases xs
def XR(h:df c n s a w β X){o:e9}{nb:aw}{ro fz:b5}{gb:aw}(qj:c.gb<=gb){E:Eff}{nd:JT}(g:NM c.P o s.ev s.blk s.bu nb ro gb fz=a6 (E,nd))(B:nd.ok):
  bg c n s a w β X nb o E:=by
 unfold NM at g;split at g
 case h_1 x j=>cases g;exact UH h (.inl j)
 case h_2 x j=>cases g;exact UH h (y2 j)
 case h_3 k x y j=>
  split at g;rename_i H;cases g;exact UG h j bj H;rename_i H;cases g;exact UG h j aj H;cases g
 case h_4 el j=>
  cases fz
  case true=>
   simp only at g;split at g;rename_i zs S;cases g;exact WY j S;cases g
  simp only at g;split at g;rename_i zs S;have:=aa' h (nb:=nb) (ro:=ro) j S;split at g<;>simp only[zIq,zJq]at g<;>obtain⟨rfl,rfl⟩:=g<;>simp_all;cases g
 case h_5 el x j=>
  split at g;rename_i cs J;split at g;rename_i hro;simp only[zLq,fV]at hro;have:=aa_ h (nb:=nb) (ro:=bj) j J (λ_=>hro.2);cases g;exact this;have:=aa_ h (nb:=nb) (ro:=aj) j J (λh=>by cases h);cases g;exact this;cases g
 case h_6 t parts j=>
  split at g;rename_i cs J;cases g;exact aa9 h j J;cases g
 case h_7 t len parts j=>
  split at g;rename_i cs J;split at g;cases g;rename_i hp;split at g;rename_i hro;have:=Bf h (nb:=nb) j J (by simpa using hp) bj;cases g;exact this;have:=Bf h (nb:=nb) j J (by simpa using hp) aj;cases g;exact this;cases g
 case h_8 t x j=>
  split at g;rename_i sz ag D ha;split at g;rename_i cs C;cases g;simp only[dJ]at B;exact M9 h j D ha C B.1 B.2;rename_i b I C;split at g;rename_i cs Q;cases g;simp only[dJ]at B;exact Po h j D ha C Q B.1 B.2;cases g;cases g;cases g
 case h_9 t x y j=>
  split at g;rename_i b I ds sz C T D;split at g;rename_i cs Q;split at g;rename_i J;cases g;simp only[zLq,ec]at J;simp only[dJ]at B;exact aa5 h j D C T Q J.1 J.2 B;cases g;cases g;cases g
 case h_10 op t x y u j=>
  split at g;rename_i k p k' q C T;split at g;split at g;rename_i H;subst H;cases g;simp only[dJ]at B;exact ai7 h j C T B;cases g;split at g;rename_i H;subst H;cases g;simp only[dJ]at B;exact ai6 h j C T B;cases g;cases g;simp only[dJ]at B;exact ai5 h j C T B;cases g;simp only[dJ]at B;exact ai4 h j C T B;split at g;rename_i v K;cases g;exact Is h j C T K;cases g;rename_i p q C T;split at g;cases g;simp only[dJ]at B;exact ai_ h j C T B;split at g;rename_i v K;cases g;exact Is h j C T K;cases g;rename_i va vb _ _ C T;split at g;rename_i v K;cases g;exact Is h j C T K;cases g;split at g;rename_i e L _ _ _;split at g;rename_i D;cases g;exact Ll h j L D (.inl rfl);rename_i D;cases g;exact Ll h j L D (y2 rfl);split at g;rename_i D _ _;cases g;exact Pp h j L (by assumption) (.inl rfl);rename_i D _ _;cases g;exact Pp h j L (by assumption) (y2 rfl);cases g;cases g
 case h_11 x j=>
  split at g;rename_i b I C;cases g;exact Gy h j C;rename_i cs C;cases g;exact EE h j C;cases g
 case h_12 fn first wY j=>
  split at g;split at g;rename_i J;simp only[zLq,gv,na]at J;cases g;exact Pn h j J.1 J.2;cases g;cases g
 case h_13 op t x j=>
  split at g;rename_i va C;split at g;rename_i v K;cases g;exact afH h j C K;cases g;cases g
 case h_14 t u x j=>
  split at g;rename_i va C;split at g;rename_i v K;cases g;exact Sr h j C K;cases g;cases g
 case h_15 t x j=>
  split at g;rename_i va C;split at g;rename_i v K;cases g;exact EF h j C K;cases g;cases g
 case h_16 x t u ok j=>
  split at g;rename_i va C;split at g;rename_i vs K;cases g;exact Be h j C K;rename_i v hnt K;cases g;have:=Be h (nb:=nb) j C K;cases v with
  |tuple vs=>exact api rfl (hnt vs)
  |_=>exact this
  cases g;cases g
 case h_17 t x f j=>
  split at g;rename_i I ft hf;split at g;rename_i sz D;split at g;rename_i h0;simp only[n4]at h0;split at g;rename_i b o' C;cases g;exact EK h j hf D h0 C;rename_i cs C;cases g;exact C8 h j hf D h0 C;cases g;cases g;cases g;cases g
 case h_18 t x f j=>
  split at g;rename_i I ft cs hf C;split at g;rename_i sz ag D ha;cases g;simp only[dJ]at B;exact aa7 h j hf D ha C B;cases g;cases g
 case h_19 t x ix j=>
  split at g;rename_i e k i F Z;split at g;rename_i sz D;split at g;rename_i len full cs C;cases g;simp only[dJ]at B;exact EH h j F D Z C B.1 B.2;rename_i b I len O C;cases g;simp only[dJ]at B;exact EG h j F D Z C B;rename_i b len size C;cases g;simp only[dJ]at B;exact EJ h j F D Z C B;cases g;cases g;rename_i m e k i F Z;split at g;rename_i sz D;split at g;rename_i cs C;cases g;simp only[dJ]at B;exact C7 h j F D Z C B;rename_i b I C;cases g;simp only[dJ]at B;exact EI h j F D Z C B;cases g;cases g;cases g
 case h_20 t x ix j=>
  split at g;rename_i k i Z;split at g;rename_i m e cs F C;split at g;rename_i sz ag D ha;cases g;simp only[dJ]at B;exact aa6 h j F D ha Z C B.1 B.2;cases g;rename_i d F C;split at g;rename_i b qh Q;cases g;simp only[dJ]at B;exact M_ h j qh Z Q B;cases g;cases g;cases g
 case h_21 x i j=>
  split at g;rename_i ds C;split at g;rename_i d hd;cases g;exact Sq h j C hd;cases g;cases g
 case h_22 t x lo V j=>
  split at g;rename_i e F;split at g;rename_i sz len full cs k1 l D C Y;split at g;rename_i k2 u F';cases g;simp only[dJ]at B;exact M6 h j F D C Y F' B;cases g;rename_i sz b I len O k1 l D C Y;split at g;rename_i k2 u F';cases g;simp only[dJ]at B;exact M5 h j F D C Y F' B;cases g;rename_i sz b len size k1 l D C Y;split at g;rename_i k2 u F';split at g;rename_i hl0;simp only[ec]at hl0;subst hl0;cases g;simp only[dJ]at B;exact M7 h j F D C Y F' B;cases g;cases g;cases g;rename_i m e F;split at g;rename_i sz cs k1 l D C Y;split at g;rename_i k2 u F';cases g;simp only[dJ]at B;exact Ir h j F D C Y F' B;cases g;cases g;split at g;rename_i b k1 l k2 u qh C Y F';cases g;simp only[dJ]at B;exact M4 h j qh C Y F' B;cases g
 case h_23 t l k j=>
  split at g;rename_i e len O F A H;split at g;rename_i z i S D V;cases g;simp only[dJ]at B;exact M8 h j F A H S D V B;rename_i zs m i _ S D V;split at g;rename_i J;simp only[zLq,ec,n4]at J;cases g;simp only[dJ]at B;exact Kb h j F A H S D V J.1 J.2 B;cases g;cases g;cases g
 case h_24 k j=>
  split at g;rename_i x H;split at g;rename_i f first wY hf
  obtain⟨h1,fn,h2,h3,h4⟩:=yt hf;cases g;rcases h1 with⟨h1,rfl,rfl⟩|h1
  have:=afJ h (nb:=nb) j H h1 h2 h3 h4;rw[aq0,aqs];exact this;exact aa8 h j H h1 h2 h3 h4;cases g;rename_i H;split at g;rename_i b I len O m full xs t t' A F;obtain⟨x,y,M,N,W⟩:∃x y,k.args.toList=[x,y]/\s.ev x=.aY b I len O/\s.ev y=yI m full xs:=by
   cases G:k.args.toList with
   |nil=>rw[G]at A;cases A
   |cons x r=>cases r with
    |nil=>rw[G]at A;simp at A
    |cons y r=>cases r with
     |nil=>rw[G]at A;simp only[eZ,fB,en,and_true]at A;exact⟨x,y,rfl,A.1,A.2⟩
     |cons y r=>rw[G]at A;simp at A
  split at g;rename_i e cs L Q;split at g;rename_i sz D;split at g;rename_i U;simp only[ec]at U;subst U;cases g;simp only[dJ]at B;exact afI h j H M F L D N W Q B;cases g;cases g;cases g;rename_i b len gz m full xs t t' A F;obtain⟨x,y,M,N,W⟩:∃x y,k.args.toList=[x,y]/\s.ev x=.bG b len gz/\s.ev y=yI m full xs:=by
   cases G:k.args.toList with
   |nil=>rw[G]at A;cases A
   |cons x r=>cases r with
    |nil=>rw[G]at A;simp at A
    |cons y r=>cases r with
     |nil=>rw[G]at A;simp only[eZ,fB,en,and_true]at A;exact⟨x,y,rfl,A.1,A.2⟩
     |cons y r=>rw[G]at A;simp at A
  split at g;rename_i e cs L Q;split at g;rename_i sz D;split at g;rename_i U;simp only[ec]at U;subst U;cases g;simp only[dJ]at B;exact Pq h j H M F L D N W Q B;cases g;cases g;cases g;cases g;rename_i H;split at g;rename_i len full xs A;obtain⟨x,M,N⟩:∃x,k.args.toList=[x]/\s.ev x=yI len full xs:=by
   cases G:k.args.toList with
   |nil=>rw[G]at A;cases A
   |cons x r=>cases r with
    |nil=>rw[G]at A;simp only[eZ,fB,en,and_true]at A;exact⟨x,rfl,A⟩
    |cons y r=>rw[G]at A;simp at A
  split at g;rename_i t F;split at g;rename_i e L;cases g;exact Sn h j H M F L N;cases g;cases g;rename_i b I len O A;obtain⟨x,M,N⟩:∃x,k.args.toList=[x]/\s.ev x=.aY b I len O:=by
   cases G:k.args.toList with
   |nil=>rw[G]at A;cases A
   |cons x r=>cases r with
    |nil=>rw[G]at A;simp only[eZ,fB,en,and_true]at A;exact⟨x,rfl,A⟩
    |cons y r=>rw[G]at A;simp at A
  split at g;rename_i t F;split at g;rename_i e L;cases g;exact Sm h j H M F L N;cases g;cases g;rename_i b len sz A;obtain⟨x,M,N⟩:∃x,k.args.toList=[x]/\s.ev x=.bG b len sz:=by
   cases G:k.args.toList with
   |nil=>rw[G]at A;cases A
   |cons x r=>cases r with
    |nil=>rw[G]at A;simp only[eZ,fB,en,and_true]at A;exact⟨x,rfl,A⟩
    |cons y r=>rw[G]at A;simp at A
  split at g;rename_i t F;split at g;rename_i e L;cases g;exact Sp h j H M F L N;cases g;cases g;rename_i d _ _ _ A;obtain⟨x,M,N⟩:∃x,k.args.toList=[x]/\s.ev x=d:=by
   cases G:k.args.toList with
   |nil=>rw[G]at A;cases A
   |cons x r=>cases r with
    |nil=>rw[G]at A;simp only[eZ,fB,en,and_true]at A;exact⟨x,rfl,A⟩
    |cons y r=>rw[G]at A;simp at A
  split at g;rename_i v K;split at g;rename_i r hr;cases g;exact So h j H M (by rw[N];exact K) hr;cases g;cases g;cases g;rename_i H;split at g;rename_i vs K;split at g;rename_i r hr;cases g;exact ai9 h j H K hr;cases g;cases g;rename_i H;split at g;rename_i vs K;split at g;rename_i r hr;cases g;exact ai8 h j H K hr;cases g;cases g;rename_i H;split at g;rename_i x0 q full ys t t' A F;obtain⟨x,y,M,N,W⟩:∃x y,k.args.toList=[x,y]/\s.ev x=x0/\s.ev y=yI q full ys:=by
   cases G:k.args.toList with
   |nil=>rw[G]at A;cases A
   |cons x r=>cases r with
    |nil=>rw[G]at A;simp at A
    |cons y r=>cases r with
     |nil=>rw[G]at A;simp only[eZ,fB,en,and_true]at A;exact⟨x,y,rfl,A.1,A.2⟩
     |cons y r=>rw[G]at A;simp at A
  split at g;rename_i e L;split at g;rename_i i V;split at g;rename_i J;simp only[zLq,ec,n4]at J;obtain⟨⟨rfl,S⟩,h0⟩:=J;obtain⟨z,U5,Kj⟩:∃z,i.zero=a6 z/\z.cells.size=i.size:=by
   cases nN:i.zero with
   |none=>rw[nN]at S;simp at S
   |some z=>rw[nN]at S;exact⟨z,rfl,by simpa using S⟩
  split at g;rename_i p xs;split at g;cases g;simp only[dJ]at B;exact Kd h j H M F L V U5 Kj h0 N W B;cases g;simp only[dJ]at B;exact Kf h j H M F L V U5 Kj h0 N W B;rename_i b p sz;split at g;rename_i cs Q;split at g;rename_i hc2;simp only[zLq,ec,qc,fV]at hc2;obtain⟨rfl,hg2,yq⟩:=hc2;cases g;simp only[dJ]at B;exact It h j H M F L V U5 Kj h0 N W Q yq za B.1 B.2;cases g;cases g;rename_i b I p O;split at g;rename_i cs Q;cases g;simp only[dJ]at B;exact Kc h (ro:=ro) j H M F L V U5 Kj h0 N W Q B;cases g;cases g;cases g;cases g;cases g;rename_i x0 v0 t t' A F;obtain⟨x,y,M,N,W⟩:∃x y,k.args.toList=[x,y]/\s.ev x=x0/\s.ev y=yT v0:=by
   cases G:k.args.toList with
   |nil=>rw[G]at A;cases A
   |cons x r=>cases r with
    |nil=>rw[G]at A;simp at A
    |cons y r=>cases r with
     |nil=>rw[G]at A;simp only[eZ,fB,en,and_true]at A;exact⟨x,y,rfl,A.1,A.2⟩
     |cons y r=>rw[G]at A;simp at A
  split at g;split at g;rename_i e L;split at g;rename_i i V;split at g;rename_i J;simp only[ec]at J;subst J;cases g;exact Ke h j H M F L V N W;cases g;cases g;cases g;cases g;cases g;cases g
 case h_25=>cases g
structure St where
 tmps:ai D
 blks:ai (bF (ai D))
 bu:ai aw
 deriving Inhabited
def St.fs(s:St):as0:=⟨λt=>y7 s.tmps t .any,λb=>y7 s.blks b bk,λb=>s.bu.contains b⟩
inductive iw where
 |normal
 |exit (id:aw)
 |ret
 deriving DecidableEq,ka
inductive cY where
 |call (f:c7) (args:ai D)
 |d (x:D)
 |p (q:Prop)
 |code (c:Code) (n gb:aw) (ds:ai D) (bs:ai (bF (ai D)))
 |m (f:c7) (args cs:ai D)
 |u (cs:ai D)
def tW(kC:ai aw):aw:=kC.foldr (λb m=>if c3 b m then m else b+1) 0
def lay(n:aw)(l:ai (aw×D))(bl:ai (aw×ai D))(ns:ai aw:=[]):St:=
 ⟨(ch n).map λt=>((l.find? λp=>p.1==t).map (·.2)).getD .any,(ch (tW (bl.map (·.1)))).map λb=>(bl.find? λp=>p.1==b).map (·.2),ns⟩
def Fw(r:bF aw):Fence:={eD with round:=r}
def adx{P:cp}{args:eY b3}{w:bn}{R:Ending->bn->Prop}{r:bF aw}{n:aw}(h:vx P f args w R):CallsIn (Fw r) n P f args w R:=by have:=(n2 (n:=n)).2 h;exact this
def ak3{P:cp}{o:e9}{a:Act}{w:bn}{K:Act->bn->Prop}{Q:sx->Act->bn->Prop}{r:bF aw}{n:aw}(j:∀c,o.op≠.defer c)(h:o.wp P a w K Q):o.wpIn (Fw r) n P a w K Q:=by
 refine⟨λf _=>trivial,?_⟩;have e:(Oper.semAt (Fw r).round a.eval o)=execOp a.eval o:=Oper.semAt_eq _ _ _ j;rw[e];unfold Oper.wp at h;generalize(execOp a.eval o).run P w=x at h;have b:(Fw r).depth.isSome=bj->1<=n:=λh=>by simp[Fw,eD]at h
 cases x with
 |ok y g=>
  cases y<;>simp only[Oper.upon,Oper.uponIn]at h⊢ <;>first
   |exact h
   |exact⟨b,adx h⟩
   |exact⟨b,λc cs _=>by obtain⟨v,d,i,s2⟩:=h c cs;exact⟨v,d,i,stepsIn_wide.2 s2⟩⟩
 |halt y g=>cases y<;>simp only[Oper.upon,Oper.uponIn]at h⊢ <;>exact h
def aI(P:cp)(Good:bn->Prop)(n gb:aw)(k:Code)(s:St)(e:iw)(s':St):Prop:=
 ∀(c:Ctx)(Q:sx->Act->bn->Prop)(a:Act)(w:bn),c.P=P->c.Good=Good->c.Good c.w0->c.gb<=gb->Rel c n s.fs a w->
  (∀d b,Rel c n s'.fs d b->Q (match e with|.normal=>.normal|.exit id=>.exit id|.ret=>.ret) d b)->k.wpIn (Fw c.rd) 0 P Q a w
def kh(P:cp)(Good:bn->Prop)(fn:kf)(mx:aw)(args:ai D)(blks:ai (bF (ai D)))(ns:ai aw)(d:D)(blks':ai (bF (ai D)))(ns':ai aw):Prop:=
 ∀(f:c7),P.funcs[f]? =a6 fn->∀(c:Ctx)(w:bn)(β:aw->aw)(X:aw->Prop)(vals:ai b3),c.P=P->c.Good=Good->c.Good c.w0->c.gb<=mx->c.rd=bk->c.dfs=[]->
  df c 0 ⟨λ_=>.any,λb=>y7 blks b bk,λb=>ns.contains b⟩ ⟨#[],[]⟩ w β X->y6 vals=y6 args->(∀i(h:i<y6 vals)(l:i<y6 args),bU β w X vals[i] args[i])->
  (∀d∈args,∀b∈d.refs,(y7 blks b bk).isSome=bj)->
  vx P f vals.toArray w λe j=>∃v g k,e=.returned v/\df c 0 ⟨λ_=>.any,λb=>y7 blks' b bk,λb=>ns'.contains b⟩ ⟨#[],[]⟩ j g k/\bU g j k v d/\
   ∀b∈d.refs,(y7 blks' b bk).isSome=bj
structure sC(P:cp)(Good:bn->Prop)where
 orc:c7->ai D->bF D
 ok:∀f args r,orc f args=a6 r->Spec P Good f args r
 ro:c7->ai aw
 stop:c7->b5
 afD:c7->ai D->bF D
 okF:∀f args r,afD f args=a6 r->iS P Good f args r
 afC:c7->aw->ai D->ai (bF (ai D))->bF (D×ai (bF (ai D)))
 okI:∀f fn mx args blks d blks',afC f mx args blks=a6 (d,blks')->P.funcs[f]? =a6 fn->kh P Good fn mx args blks [] d blks' []
 fr:b5
def Xd(x:D)(v:b3):D:=match x.ref with
 |none=>x
 |some _=>yT v
def qe:ai D->ai b3->ai D
 |x::l,v::vs=>Xd x v::qe l vs
 |_,_=>[]
def abH(x:D)(v:b3):(Xd x v).ref=bk:=by unfold Xd;split;assumption;rfl
def ur:∀{l:ai D}{vs:ai b3},y6 vs=y6 l->y6 (qe l vs)=y6 l
 |[],[],_=>rfl
 |x::l,v::vs,h=>by simp only[qe,ey];rw[ur (by simpa using h)]
def IL:∀{l:ai D}{vs:ai b3}(i:aw)(d:i<y6 l)(b:i<y6 vs)(e:i<y6 (qe l vs)),(qe l vs)[i]=Xd l[i] vs[i]
 |x::l,v::vs,0,_,_,_=>rfl
 |x::l,v::vs,i+1,d,b,e=>by simp only[qe,List.getElem_cons_succ];exact IL i (by simpa using d) (by simpa using b) (by simpa [qe]using e)
 |[],_,_,d,_,_=>api d zb
 |x::l,[],_,_,b,_=>api b zb
def IK:∀{l:ai D}{vs:ai b3},∀x∈qe l vs,x.ref=bk
 |[],_,x,h=>by simp[qe]at h
 |_::_,[],x,h=>by simp[qe]at h
 |y::l,v::vs,x,h=>by
  simp only[qe,b4]at h;obtain rfl|h:=h
  exact abH y v;exact IK x h
inductive Item(P:cp)(Good:bn->Prop)where
 |call {f:c7} {args:ai D} {r:D} (h:Spec P Good f args r)
 |eq (t:Tmp) {d d':D} (h:d=d')
 |prop {p:Prop} (h:p)
 |code {n gb:aw} {k:Code} {l:ai (aw×D)} {bl:ai (aw×ai D)} {ns:ai aw} {e:iw} {s':St} (h:aI P Good n gb k (lay n l bl ns) e s')
 |VD {f:c7} {args:ai D} {n:aw} {cs:ai D} (h:Br P Good f args n cs)
 |dW {f:c7} {args:ai D} {r:D} (h:iS P Good f args r)
 |inl (ro:ai aw) {f:c7} {fn:kf} (hf:P.funcs[f]? =a6 fn)
 |freeze (b:aw)
 |auto (A:sC P Good)
 |a9 {f:c7} {fn:kf} {args cs cs':ai D} {r:D} (hf:P.funcs[f]? =a6 fn) (h:kh P Good fn 1 args [a6 cs] [] r [a6 cs'] [])
 |Js {f:c7} {fn:kf} {args cs:ai D} {r:D} (hf:P.funcs[f]? =a6 fn) (h:∀vs:ai b3,vs.length=cs.length->kh P Good fn 1 args [a6 (qe cs vs)] [] r [a6 (qe cs vs)] [])
 |vr {f:c7} {fn:kf} {mx:aw} {args:ai D} {blks blks':ai (bF (ai D))} {ns ns':ai aw} {d:D} (hf:P.funcs[f]? =a6 fn) (h:kh P Good fn mx args blks ns d blks' ns')
inductive Rec where
 |val (d:D)
 |new (b:aw) (cs:ai D) (d:D) (nf:b5)
 |store (b off:aw) (ds:ai D) (d:D) (nf:b5)
 |grow (b:aw) (cs:ai D) (d:D)
 |own (d:D)
 |inl (blks:ai (bF (ai D))) (ns:ai aw) (d:D)
def Rec.put:Rec->D
 |.val d=>d
 |.new _ _ d _=>d
 |.store _ _ _ d _=>d
 |.grow _ _ d=>d
 |.own d=>d
 |.inl _ _ d=>d
def Rec.plain:Rec->b5
 |.val _=>bj
 |.new _ _ _ _=>bj
 |.store _ _ _ _ _=>bj
 |.grow _ _ _=>aj
 |.own _=>aj
 |.inl _ _ _=>aj
def Rec.inner:Rec->b5
 |.val _=>aj
 |.new _ _ _ _=>aj
 |.store _ _ _ _ _=>aj
 |.grow _ _ _=>aj
 |.own _=>bj
 |.inl _ _ _=>bj
def aE(cs:ai D)(off:aw)(ds:ai D):ai D:=cs.take off++(ds++cs.drop (off+y6 ds))
variable {P:cp} {Good:bn->Prop}
def Dh(e:JT)(d:ai (Item P Good)):bF (ai (Item P Good)×ai (cY×cY)):=
 match e with
 |.no=>a6 (d,[])
 |.want p b _=>match d with
  |.prop (p:=q) _::tr'=>a6 (tr',[(.p p,.p q)])
  |.auto A:: .prop (p:=q) _::tr'=>a6 (.auto A::tr',[(.p p,.p q)])
  |_=>if b then a6 (d,[])else bk
def R0(dst:bF Tmp)(d:D)(b:ai (Item P Good)):D×ai (Item P Good)×ai (cY×cY):=
 match b with
 |.eq t (d:=x) (d':=y) _::tr'=>if dst==a6 t then(y,tr',[(.d d,.d x)])else(d,b,[])
 |.auto A:: .eq t (d:=x) (d':=y) _::tr'=>if dst==a6 t then(y,.auto A::tr',[(.d d,.d x)])else(d,b,[])
 |_=>(d,b,[])
def D.lN(blk:aw->bF (ai D))(bu:aw->b5):aw->D->D
 |0,d=>match d.ref with
  |some b=>match blk b,bu b with
   |some cs,aj=>d.dD b cs
   |_,_=>.any
  |none=>d
 |m+1,d=>match d.ref with
  |some b=>match blk b with
   |some cs=>match bu b with
    |false=>d.dD b cs
    |true=>d.dD b (cs.map (D.lN blk bu m))
   |none=>.any
  |none=>d
def D.rowOf(blk:aw->bF (ai D))(bu:aw->b5)(d:D):D:=
 match d with
 |y4 xs=>y4 (xs.map (D.lN blk bu 4))
 |.aP xs=>.aP (xs.map (D.lN blk bu 4))
 |d=>(D.lN blk bu 4 d).H8
def D.flat:D->b5
 |yT _=>bj
 |_=>aj
section
universe u
variable {α:Type u}
def NC(n:aw)(k:aw->α):α:=match n with
 |0=>k 0
 |m+1=>k (Nat.succ m)
def oR(n:aw)(k:aw->α):NC n k=k n:=by cases n<;>rfl
def frI(z:cA)(k:cA->α):α:=match z with
 |.ofNat n=>NC n λn=>k (.ofNat n)
 |.negSucc n=>NC n λn=>k (.negSucc n)
def aj9(z:cA)(k:cA->α):frI z k=k z:=by cases z<;>simp only[frI,oR]
def frB(b:b5)(k:b5->α):α:=match b with
 |true=>k bj
 |false=>k aj
def Th(b:b5)(k:b5->α):frB b k=k b:=by cases b<;>rfl
def frV(v:b3)(k:b3->α):α:=match v with
 |.int t z=>frI z λz=>k (.int t z)
 |.bool b=>frB b λb=>k (.bool b)
 |v=>k v
def aj7(v:b3)(k:b3->α):frV v k=k v:=by cases v<;>first|rfl|simp only[frV,aj9,Th]
def XK(g:D->(D->α)->α):ai D->(ai D->α)->α
 |[],k=>k []
 |x::l,k=>g x λx=>XK g l λl=>k (x::l)
def xX{g:D->(D->α)->α}(b:∀d k,g d k=k d):∀(l:ai D)(k:ai D->α),XK g l k=k l
 |[],_=>rfl
 |x::l,k=>by simp only[XK];rw[b,xX b l]
def LK:aw->D->(D->α)->α
 |0,d,k=>k d
 |_+1,yT v,k=>frV v λv=>k (yT v)
 |n+1,yI l f xs,k=>NC l λl=>frB f λf=>XK (LK n) xs λxs=>k (yI l f xs)
 |n+1,y4 xs,k=>XK (LK n) xs λxs=>k (y4 xs)
 |n+1,.aP xs,k=>XK (LK n) xs λxs=>k (.aP xs)
 |n+1,.aJ xs,k=>XK (LK n) xs λxs=>k (.aJ xs)
 |_+1,y0 b o,k=>NC b λb=>NC o λo=>k (y0 b o)
 |_+1,.aY b o l c,k=>NC b λb=>NC o λo=>NC l λl=>NC c λc=>k (.aY b o l c)
 |_+1,.bG b l z,k=>NC b λb=>NC l λl=>NC z λz=>k (.bG b l z)
 |n+1,.fn f xs e,k=>NC f λf=>XK (LK n) xs λxs=>XK (LK n) e λe=>k (.fn f xs e)
 |_+1,d,k=>k d
def sK:∀(n:aw)(d:D)(k:D->α),LK n d k=k d
 |0,d,k=>rfl
 |n+1,d,k=>by cases d<;>simp only[LK];exact aj7 _ _;rw[oR,Th,xX (sK n)];rw[xX (sK n)];rw[xX (sK n)];rw[xX (sK n)];rw[oR,oR];rw[oR,oR,oR,oR];rw[oR,oR,oR];rw[oR,xX (sK n),xX (sK n)]
end
def Mt:ai UInt8->ai UInt8->b5
 |[],[]=>bj
 |a::l,b::m=>ml a.toNat b.toNat&&Mt l m
 |_,_=>aj
def KM:∀{l m:ai UInt8},Mt l m=bj->l=m
 |[],[],_=>rfl
 |a::l,b::m,h=>by simp only[Mt,zLq]at h;rw[UInt8.toNat_inj.1 (aqJ h.1),KM h.2]
def My(a b:cB):b5:=Mt a.data.toList b.data.toList
def HL{a b:cB}(h:My a b=bj):a=b:=by have:=KM h;cases a;cases b;simp only at this;rw[aqc.1 this]
def Mp:b3->b3->b5
 |.int k a,.int l b=>decide (k=l)&&decide (a=b)
 |.bool a,.bool b=>decide (a=b)
 |.string a,.string b=>My a b
 |.nilIface,.nilIface=>bj
 |.nilFunc,.nilFunc=>bj
 |.tuple a,.tuple b=>decide (a.size=0)&&decide (b.size=0)
 |.pointer bk,.pointer bk=>bj
 |.func (.func f) a b,.func (.func g) c d=>decide (f=g)&&(decide (a.size=0/\b.size=0)&&decide (c.size=0/\d.size=0))
 |_,_=>aj
def Rr:∀{a b:b3},Mp a b=bj->a=b:=by intro a b h;unfold Mp at h;split at h;rw[zLq,cm,cm]at h;rw[h.1,h.2];rw[cm]at h;rw[h];rw[HL h];rfl;rfl;rw[zLq,cm,cm]at h;rw[aqj h.1,aqj h.2];rfl;rw[zLq,zLq,cm,cm,cm]at h;obtain⟨rfl,⟨g,f⟩,e,d⟩:=h;rw[aqj g,aqj f,aqj e,aqj d];cases h
def oG(f:D->D->b5):ai D->ai D->b5
 |[],[]=>bj
 |a::l,b::m=>f a b&&oG f l m
 |_,_=>aj
def j4{f:D->D->b5}(d:∀{a b},f a b=bj->a=b):∀{l m:ai D},oG f l m=bj->l=m
 |[],[],_=>rfl
 |a::l,b::m,h=>by simp only[oG,zLq]at h;rw[d h.1,j4 d h.2]
def yr:aw->D->D->b5
 |0,_,_=>aj
 |_+1,.any,.any=>bj
 |_+1,yT a,yT b=>Mp a b
 |n+1,yI l f xs,yI m g d=>decide (l=m)&&decide (f=g)&&oG (yr n) xs d
 |n+1,y4 xs,y4 d=>oG (yr n) xs d
 |n+1,.aJ xs,.aJ d=>oG (yr n) xs d
 |n+1,.aP xs,.aP d=>oG (yr n) xs d
 |_+1,y0 b o,y0 e i=>decide (b=e)&&decide (o=i)
 |_+1,.aY b o l k,.aY e i l' j=>decide (b=e)&&decide (o=i)&&decide (l=l')&&decide (k=j)
 |_+1,.bG b l k,.bG e l' j=>decide (b=e)&&decide (l=l')&&decide (k=j)
 |n+1,.fn f xs d,.fn g p h=>decide (f=g)&&oG (yr n) xs p&&oG (yr n) d h
 |_,_,_=>aj
def pZ:∀(n:aw){a b:D},yr n a b=bj->a=b
 |0,_,_,h=>by simp[yr]at h
 |n+1,a,b,h=>by cases a<;>cases b<;>simp only[yr,cy]at h;rfl;rw[Rr h];simp only[zLq,cm]at h;rw[h.1.1,h.1.2,j4 (λd=>pZ n d) h.2];rw[j4 (λd=>pZ n d) h];rw[j4 (λd=>pZ n d) h];rw[j4 (λd=>pZ n d) h];simp only[zLq,cm]at h;rw[h.1,h.2];simp only[zLq,cm]at h;rw[h.1.1.1,h.1.1.2,h.1.2,h.2];simp only[zLq,cm]at h;rw[h.1.1,h.1.2,h.2];simp only[zLq,cm]at h;rw[h.1.1,j4 (λd=>pZ n d) h.1.2,j4 (λd=>pZ n d) h.2]
def uK:ai (bF (ai D))->ai (bF (ai D))->b5
 |[],[]=>bj
 |none::l,bk::m=>uK l m
 |some a::l,a6 b::m=>oG (yr 8) a b&&uK l m
 |_,_=>aj
def se:∀{l m:ai (bF (ai D))},uK l m=bj->l=m
 |[],[],_=>rfl
 |none::l,bk::m,h=>by rw[se (l:=l) (m:=m) h]
 |some a::l,a6 b::m,h=>by simp only[uK,zLq]at h;rw[j4 (λd=>pZ 8 d) h.1,se h.2]
def QG(blks blks':ai (bF (ai D)))(d:D):b5:=d.refs.isEmpty&&uK blks (blks'.take (y6 blks))
def ac_{blks blks':ai (bF (ai D))}(h:QG blks blks' d=bj):d.refs=[]/\∀b cs,y7 blks b bk=a6 cs->y7 blks' b bk=a6 cs:=by unfold QG at h;rw[zLq,asR]at h;refine⟨h.1,λb cs f=>?_⟩;have e:=se h.2;rw[e]at f;simp only[bP,gi]at f⊢;split at f;exact f;simp at f
abbrev Inline(P:cp)(Good:bn->Prop):=aw->ai aw->kf->ai D->ai (bF (ai D))->ai aw->ai (Item P Good)->bF (D×ai (bF (ai D))×ai aw×ai (Item P Good)×ai (cY×cY))
def L6(f:c7)(mx:aw)(args:ai D)(blks:ai (bF (ai D)))(ns:ai aw):cY:=.code .skip f mx (.aP args::ns.map λn=>y0 n 0) blks
def Ym{g:c7}{m m':aw}{e i:ai (bF (ai D))}{ns ns':ai aw}(xs:L6 f m b e ns=L6 g m' h i ns'):f=g/\m=m'/\b=h/\e=i/\ns=ns':=by
 unfold L6 at xs;simp only[cY.code.injEq,en,D.aP.injEq,true_and]at xs;refine⟨xs.1,xs.2.1,xs.2.2.1.1,xs.2.2.2,?_⟩;have d:=xs.2.2.1.2;clear xs;induction ns generalizing ns' with
 |nil=>cases ns' with
  |nil=>rfl
  |cons y l=>cases d
 |cons x l j=>cases ns' with
  |nil=>cases d
  |cons y k=>
   simp only[eZ,en,D.ptr.injEq,and_true]at d;rw[d.1,j d.2]
def al3{P:cp}{Good:bn->Prop}(A:sC P Good)(mx:aw)(f:c7)(args:ai D)(blks:ai (bF (ai D)))(ns:ai aw)(tr':ai (Item P Good)):bF (D×ai (bF (ai D))×ai aw×ai (Item P Good)×ai (cY×cY)):=
 match A.stop f with
 |true=>match tr' with
  |.vr (f:=g) (mx:=i) (args:=xs) (blks:=k) (blks':=j) (ns:=h) (ns':=e) (d:=d) _ _::b=>a6 (d,j,e,.auto A::b,[(L6 f mx args blks ns,L6 g i xs k h)])
  |_=>bk
 |false=>bk
def SW{P:cp}{Good:bn->Prop}(inl:Inline P Good)(A:sC P Good)(ro:ai aw)(mx:aw)(f:c7)(fn:kf)(args:ai D)(blks:ai (bF (ai D)))(ns:ai aw)(tr':ai (Item P Good)):bF (D×ai (bF (ai D))×ai aw×ai (Item P Good)×ai (cY×cY)):=
 match al3 A mx f args blks ns tr' with
 |some x=>a6 x
 |none=>match ns with
  |[]=>match A.afC f mx args blks with
   |some (d,blks')=>a6 (d,blks',[],.auto A::tr',[])
   |none=>inl mx ro fn args blks [] (.auto A::tr')
  |n::ns=>inl mx ro fn args blks (n::ns) (.auto A::tr')
variable {e:eY e9} {g:ai b3} {i j:c6->D} {k:JT} {l:kf} {o:ai (cY×cY)} {p:D} {q:D->D}
def Aw{inl:Inline P Good}{A:sC P Good}{ro:ai aw}{mx:aw}{blks blks':ai (bF (ai D))}{ns ns':ai aw}{tr' i:ai (Item P Good)}
  (h:SW inl A ro mx f l b blks ns tr'=a6 (d,blks',ns',i,o)) (k:P.funcs[f]? =a6 l) (eqs:∀e∈o,e.1=e.2):kh P Good l mx b blks ns d blks' ns'\/inl mx ro l b blks ns (.auto A::tr')=a6 (d,blks',ns',i,o):=by
 unfold SW at h;split at h;rename_i x args;simp only[zIq]at h;subst h;unfold al3 at args;split at args;split at args;rename_i g q B t C r z y d0 j p v;cases args;obtain⟨rfl,rfl,rfl,rfl,rfl⟩:=Ym (eqs _ (apw ..));rw[k]at j;obtain rfl:=ap0 j;exact .inl p;cases args;cases args;split at h;split at h;rename_i d1 r fn;simp only[zIq,zJq]at h;obtain⟨rfl,rfl,rfl,-,-⟩:=h;exact .inl (A.okI _ _ _ _ _ _ _ fn k);exact y2 h;exact y2 h
def JH(P:cp){Good:bn->Prop}(inl:Inline P Good)(A:sC P Good)(mx:aw)(f:c7)(args:ai D)(blks:ai (bF (ai D)))(ns:ai aw)(tr':ai (Item P Good)):bF (Rec×ai (Item P Good)×ai (cY×cY)):=
 match P.funcs[f]?with
 |some fn=>match SW inl A (A.ro f) mx f fn args blks ns tr' with
  |some (d,blks',ns',b,eqs)=>a6 (match A.fr&&QG blks blks' d with|true=>.own d|false=>.inl blks' ns' d,b,eqs)
  |none=>bk
 |none=>bk
def pg{inl:Inline P Good}{A:sC P Good}{mx:aw}{blks:ai (bF (ai D))}{ns:ai aw}{tr' e:ai (Item P Good)}{R:Rec}
  (h:JH P inl A mx f b blks ns tr'=a6 (R,e,o)):∃fn d blks' ns',P.funcs[f]? =a6 fn/\SW inl A (A.ro f) mx f fn b blks ns tr'=a6 (d,blks',ns',e,o)/\(R=.inl blks' ns' d\/R=.own d/\QG blks blks' d=bj):=by
 unfold JH at h;split at h;rename_i fn j;split at h;rename_i d blks' ns' l k i;simp only[zIq,zJq]at h;obtain⟨args,rfl,rfl⟩:=h;refine⟨fn,d,blks',ns',j,i,?_⟩;split at args;rename_i g;rw[zLq]at g;exact y2 ⟨args.symm,g.2⟩;exact .inl args.symm;cases h;cases h
def zr(blk:aw->bF (ai D))(args:ai D):bF (bF (aw×ai D)):=
 match args.flatMap D.refs with
 |[]=>a6 bk
 |b::l=>match l.all (λd=>d==b),blk b with
  |true,a6 cs=>match dX cs with
   |true=>bk
   |false=>a6 (a6 (b,cs))
  |_,_=>bk
def mO:bF (aw×ai D)->ai (bF (ai D))
 |none=>[]
 |some (b,cs)=>cd b bk++[a6 cs]
def D.Bb:D->D
 |y0 _ o=>y0 0 o
 |.aY _ o l c=>.aY 0 o l c
 |.bG _ n z=>.bG 0 n z
 |d=>d
def D.AU:D->D
 |y4 xs=>y4 (xs.map D.Bb)
 |.aP xs=>.aP (xs.map D.Bb)
 |d=>d.Bb
def amB:bF (aw×ai D)->ai (bF (ai D))
 |none=>[]
 |some (_,cs)=>[a6 cs]
def amA:bF (aw×ai D)->aw
 |none=>0
 |some _=>1
def amC(o:bF (aw×ai D))(args:ai D):ai D:=match o with
 |none=>args
 |some _=>args.map D.AU
def Qh(o:bF (aw×ai D))(d:D)(blks':ai (bF (ai D)))(ns':ai aw):bF D:=
 match o with
 |none=>a6 (d.rowOf (λb=>y7 blks' b bk) (λb=>ns'.contains b))
 |some (_,cs)=>match y7 blks' 0 bk with
  |some cs'=>match d.refs.isEmpty&&(oG (yr 8) cs cs'&& !dX cs')with
   |true=>a6 d
   |false=>bk
  |none=>bk
def Qg(e:b5)(b:aw)(cs cs':ai D)(d:D):bF (Rec×ai (cY×cY)):=
 match d.refs.isEmpty&&(ml (y6 cs') (y6 cs)&& !dX cs')with
 |true=>match e with
  |true=>a6 (.store b 0 cs' d aj,[])
  |false=>a6 (.val d,[(.u cs',.u cs)])
 |false=>bk
def Va(e:b5)(o:bF (aw×ai D))(d:D)(blks':ai (bF (ai D)))(ns':ai aw):bF (Rec×ai (cY×cY)):=
 match o with
 |none=>a6 (.val (d.rowOf (λb=>y7 blks' b bk) (λb=>ns'.contains b)),[])
 |some (b,cs)=>match y7 blks' 0 bk with
  |some cs'=>Qg e b cs cs' d
  |none=>bk
def Ws(blk:aw->bF (ai D))(args:ai D):bF (aw×ai D):=
 match args.flatMap D.refs with
 |[]=>bk
 |b::l=>match l.all (λd=>d==b),blk b with
  |true,a6 cs=>a6 (b,cs)
  |_,_=>bk
def ae5{blk:aw->bF (ai D)}{args:aw}(cs:Ws blk b=a6 (args,h)):blk args=a6 h/\∀d∈b,∀f∈d.refs,f=args:=by
 unfold Ws at cs;split at cs;cases cs;rename_i q l i;split at cs;rename_i p g k;cases cs;refine⟨k,λd j f o=>?_⟩;have hm:f∈b.flatMap D.refs:=aq9.2 ⟨d,j,o⟩;rw[i]at hm;obtain e|hm:=apo.1 hm
 exact e;have:=apH.1 g f hm
 rwa [ec]at this
 cases cs
def afQ{P:cp}{Good:bn->Prop}(A:sC P Good)(f:c7)(args:ai D)(blk:aw->bF (ai D))(tr':ai (Item P Good)):bF (Rec×ai (Item P Good)×ai (cY×cY)):=
 match tr' with
 |.a9 (f:=g) (args:=xs) (cs:=e) (cs':=h) (r:=r) _ _::d=>match zr blk args with
  |some (a6 (b,cs))=>match Qg ((A.ro f).contains 996) b cs h r with
   |some (R,i)=>a6 (R,.auto A::d,(.m f (args.map D.AU) cs,.m g xs e)::i)
   |none=>bk
  |_=>bk
 |.Js (f:=g) (args:=xs) (cs:=e) (r:=r) _ _::d=>match Ws blk args with
  |some (_,cs)=>match r.refs.isEmpty with
   |true=>a6 (.val r,.auto A::d,[(.m f (args.map D.AU) cs,.m g xs e)])
   |false=>bk
  |none=>bk
 |_=>bk
def B4{g:b5}{f:aw}{R:Rec}(cs':Qg g f b h d=a6 (R,o)):
  dX h=aj/\d.refs=[]/\y6 h=y6 b/\((R=.val d/\o=[(.u h,.u b)])\/(R=.store f 0 h d aj/\o=[])):=by
 unfold Qg at cs';split at cs';rename_i e;simp only[zLq,na,fV]at e;split at cs';simp only[zIq,zJq]at cs';exact⟨e.2.2,e.1,aqJ e.2.1,y2 ⟨cs'.1.symm,cs'.2.symm⟩⟩;simp only[zIq,zJq]at cs';exact⟨e.2.2,e.1,aqJ e.2.1,.inl ⟨cs'.1.symm,cs'.2.symm⟩⟩;cases cs'
def oo(P:cp){Good:bn->Prop}(inl:Inline P Good)(A:sC P Good)(f:c7)(args:ai D)(blk:aw->bF (ai D))(tr':ai (Item P Good)):bF (Rec×ai (Item P Good)×ai (cY×cY)):=
 match A.stop f with
 |true=>afQ A f args blk tr'
 |false=>match(A.ro f).contains 999 with
  |true=>bk
  |false=>match zr blk args with
   |some o=>match P.funcs[f]?with
    |some fn=>match SW inl A (998::A.ro f) (amA o) f fn (amC o args) (amB o) [] tr' with
     |some (d,blks',ns',e,eqs)=>match A.fr with
      |true=>(match Qh o d blks' ns' with
       |some b=>LK 12 b λb=>a6 (.val b,e,eqs)
       |none=>bk)
      |false=>(match Va ((A.ro f).contains 996) o d blks' ns' with
       |some (R,g)=>a6 (R,e,eqs++g)
       |none=>bk)
     |none=>bk
    |none=>bk
   |none=>bk
def ahJ(nb:aw):D->bF (aw×D)
 |.bG b n size=>a6 (b,.bG nb n size)
 |y0 b off=>a6 (b,y0 nb off)
 |_=>bk
def alY(nb:aw)(x e:D)(blks':ai (bF (ai D))):bF Rec:=
 match ahJ nb x with
 |some (b,d)=>match e.ref with
  |some _=>bk
  |none=>match y7 blks' b bk with
   |some cs=>match dX cs with
    |true=>bk
    |false=>a6 (.new nb cs (.aP [d,e]) aj)
   |none=>bk
 |none=>bk
def abl(nb:aw)(d:D)(blks':ai (bF (ai D)))(_ns':ai aw):bF Rec:=
 match d with
 |.bG b n size=>match y7 blks' b bk with
  |some cs=>match dX cs with
   |true=>bk
   |false=>a6 (.new nb cs (.bG nb n size) aj)
  |none=>bk
 |.aY b off len cap=>match y7 blks' b bk with
  |some cs=>match dX cs with
   |true=>bk
   |false=>a6 (.new nb cs (.aY nb off len cap) aj)
  |none=>bk
 |.aP [x,e]=>alY nb x e blks'
 |_=>bk
def Fs(P:cp){Good:bn->Prop}(inl:Inline P Good)(A:sC P Good)(f:c7)(args:ai D)(nb:aw)(tr':ai (Item P Good)):bF (Rec×ai (Item P Good)×ai (cY×cY)):=
 match(A.ro f).contains 997 with
 |false=>bk
 |true=>match P.funcs[f]?with
  |some fn=>match SW inl A (A.ro f) 0 f fn args [] [] tr' with
   |some (d,blks',ns',b,eqs)=>match abl nb d blks' ns' with
    |some R=>a6 (R,b,eqs)
    |none=>bk
   |none=>bk
  |none=>bk
def uN{inl:Inline P Good}{A:sC P Good}{nb:aw}{tr' args:ai (Item P Good)}{R:Rec}
  (h:Fs P inl A f b nb tr'=a6 (R,args,o)):∃fn d blks' ns',P.funcs[f]? =a6 fn/\SW inl A (A.ro f) 0 f fn b [] [] tr'=a6 (d,blks',ns',args,o)/\abl nb d blks' ns'=a6 R:=by
 unfold Fs at h;split at h;cases h;split at h;rename_i fn g;split at h;rename_i d blks' ns' k j e;split at h;rename_i l i;cases h;exact⟨fn,d,blks',ns',g,e,i⟩;cases h;cases h;cases h
def An{nb:aw}{blks':ai (bF (ai D))}{ns':ai aw}{R:Rec}(h:abl nb d blks' ns'=a6 R):
  ∃b cs d',y7 blks' b bk=a6 cs/\dX cs=aj/\R=.new nb cs d' aj/\((∃n size,d=.bG b n size/\d'=.bG nb n size)\/(∃off len f,d=.aY b off len f/\d'=.aY nb off len f)\/
   ∃x x' e,d=.aP [x,e]/\d'=.aP [x',e]/\e.ref=bk/\((∃n size,x=.bG b n size/\x'=.bG nb n size)\/∃off,x=y0 b off/\x'=y0 nb off)):=by
 unfold abl at h;split at h;rename_i b n size;split at h;rename_i cs g;split at h;cases h;rename_i j;cases h;exact⟨b,cs,_,g,j,rfl,.inl ⟨n,size,rfl,rfl⟩⟩;cases h;rename_i b off len f;split at h;rename_i cs g;split at h;cases h;rename_i j;cases h;exact⟨b,cs,_,g,j,rfl,y2 (.inl ⟨off,len,f,rfl,rfl⟩)⟩;cases h;rename_i x e;unfold alY at h;split at h;rename_i b x' i;split at h;cases h;rename_i k;split at h;rename_i cs g;split at h;cases h;rename_i j;cases h;refine⟨b,cs,_,g,j,rfl,y2 (y2 ⟨x,x',e,rfl,rfl,k,?_⟩)⟩;unfold ahJ at i;split at i;cases i;exact .inl ⟨_,_,rfl,rfl⟩;cases i;exact y2 ⟨_,rfl,rfl⟩;cases i;cases h;cases h;cases h
def ag2(P:cp)(Good:bn->Prop)(fn:kf)(args:ai D)(o:bF (aw×ai D))(R:Rec):Prop:=
 (∃d blks' ns',o=bk/\kh P Good fn 0 args [] [] d blks' ns'/\R=.val (d.rowOf (λb=>y7 blks' b bk) (λb=>ns'.contains b)))\/
 ∃b cs cs' d blks' ns',o=a6 (b,cs)/\kh P Good fn 1 (args.map D.AU) [a6 cs] [] d blks' ns'/\y7 blks' 0 bk=a6 cs'/\dX cs'=aj/\d.refs=[]/\((cs'=cs/\R=.val d)\/(y6 cs'=y6 cs/\R=.store b 0 cs' d aj))
def aee(P:cp)(Good:bn->Prop)(fn:kf)(blk:aw->bF (ai D))(args:ai D)(R:Rec):Prop:=
 ∃b cs d,blk b=a6 cs/\(∀x∈args,∀f∈x.refs,f=b)/\d.refs=[]/\R=.val d/\
  ∀e:ai b3,y6 e=y6 cs->kh P Good fn 1 (args.map D.AU) [a6 (qe cs e)] [] d [a6 (qe cs e)] []
def KA{inl:Inline P Good}{A:sC P Good}{blk:aw->bF (ai D)}{tr' U:ai (Item P Good)}{R:Rec}
  (N:∀mx ro fn b blks ns S d blks' ns' tr' o,inl mx ro fn b blks ns S=a6 (d,blks',ns',tr',o)->(∀e∈o,e.1=e.2)->kh P Good fn mx b blks ns d blks' ns')
  (h:oo P inl A f b blk tr'=a6 (R,U,o)) (k:∀e∈o,e.1=e.2):∃fn,P.funcs[f]? =a6 fn/\((∃eqs,zr blk b=a6 eqs/\ag2 P Good fn b eqs R)\/aee P Good fn blk b R):=by
 have L:∀{cs cs':ai D}{l:ai (cY×cY)},(cY.u cs',cY.u cs)∈l->(∀e∈l,e.1=e.2)->cs'=cs:=λz Z=>by have:=Z _ z;simp only[cY.u.injEq]at this;exact this
 unfold oo at h;split at h;unfold afQ at h;split at h;rename_i g fn Q V T r j z M;split at h;rename_i args cs E;split at h;rename_i R' K hu;cases h;have B:=k _ (apw ..);simp only[cY.m.injEq]at B;obtain⟨rfl,rfl,rfl⟩:=B;obtain⟨J,I,H,G⟩:=B4 hu;refine⟨fn,j,.inl ⟨_,E,y2 ⟨args,cs,T,r,_,_,rfl,z,rfl,J,I,?_⟩⟩⟩;rcases G with⟨t,y⟩|⟨t,y⟩
 exact .inl ⟨L (l:=K) (by rw[y];exact apw ..) (λe i=>k e (apX _ i)),t⟩;exact y2 ⟨H,t⟩;cases h;cases h;rename_i g fn Q V r j z M;split at h;rename_i args cs W;split at h;rename_i Y;cases h;have B:=k _ (apw ..);simp only[cY.m.injEq]at B;obtain⟨rfl,rfl,rfl⟩:=B;obtain⟨s1,s2⟩:=ae5 W;exact⟨fn,j,y2 ⟨args,cs,r,s1,s2,asR.1 Y,rfl,z⟩⟩;cases h;cases h;cases h;split at h;cases h;split at h;rename_i eqs E;split at h;rename_i fn j;split at h;rename_i d blks' ns' M agk O;split at h;split at h;rename_i d' p;rw[sK]at h;cases h;have C:=(Aw O j k).elim id λq=>N _ _ _ _ _ _ _ _ _ _ _ _ q k
 refine⟨fn,j,.inl ⟨eqs,E,?_⟩⟩;cases eqs with
 |none=>
  simp only[Qh,zIq]at p;exact .inl ⟨d,blks',ns',rfl,C,by rw[<-p]⟩
 |some q=>
  obtain⟨args,cs⟩:=q;simp only[Qh]at p;split at p;rename_i cs' v;split at p;rename_i F;simp only[zLq,na,fV]at F;have e:=j4 (λhh=>pZ 8 hh) F.2.1;exact y2 ⟨args,cs,cs',d,blks',ns',rfl,C,v,F.2.2,F.1,.inl ⟨e.symm,by rw[<-ap0 p]⟩⟩;cases p;cases p
 cases h;split at h;rename_i R' K x;cases h;have C:=(Aw O j λe i=>k e (aqt _ i)).elim id λq=>N _ _ _ _ _ _ _ _ _ _ _ _ q λe i=>k e (aqt _ i)
 refine⟨fn,j,.inl ⟨eqs,E,?_⟩⟩;cases eqs with
 |none=>
  simp only[Va,zIq,zJq]at x;exact .inl ⟨d,blks',ns',rfl,C,x.1.symm⟩
 |some q=>
  obtain⟨args,cs⟩:=q;simp only[Va]at x;split at x;rename_i cs' v;obtain⟨J,I,H,G⟩:=B4 x;refine y2 ⟨args,cs,cs',d,blks',ns',rfl,C,v,J,I,?_⟩;rcases G with⟨t,y⟩|⟨t,y⟩
  exact .inl ⟨L (l:=K) (by rw[y];exact apw ..) (λe i=>k e (aqX _ i)),t⟩;exact y2 ⟨H,t⟩;cases x
 cases h;cases h;cases h;cases h
def rJ{inl:Inline P Good}{A:sC P Good}{blk:aw->bF (ai D)}{tr' j:ai (Item P Good)}{R:Rec}
  (h:oo P inl A f b blk tr'=a6 (R,j,o)):(∃d,R=.val d)\/∃args cs d,R=.store args 0 cs d aj:=by
 have g:∀{k:b5}{args:aw}{cs cs':ai D}{d:D}{R:Rec}{i:ai (cY×cY)},Qg k args cs cs' d=a6 (R,i)->(∃d,R=.val d)\/∃args cs d,R=.store args 0 cs d aj:=λhu=>by
  rcases(B4 hu).2.2.2 with⟨q,-⟩|⟨q,-⟩
  exact .inl ⟨_,q⟩;exact y2 ⟨_,_,_,q⟩
 unfold oo afQ at h;split at h;split at h;split at h;split at h;rename_i hu;simp only[zIq,zJq]at h;obtain⟨rfl,-,-⟩:=h;exact g hu;cases h;cases h;split at h;split at h;simp only[zIq,zJq]at h;obtain⟨rfl,-,-⟩:=h;exact .inl ⟨_,rfl⟩;cases h;cases h;cases h;split at h;cases h;split at h;split at h;split at h;split at h;split at h;rw[sK]at h;simp only[zIq,zJq]at h;obtain⟨rfl,-,-⟩:=h;exact .inl ⟨_,rfl⟩;cases h;split at h;rename_i l i e;simp only[zIq,zJq]at h;obtain⟨rfl,-,-⟩:=h;unfold Va at e;split at e;simp only[zIq,zJq]at e;exact .inl ⟨_,e.1.symm⟩;split at e;exact g e;cases e;cases h;cases h;cases h;cases h
def JI{inl:Inline P Good}{A:sC P Good}{blk blk':aw->bF (ai D)}{tr':ai (Item P Good)}(g:∀args l,b.flatMap D.refs=args::l->blk args=blk' args):
  oo P inl A f b blk tr'=oo P inl A f b blk' tr':=by
 have e:zr blk b=zr blk' b:=by unfold zr;split;rfl;rename_i args l d;rw[g args l d]
 have h:Ws blk b=Ws blk' b:=by unfold Ws;split;rfl;rename_i args l d;rw[g args l d]
 unfold oo afQ;rw[e,h]
def Hi(A:sC P Good)(f:c7)(args:ai D)(b:ai (Item P Good)):bF (D×ai (Item P Good)×ai (cY×cY)):=
 match A.stop f with
 |true=>match b with
  |.call (f:=g) (args:=xs) (r:=r) _::tr'=>a6 (r,tr',[(.call f args,.call g xs)])
  |_=>bk
 |false=>match A.orc f args with
  |some r=>a6 (r,b,[])
  |none=>bk
def fL(inl:Inline P Good)(mx:aw)(blk:aw->bF (ai D))(bu:aw->b5)(blks:ai (bF (ai D)))(ns:ai aw)(dst:bF Tmp)(E:Eff)(h:ai (Item P Good)):bF (Rec×ai (Item P Good)×ai (cY×cY)):=
 match E with
 |.val d=>match R0 dst d h with
  |(j,tr',eqs)=>a6 (.val j,tr',eqs)
 |.new b cs d i=>a6 (.new b cs d i,h,[])
 |.store b off k d i=>a6 (.store b off k d i,h,[])
 |.grow b cs d=>a6 (.grow b cs d,h,[])
 |.call f args=>match h with
  |.call (f:=g) (args:=xs) (r:=r) _::tr'=>
   if args.any (λd=>!d.refs.isEmpty)then(if r.flat then a6 (.own r,tr',[(.call f (args.map (D.rowOf blk bu)),.call g xs)])else bk)
   else match R0 dst r tr' with
    |(j,e,eqs)=>a6 (.val j,e,(.call f (args.map D.H8),.call g xs)::eqs)
  |.VD (f:=g) (args:=xs) (n:=n) (cs:=cs) _::tr'=>
   if args.any (λd=>!d.refs.isEmpty)then bk else a6 (.new (y6 blks) cs (.aY (y6 blks) 0 n n) aj,tr',[(.call f (args.map D.H8),.call g xs)])
  |.dW (f:=g) (args:=xs) (r:=r) _::tr'=>a6 (.own r,tr',[(.call f (args.map (D.rowOf blk bu)),.call g xs)])
  |.inl ro (f:=g) (fn:=fn) _::tr'=>match inl mx ro fn args blks ns tr' with
   |some (d,blks',ns',e,eqs)=>a6 (.inl blks' ns' d,e,(.call f [],.call g [])::eqs)
   |none=>bk
  |.auto A::tr'=>if args.any (λd=>!d.refs.isEmpty)then(match oo P inl A f args blk tr' with
    |some x=>a6 x
    |none=>match A.afD f (args.map (D.rowOf blk bu))with
     |some r=>a6 (.own r,.auto A::tr',[])
     |none=>match Hi A f (args.map (D.rowOf blk bu)) tr' with
      |some (r,e,eqs)=>if r.flat then a6 (.own r,.auto A::e,eqs)else bk
      |none=>JH P inl A mx f args blks ns tr')
   else(match Hi A f (args.map D.H8) tr' with
    |some (r,e,eqs)=>a6 (.val r,.auto A::e,eqs)
    |none=>match Fs P inl A f args (y6 blks) tr' with
     |some x=>a6 x
     |none=>match oo P inl A f args blk tr' with
      |some x=>a6 x
      |none=>JH P inl A mx f args blks ns tr')
  |_=>bk
universe u
def XM{α:Type u}:ai (bF (ai D))->(ai (bF (ai D))->α)->α
 |[],k=>k []
 |none::l,k=>XM l λl=>k (bk::l)
 |some cs::l,k=>XK (LK 12) cs λcs=>XM l λl=>k (a6 cs::l)
def ND{α:Type u}:∀(l:ai (bF (ai D)))(k:ai (bF (ai D))->α),XM l k=k l
 |[],_=>rfl
 |none::l,k=>by simp only[XM];rw[ND l]
 |some cs::l,k=>by simp only[XM];rw[xX (sK 12),ND l]
def frR{α:Type u}(R:Rec)(k:Rec->α):α:=match R with
 |.val d=>LK 12 d λd=>k (.val d)
 |.new b cs d f=>NC b λb=>XK (LK 12) cs λcs=>LK 12 d λd=>frB f λf=>k (.new b cs d f)
 |.store b e g d f=>NC b λb=>NC e λe=>XK (LK 12) g λg=>LK 12 d λd=>frB f λf=>k (.store b e g d f)
 |.grow b cs d=>NC b λb=>XK (LK 12) cs λcs=>LK 12 d λd=>k (.grow b cs d)
 |.own d=>LK 12 d λd=>k (.own d)
 |.inl blks h d=>XM blks λblks=>LK 12 d λd=>k (.inl blks h d)
def aj8{α:Type u}(R:Rec)(k:Rec->α):frR R k=k R:=by cases R<;>simp only[frR,sK,oR,Th,ND,xX (sK 12)]
def IE(inl:Inline P Good)(mx:aw)(blk:aw->bF (ai D))(bu:aw->b5)(blks:ai (bF (ai D)))(ns:ai aw)(dst:bF Tmp)(E:Eff)(b:ai (Item P Good)):bF (Rec×ai (Item P Good)×ai (cY×cY)):=
 match b with
 |.auto A::_=>match A.fr with
  |true=>(match fL inl mx blk bu blks ns dst E b with
   |some (R,tr',eqs)=>frR R λR=>a6 (R,tr',eqs)
   |none=>bk)
  |false=>fL inl mx blk bu blks ns dst E b
 |b=>fL inl mx blk bu blks ns dst E b
def PE{inl:Inline P Good}{mx:aw}{blk:aw->bF (ai D)}{bu:aw->b5}{blks:ai (bF (ai D))}{ns:ai aw}{dst:bF Tmp}{E:Eff}{b:ai (Item P Good)}:IE inl mx blk bu blks ns dst E b=fL inl mx blk bu blks ns dst E b:=by unfold IE;split;split;split;rename_i R tr' d h;rw[aj8,h];rename_i h;rw[h];rfl;rfl
def l9(ops:eY e9)(o:e9)(tmp:aw->D):bF b5:=
 match o.guard with
 |none=>a6 bj
 |some (j,want)=>match(ops[j]?).bind (·.dst)with
  |some t=>match tmp t with
   |yT (.bool b)=>a6 (b==want)
   |yT (.tuple _)=>a6 aj
   |_=>bk
  |none=>bk
def mxD(b m:aw):aw:=match c3 b m with
 |true=>m
 |false=>b+1
def SF(gb:aw):ai D->aw
 |[]=>gb
 |d::l=>d.refs.foldr mxD (SF gb l)
def ajg(b m:aw):b<mxD b m/\m<=mxD b m:=by
 unfold mxD;split
 ·rename_i h;rw[apZ]at h;exact⟨h,apc _⟩
 ·rename_i h;have:¬b<m:=λd=>by rw[<-apZ]at d;rw[d]at h;cases h
  omega
def SE:∀(l:ai aw)(m:aw),m<=l.foldr mxD m/\∀b∈l,b<l.foldr mxD m
 |[],m=>⟨apc _,λb d=>by cases d⟩
 |x::l,m=>by
  obtain⟨h,g⟩:=SE l m;obtain⟨f,e⟩:=ajg x (l.foldr mxD m);refine⟨apm h e,λb d=>?_⟩;obtain rfl|d:=apo.1 d
  exact f;exact apV (g b d) e
def UR(gb:aw):∀l:ai D,gb<=SF gb l
 |[]=>apc _
 |d::l=>apm (UR gb l) (SE d.refs (SF gb l)).1
def PC(gb:aw):∀(l:ai D)(d:D)(b:aw),d∈l->b∈d.refs->b<SF gb l
 |[],_,_,h,_=>by cases h
 |x::l,d,b,h,e=>by
  have f:=SE x.refs (SF gb l);obtain rfl|h:=apo.1 h
  exact f.2 b e;exact apV (PC gb l d b h e) f.1
def abo(gb:aw)(s:St)(t b:aw)(d:b∈(s.fs.tmp t).refs):b<SF gb s.tmps:=by have e:s.fs.tmp t=y7 s.tmps t .any:=rfl;rw[e]at d;by_cases f:t<y6 s.tmps;rw[apf,apj f]at d;exact PC gb s.tmps _ b (apD f) d;rw[apf,apL za]at d;simp[D.refs]at d
def mxA(dr:b5)(gb:aw)(s:St):aw:=match dr with
 |true=>y6 s.blks
 |false=>SF gb s.tmps
def EM(dr:b5){g gb:aw}(s:St)(d:g<=gb):(g<=mxA dr gb s/\∀t b,b∈(s.fs.tmp t).refs->b<mxA dr gb s)\/mxA dr gb s=y6 s.blks:=by
 cases dr with
 |true=>exact y2 rfl
 |false=>exact .inl ⟨apm d (UR gb s.tmps),abo gb s⟩
def pQ(P:cp){Good:bn->Prop}(inl:Inline P Good)(ops:eY e9)(o:e9)(ro:ai aw)(gb mx:aw)(s:as0)(blks:ai (bF (ai D)))(ns:ai aw)(b:ai (Item P Good)):bF (Rec×ai (Item P Good)×ai (cY×cY)):=
 match l9 ops o s.tmp with
 |some bj=>match NM P o s.ev s.blk s.bu (y6 blks) (match o.dst with|some t=>ro.contains t|none=>aj) gb (match o.dst with|some t=>ro.contains (t+1000)|none=>aj)with
  |some (E,h)=>match Dh h b with
   |some (d,e)=>match IE inl mx s.blk s.bu blks ns o.dst E d with
    |some (R,g,f)=>a6 (R,g,e++f)
    |none=>bk
   |none=>bk
  |none=>bk
 |some aj=>a6 (.val (yT fg),b,[])
 |none=>bk
def wz{inl:Inline P Good}{o:e9}{ro:ai aw}{gb mx:aw}{s:as0}{blks:ai (bF (ai D))}{ns:ai aw}{b:ai (Item P Good)}:pQ P inl e o ro gb mx s blks ns b=
 (match l9 e o s.tmp with
 |some bj=>match NM P o s.ev s.blk s.bu (y6 blks) (match o.dst with|some t=>ro.contains t|none=>aj) gb (match o.dst with|some t=>ro.contains (t+1000)|none=>aj)with
  |some (E,h)=>match Dh h b with
   |some (d,ops)=>match fL inl mx s.blk s.bu blks ns o.dst E d with
    |some (R,g,f)=>a6 (R,g,ops++f)
    |none=>bk
   |none=>bk
  |none=>bk
 |some aj=>a6 (.val (yT fg),b,[])
 |none=>bk):=by
 unfold pQ;simp only[PE]
def as0.app(s:as0)(n:aw)(dst:bF Tmp)(R:Rec):as0:=
 match R with
 |.val d=>s.put n dst d
 |.new b cs d e=>(s.bO b (a6 cs) e).put n dst d
 |.store b off g d e=>(s.bO b ((s.blk b).map λcs=>aE cs off g) e).put n dst d
 |.grow b cs d=>((s.clear b).bO b (a6 cs) aj).put n dst d
 |.own d=>s.put n dst d
 |.inl blks f d=>(⟨s.tmp,λb=>y7 blks b bk,λb=>f.contains b⟩:as0).put n dst d
def jU(eqs:ai (cY×cY)):Prop:=∀e∈eqs,e.1=e.2
def JJ{A:sC P Good}{args tr':ai (Item P Good)}(h:Hi A f b args=a6 (d,tr',o))(j:jU o):Spec P Good f b d:=by unfold Hi at h;split at h;split at h;rename_i g l e k eqs;cases h;have r:=j _ (apw ..);simp only[cY.call.injEq]at r;obtain⟨rfl,rfl⟩:=r;exact k;cases h;split at h;rename_i e i;cases h;exact A.ok _ _ _ i;cases h
def jU.append{l':ai (cY×cY)}(h:jU (o++l')):jU o/\jU l':=
 ⟨λe b=>h e (aqt _ b),λe b=>h e (aqX _ b)⟩
def z9(P:cp)(Good:bn->Prop)(inl:Inline P Good):Prop:=
 ∀e ro fn args blks b f d blks' ns' tr' eqs,inl e ro fn args blks b f=a6 (d,blks',ns',tr',eqs)->jU eqs->kh P Good fn e args blks b d blks' ns'
def PD{i tr':ai (Item P Good)}(h:Dh k i=a6 (tr',o))(g:jU o):k.ok:=by
 cases k with
 |no=>trivial
 |want p b j=>
  simp only[Dh]at h;split at h;rename_i q e _;simp only[zIq,zJq]at h;obtain⟨rfl,rfl⟩:=h;have:=g _ (apw ..);simp only[cY.p.injEq]at this;show p;rw[this];exact e;rename_i A q e _;simp only[zIq,zJq]at h;obtain⟨rfl,rfl⟩:=h;have:=g _ (apw ..);simp only[cY.p.injEq]at this;show p;rw[this];exact e;split at h;rename_i f;exact j f;cases h
def Ux{dst:bF Tmp}{f tr':ai (Item P Good)}(h:R0 dst d f=(p,tr',o))(e:jU o):p=d:=by unfold R0 at h;split at h;rename_i t x y b _;split at h;simp only[zJq]at h;obtain⟨rfl,rfl,rfl⟩:=h;have:=e _ (apw ..);simp only[cY.d.injEq]at this;rw[this];exact b.symm;simp only[zJq]at h;exact h.1.symm;rename_i A t x y b _;split at h;simp only[zJq]at h;obtain⟨rfl,rfl,rfl⟩:=h;have:=e _ (apw ..);simp only[cY.d.injEq]at this;rw[this];exact b.symm;simp only[zJq]at h;exact h.1.symm;simp only[zJq]at h;exact h.1.symm
def yL{cs:aw}(h:d.ref=a6 cs):(d.dD cs b).ref=bk:=by cases d<;>simp only[D.ref,zIq,reduceCtorEq]at h<;>subst h<;>simp[D.dD,D.ref]
def l_{c:Ctx}{n:aw}{s:as0}{a:Act}{w:bn}{β:aw->aw}{X:aw->Prop}(h:df c n s a w β X){cs:aw}(i:s.blk cs=a6 b)(f:s.bu cs=aj):∀d∈b,d.ref=bk:=λd g=>by
 cases e:d.ref with
 |none=>rfl
 |some j=>have:=(h.qS cs b i d g j e).1;rw[f]at this;cases this
def H4{c:Ctx}{n:aw}{s:as0}{a:Act}{w:bn}{β:aw->aw}{X:aw->Prop}(h:df c n s a w β X){F:aw->Prop}
  (o:∀k,F k->X k) (p:∀b cs,s.blk b=a6 cs->∀k,F k->k≠β b):∀(m:aw)(v:b3)(d:D),aX β w X v d->b9 w F v (D.lN s.blk s.bu m d)
 |0,v,d,l=>by
  unfold D.lN;split;rename_i b j;split;rename_i cs i t;obtain⟨_,_,us,e,r,_,q⟩:=h.blk b cs i;exact((mF r (q.pure (l_ h i t)) l).pure (yL j)).mono λa u hu g=>⟨hu,λf=>g ⟨o _ f,p b cs i _ f⟩⟩
  exact .any _;rename_i j;exact(l.pure j).mono λa u hu g=>⟨hu,λf=>g (o _ f)⟩
 |m+1,v,d,l=>by
  unfold D.lN;split;rename_i b j;split;rename_i cs i;obtain⟨_,_,us,e,r,_,q⟩:=h.blk b cs i;split;rename_i t;exact((mF r (q.pure (l_ h i t)) l).pure (yL j)).mono λa u hu g=>⟨hu,λf=>g ⟨o _ f,p b cs i _ f⟩⟩
  have z:aR w F (us.toList.take (cs.map (D.lN s.blk s.bu m)).length) (cs.map (D.lN s.blk s.bu m)):=by rw[apq];exact q.map λu x _ A=>H4 h o p m u x A
  have y:aX β w F v d:=l.mono (λa u hu g=>⟨hu,λf=>g (o _ f)⟩) (λ_ _ e=>e);exact((mF r z y).pure (yL j)).mono λa u hu g=>⟨hu,λf=>g ⟨f,p b cs i _ f⟩⟩
  exact .any _;rename_i j;exact(l.pure j).mono λa u hu g=>⟨hu,λf=>g (o _ f)⟩
def qN{c:Ctx}{n:aw}{s:as0}{a:Act}{w:bn}{β:aw->aw}{X:aw->Prop}(h:df c n s a w β X){F:aw->Prop}{v:b3}{d:D}(g:bU β w X v d)
  (q:∀k,F k->X k) (o:∀b cs,s.blk b=a6 cs->∀k,F k->k≠β b):b9 w F v (d.rowOf s.blk s.bu):=by
 have many:∀{us:ai b3}{xs:ai D},LQ (aX β w X) us xs->aR w F us (xs.map (D.lN s.blk s.bu 4)):=λf=>
  f.map λu x z y=>H4 h q o 4 u x y
 cases g with
 |c g=>
  by_cases t:∃xs,d=.agg xs;obtain⟨xs,rfl⟩:=t;cases g with
  |p l=>cases l with
   |agg us _ f j=>
    have:=many (us:=us) (xs:=xs) ⟨f,λi a b=>.p (j i a b)⟩;exact .agg us _ this.1 this.2
  by_cases r:∃xs,d=.aP xs;obtain⟨xs,rfl⟩:=r;cases g with
  |p l=>cases l with
   |aP us _ f j=>
    have:=many (us:=us) (xs:=xs) ⟨f,λi a b=>.p (j i a b)⟩;exact .aP us _ this.1 this.2
  have e:d.rowOf s.blk s.bu=(D.lN s.blk s.bu 4 d).H8:=by cases d<;>first|rfl|exact api ⟨_,rfl⟩ t|exact api ⟨_,rfl⟩ r
  rw[e];exact wh (H4 h q o 4 _ _ g)
 |agg us xs f=>have:=many f;exact .agg us _ this.1 this.2
 |aP us xs f=>have:=many f;exact .aP us _ this.1 this.2
def VP(w w':bn):Prop:=∀k e m,w.shape? k=a6 (e,m)->∃b,w'.shape? k=a6 (b,m)
def aX.Bg{β:aw->aw}{w w':bn}{X X':aw->Prop}(h:∀a u,w.cell? a=a6 u->¬X a.block->w'.cell? a=a6 u/\¬X' a.block)(i:VP w w')
  {v:b3} {d:D} (j:aX β w X v d):aX β w' X' v d:=by
 cases j with
 |p k=>exact .p (k.mono h)
 |ptr b off=>exact .ptr b off
 |aY b off len cap g f=>exact .aY b off len cap g f
 |bG b n size cap e g f o=>obtain⟨q,l⟩:=i _ _ _ o;exact .bG b n size cap q g f l
def bU.Bg{β:aw->aw}{w w':bn}{X X':aw->Prop}(h:∀a u,w.cell? a=a6 u->¬X a.block->w'.cell? a=a6 u/\¬X' a.block)(b:VP w w')
  {v:b3} {d:D} (g:bU β w X v d):bU β w' X' v d:=by
 cases g with
 |c i=>exact .c (i.Bg h b)
 |agg us xs f=>exact .agg us xs (f.mono λu x _ e=>e.Bg h b)
 |aP us xs f=>exact .aP us xs (f.mono λu x _ e=>e.Bg h b)
def I8{β:aw->aw}{w:bn}{X:aw->Prop}{a:Addr}{n d b m size:aw}(h:bU β w X (.slice (a6 a) n d) (.bG b m size)):a=⟨β b,0,bk⟩/\∃e,w.shape? (β b)=a6 (e,d*size):=by
 cases h with
 |c h=>cases h with
  |p f=>cases f
  |bG _ _ _ _ e _ _ g=>exact⟨rfl,e,g⟩
def dP{o:bF (aw×ai D)}{cs:aw}:(mO o).getD cs bk=a6 b↔o=a6 (cs,b):=by
 cases o with
 |none=>simp[mO]
 |some p=>
  obtain⟨d,c0⟩:=p;simp only[mO,bP,zIq,zJq];obtain h|h|h:=aq5 cs d
  rw[aqe (by simpa using h),aqy,aph h];simp;omega;subst h;rw[apS zb];simp;rw[apS zT,apL zT];simp;omega
def LD{o:bF (aw×ai D)}{cs:aw}(h:o=a6 (cs,b)):cs<y6 (mO o):=by subst h;simp[mO]
def Xz{blk:aw->bF (ai D)}{o:bF (aw×ai D)}(h:zr blk b=a6 o):
  (∀args cs,o=a6 (args,cs)->blk args=a6 cs/\dX cs=aj)/\(∀d∈b,∀args∈d.refs,∃cs,o=a6 (args,cs)):=by
 unfold zr at h;split at h;rename_i q;cases h;refine⟨λb cs h=>(by cases h),λd f args g=>?_⟩;have:args∈b.flatMap D.refs:=aq9.2 ⟨d,f,g⟩;rw[q]at this;cases this;rename_i args l r;split at h;rename_i cs k g;split at h;cases h;rename_i p;cases h;refine⟨λi cs' j=>?_,λd f i t=>?_⟩;cases j;exact⟨g,p⟩;have hm:i∈b.flatMap D.refs:=aq9.2 ⟨d,f,t⟩;rw[r]at hm;obtain e|hm:=apo.1 hm
 exact⟨cs,by rw[e]⟩;have:=apH.1 k i hm;rw[ec]at this;exact⟨cs,by rw[this]⟩;cases h
def seenAt(β:aw->aw):bF (aw×ai D)->aw->b5
 |some (b,_),k=>k==β b
 |none,_=>aj
def FU(β:aw->aw)(w:bn):bF (aw×ai D)->ai (b3×D)
 |some (b,_)=>match w.shape? (β b)with
  |some (_,m)=>[(.slice (a6 ⟨β b,0,bk⟩) 0 1,.bG b 0 m)]
  |none=>[]
 |none=>[]
def Xy{c:Ctx}{n:aw}{s:as0}{a:Act}{w:bn}{β:aw->aw}{X:aw->Prop}(h:df c n s a w β X)(h0:c.Good c.w0){f:c7}{fn:kf}(hf:c.P.funcs[f]? =a6 fn){args:ai D}{o:bF (aw×ai D)}
  (Q:∀b cs,o=a6 (b,cs)->s.blk b=a6 cs/\dX cs=aj) (du:∀d∈args,∀b∈d.refs,∃cs,o=a6 (b,cs))
  {d d':D} {blks':ai (bF (ai D))} {ns':ai aw} (LC:kh c.P c.Good fn (mO o).length args (mO o) [] d blks' ns') (hd:Qh o d blks' ns'=a6 d') (ho0:o=bk)
  {vals:ai b3} (s8:vals.length=args.length) (ff:∀i(h:i<vals.length)(h':i<args.length),bU β w X vals[i] args[i]):
  vx c.P f vals.toArray w λe w'=>∃v,e=.returned v/\df c n s a w' β X/\b9 w' X v d':=by
 have Z:∀b cs,o=a6 (b,cs)->∃F e,w.heap[β b]? =a6 (.cells F e (0,0))/\X (β b):=λb cs e=>by
  obtain⟨_,j,F,e,O,_⟩:=h.blk b cs (Q b cs e).1;exact⟨F,e,O,j⟩
 have H:∀k,seenAt β o k=bj->∃b cs,o=a6 (b,cs)/\k=β b:=λk g=>by
  cases l:o with
  |none=>rw[l]at g;cases g
  |some q=>rw[l]at g;exact⟨q.1,q.2,rfl,by simpa [seenAt]using g⟩
 have CP:∀b cs,o=a6 (b,cs)->seenAt β o (β b)=bj:=λb cs e=>by rw[e];simp[seenAt]
 have U:∀b cs,o=a6 (b,cs)->∃e m,w.shape? (β b)=a6 (e,m)/\FU β w o=[(.slice (a6 ⟨β b,0,bk⟩) 0 1,.bG b 0 m)]:=λb cs e=>by
  obtain⟨F,ty,y,_⟩:=Z b cs e;have j:=cw y;refine⟨ty,F.size,j,?_⟩;rw[e];simp only[FU,j]
 have W:o=bk->FU β w o=[]:=λe=>by rw[e];rfl
 have Af:o=bk->∀k,seenAt β o k=aj:=λe k=>by rw[e];rfl
 generalize seenAt β o=seen at H CP Af;generalize FU β w o=o8 at U W
 let I:Ctx:={c with gh:=o8,gb:=(mO o).length,rd:=bk,dfs:=[],ns:=w.heap.size,kp:=λk=>if seen k then bk else w.heap[k]?,kx:=λk=>X k/\seen k=aj}
 have mr:∀b cs,o=a6 (b,cs)->∀x∈cs,x.ref=bk:=λb cs e=>je (Q b cs e).2
 have qV:df I 0 ⟨λ_=>.any,λb=>(mO o).getD b bk,λb=>([]:ai aw).contains b⟩ ⟨#[],[]⟩ w β X:=by
  refine⟨rfl,rfl,λt=>.c (.p (.any _)),λt b r=>by simp[D.refs]at r,λb cs r=>?_,λb cs r x E b' L=>?_,λb b' r L _=>?_,h.F,h.uZ,h.oH,⟨h.below.uX,h.below.nc,apc _⟩,λp B=>?_,λp B b r=>?_,⟨λk q g=>?_,λk g=>g.1,λk g=>h.oH k g.1,λk g b r=>?_⟩⟩
  ·exact h.blk b cs (Q b cs (dP.1 r)).1
  ·rw[mr b cs (dP.1 r) x E]at L;cases L
  ·obtain⟨c1,S⟩:=apn.1 r
   obtain⟨c2,A⟩:=apn.1 L;have y:=dP.1 S;have j:=dP.1 A;rw[y]at j;simp only[zIq,zJq]at j;exact j.1
  ·cases l:o with
   |none=>have:=W l;rw[show I.gh=o8 from rfl,this]at B;cases B
   |some q=>
    obtain⟨b,cs⟩:=q;obtain⟨e,m,y,j⟩:=U b cs l;rw[show I.gh=o8 from rfl,j,apg]at B
    subst B;exact .c (.bG b 0 m 1 e za zv (by rw[aqw];exact y))
  ·cases l:o with
   |none=>have:=W l;rw[show I.gh=o8 from rfl,this]at B;cases B
   |some q=>
    obtain⟨V,cs⟩:=q;obtain⟨e,m,y,j⟩:=U V cs l;rw[show I.gh=o8 from rfl,j,apg]at B
    subst B;simp only[D.refs,dc]at r;subst r;exact⟨LD l,by show((mO (a6 (b,cs))).getD b bk).isSome=bj;rw[dP.2 rfl];rfl⟩
  ·have K:(if seen k then bk else w.heap[k]?)=a6 q:=g
   split at K
   ·cases K
   ·exact K
  ·obtain⟨cs,S⟩:=apn.1 r
   have A:=CP b cs (dP.1 S);intro e3;rw[e3]at A;obtain g|g:=g
   ·have K:(if seen k then bk else w.heap[k]?).isSome=bj:=g
    rw[aph A]at K;cases K
   ·rw[g.2]at A;cases A
 refine(LC f hf I w β X vals rfl rfl h0 (apc _) rfl rfl qV s8 ff (λx E b r=>by
  obtain⟨cs,e⟩:=du x E b r;rw[dP.2 e];rfl)).mono λe w' eh=>?_
 obtain⟨v,β',X',rfl,C,hv,hdl⟩:=eh;have M:∀k q,seen k=aj->w.heap[k]? =a6 q->w'.heap[k]? =a6 q:=λk q g l=>C.kp.obj k q (by show(if seen k then bk else w.heap[k]?)=a6 q;rw[g];exact l)
 have F9:∀b cs,o=a6 (b,cs)->blks'.getD b bk=a6 cs/\d.refs=[]/\d'=d:=λb cs e=>by rw[ho0]at e;cases e
 have S4:∀b cs,o=a6 (b,cs)->β' b=β b/\∃e e' m,w.shape? (β b)=a6 (e,m)/\w'.shape? (β b)=a6 (e',m):=λb cs e=>by
  obtain⟨ty,m,y,j⟩:=U b cs e;have:=C.gh _ (by rw[show I.gh=o8 from rfl,j];exact apg.2 rfl)
  obtain⟨r1,T,Y⟩:=I8 this;have N:β b=β' b:=by injection r1
  exact⟨N.symm,ty,T,m,y,by rw[N];rw[aqw]at Y;exact Y⟩
 have G:∀k,X k->X' k:=λk g=>by
  cases z:seen k with
  |true=>
   obtain⟨b,cs,e,rfl⟩:=H k z;have:=(C.blk b cs (F9 b cs e).1).2.1;rw[(S4 b cs e).1]at this;exact this
  |false=>exact C.kp.x k ⟨g,z⟩
 have B6:∀a u,w.cell? a=a6 u->¬X a.block->w'.cell? a=a6 u/\¬X a.block:=λa u J E=>by
  refine⟨?_,E⟩;have yq:seen a.block=aj:=by
   cases z:seen a.block with
   |false=>rfl
   |true=>
    obtain⟨b,cs,e,A⟩:=H _ z;obtain⟨_,_,_,q⟩:=Z b cs e;rw[<-A]at q;exact api q E
  have bZ:=yd J;have S:w'.heap[a.block]? =w.heap[a.block]? :=by
   rw[M a.block _ yq (ap9 bZ),ap9 bZ]
  rw[ma S];exact J
 have B2:VP w w':=λk e m g=>by
  cases z:seen k with
  |true=>
   obtain⟨b,cs,A,rfl⟩:=H k z;obtain⟨_,ty,T,m',y,j⟩:=S4 b cs A;rw[y]at g;simp only[zIq,zJq]at g;exact⟨T,by rw[<-g.2];exact j⟩
  |false=>
   obtain⟨F,fr,y,j⟩:=ju g;exact⟨e,by rw[<-j];exact cw (M k _ z y)⟩
 have wN:df c n s a w' β X:=by
  refine⟨h.defers,h.size,λt=>(h.tmp t).Bg B6 B2,h.nd,λb cs r=>?_,h.qS,h.inj,h.F,h.uZ,λk g=>apV (h.oH k g) C.below.sz,⟨C.below.uX,λk q g l=>?_,apm h.below.sz C.below.sz⟩,λp B=>(h.gh p B).Bg B6 B2,h.i_,⟨λk q g=>?_,h.kp.x,λk g=>apV (h.kp.lt k g) C.below.sz,h.kp.off⟩⟩
  ·obtain⟨y,j,F,ty,O,q4,q5⟩:=h.blk b cs r
   cases z:seen (β b)with
   |true=>
    obtain⟨V,tO,e,A⟩:=H _ z;have Az:=(Q V tO e).1;obtain rfl:=h.inj b V (by rw[r];rfl) (by rw[Az];rfl) A
    rw[r]at Az;obtain rfl:=ap0 Az;obtain⟨r1,Y,dx,T,N,r4,r5⟩:=C.blk b cs (F9 b cs e).1;rw[(S4 b cs e).1]at N;refine⟨y,j,dx,T,N,r4,((r5.pure (mr b cs e)).mono λa u J E=>⟨J,λhX=>E (G _ hX)⟩).lq⟩
   |false=>exact⟨y,j,F,ty,M _ _ z O,q4,q5.mono λu x _ l=>l.Bg B6 B2⟩
  ·have q:=h.below.nc k _ g l
   refine M k _ ?_ q;cases z:seen k with
   |false=>rfl
   |true=>
    obtain⟨b,cs,e,rfl⟩:=H k z;obtain⟨F,ty,O,_⟩:=Z b cs e;rw[O]at q;exact api (ap0 q).symm (l _ _ _)
  ·have q:=h.kp.obj k q g
   refine M k _ ?_ q;cases z:seen k with
   |false=>rfl
   |true=>
    obtain⟨b,cs,e,A⟩:=H k z;exact api A.symm (h.kp.off k (.inl (by rw[g];rfl)) b (by rw[(Q b cs e).1];rfl))
 refine⟨v,rfl,wN,?_⟩;cases l:o with
 |some q=>
  obtain⟨b,cs⟩:=q;obtain⟨_,j,rfl⟩:=F9 b cs l;exact(hv.pure j).mono λa u J E=>⟨J,λhX=>E (G _ hX)⟩
 |none=>
  have ae4:=Af l;subst l;simp only[Qh,zIq]at hd;subst hd;exact qN C hv G λb cs r k g e=>C.kp.off k (.inr ⟨g,ae4 k⟩) b (by show(blks'.getD b bk).isSome=bj;have L:blks'.getD b bk=a6 cs:=r;rw[L];rfl) e.symm
def aX.wg{β:aw->aw}{w:bn}{X:aw->Prop}{v:b3}{b:aw}(h:aX β w X v d)(g:∀f,d.ref=a6 f->f=b):aX (λ_=>β b) w X v d.Bb:=by
 cases h with
 |p h=>cases h<;>exact .p (by constructor<;>assumption)
 |ptr f off=>obtain rfl:=g f rfl;exact aX.ptr (β:=λ_=>β f) 0 off
 |aY f off len cap j i=>obtain rfl:=g f rfl;exact aX.aY (β:=λ_=>β f) 0 off len cap j i
 |bG f n size cap e j i k=>obtain rfl:=g f rfl;exact aX.bG (β:=λ_=>β f) 0 n size cap e j i k
def aX.Hx{β:aw->aw}{w:bn}{X:aw->Prop}{v:b3}(h:aX β w X v d.Bb):aX (λ_=>β 0) w X v d:=by
 cases d with
 |ptr b off=>cases h with
  |p h=>cases h
  |ptr=>exact aX.ptr (β:=λ_=>β 0) b off
 |aY b off len cap=>cases h with
  |p h=>cases h
  |aY _ _ _ _ g f=>exact aX.aY (β:=λ_=>β 0) b off len cap g f
 |bG b n size=>cases h with
  |p h=>cases h
  |bG _ _ _ cap e g f i=>exact aX.bG (β:=λ_=>β 0) b n size cap e g f i
 |_=>cases h with
  |p h=>exact .p h
def LQ.afR{Q Q':b3->D->Prop}(h:LQ Q g b)(f:∀u x,x∈b->Q u x->Q' u (q x)):LQ Q' g (b.map q):=
 ⟨by rw[apq];exact h.1,λi e d=>by rw[ap2];exact f _ _ (apD _) (h.2 i e (by simpa using d))⟩
def LQ.abC{Q Q':b3->D->Prop}(h:LQ Q g (b.map q))(f:∀u x,x∈b->Q u (q x)->Q' u x):LQ Q' g b:=
 ⟨by have:=h.1;rwa [apq]at this,λi e d=>by have:=h.2 i e (by simpa using d);rw[ap2]at this;exact f _ _ (apD _) this⟩
def bU.wg{β:aw->aw}{w:bn}{X:aw->Prop}{v:b3}{d:D}{b:aw}(h:bU β w X v d)(k:∀f∈d.refs,f=b):bU (λ_=>β b) w X v d.AU:=by
 cases h with
 |c h=>
  cases d with
  |agg xs=>
   cases h with
   |p h=>cases h with
    |agg us _ o l=>
     refine .agg us _ (LQ.afR (Q:=aX β w X) ⟨o,λi r q=>.p (l i r q)⟩ λu x g j=>j.wg λf e=>k f (apM.2 ⟨x,g,e⟩))
  |aP xs=>
   cases h with
   |p h=>cases h with
    |aP us _ o l=>
     refine .aP us _ (LQ.afR (Q:=aX β w X) ⟨o,λi r q=>.p (l i r q)⟩ λu x g j=>j.wg λf e=>k f (apM.2 ⟨x,g,e⟩))
  |_=>exact .c (h.wg λf e=>k f (pN e))
 |agg us xs h=>exact .agg us _ (h.afR λu x g j=>j.wg λf e=>k f (apM.2 ⟨x,g,e⟩))
 |aP us xs h=>exact .aP us _ (h.afR λu x g j=>j.wg λf e=>k f (apM.2 ⟨x,g,e⟩))
def bU.Hx{β:aw->aw}{w:bn}{X:aw->Prop}{v:b3}{d:D}(h:bU β w X v d.AU):bU (λ_=>β 0) w X v d:=by
 cases d with
 |agg xs=>cases h with
  |c h=>cases h with
   |p h=>cases h with
    |agg us _ g e=>exact .agg us _ (LQ.abC (Q:=aX β w X) (q:=D.Bb) ⟨g,λi k j=>.p (e i k j)⟩ λu x _ b=>b.Hx)
  |agg us _ h=>exact .agg us _ (h.abC λu x _ b=>b.Hx)
 |aP xs=>cases h with
  |c h=>cases h with
   |p h=>cases h with
    |aP us _ g e=>exact .aP us _ (LQ.abC (Q:=aX β w X) (q:=D.Bb) ⟨g,λi k j=>.p (e i k j)⟩ λu x _ b=>b.Hx)
  |aP us _ h=>exact .aP us _ (h.abC λu x _ b=>b.Hx)
 |_=>cases h with
  |c h=>exact .c (aX.Hx h)
def K8{b:aw}(h:b∈d.AU.refs):b=0:=by
 have cell:∀x:D,x.Bb.ref=a6 b->b=0:=λx e=>by cases x<;>simp[D.Bb,D.ref]at e<;>omega
 cases d with
 |agg xs=>
  simp only[D.AU,D.refs,kN,ky]at h;obtain⟨_,⟨x,_,rfl⟩,e⟩:=h;exact cell x e
 |aP xs=>
  simp only[D.AU,D.refs,kN,ky]at h;obtain⟨_,⟨x,_,rfl⟩,e⟩:=h;exact cell x e
 |_=>simp[D.AU,D.Bb,D.refs]at h<;>exact h
def kh.wg{fn:kf}{b:aw}{args cs B:ai D}{d:D}{blks':ai (bF (ai D))}{ns':ai aw}(h:kh P Good fn 1 (args.map D.AU) [a6 cs] [] d blks' ns')
  (T:dX cs=aj) (V:y7 blks' 0 bk=a6 B) (W:dX B=aj) (U:d.refs=[]):kh P Good fn (mO (a6 (b,cs))).length args (mO (a6 (b,cs))) [] d (mO (a6 (b,B))) []:=by
 intro f hf c w β X vals q1 q2 q3 q4 q5 q6 j s8 ff Z;have live:∀k,((mO (a6 (b,cs))).getD k bk).isSome=bj->k=b:=λk g=>by obtain⟨H,F⟩:=apn.1 g;have:=dP.1 F;simp only[zIq,zJq]at this;exact this.1.symm
 have S:(mO (a6 (b,cs))).getD b bk=a6 cs:=dP.2 rfl;have G:∀k cs',([a6 cs]:ai (bF (ai D))).getD k bk=a6 cs'->k=0/\cs'=cs:=λk cs' e=>by
  cases k with
  |zero=>exact⟨rfl,(ap0 e).symm⟩
  |succ k=>simp at e
 have qV:df {c with gh:=c.gh.map λp=>(p.1,p.2.AU),gb:=1} 0 ⟨λ_=>.any,λk=>([a6 cs]:ai (bF (ai D))).getD k bk,λk=>([]:ai aw).contains k⟩ ⟨#[],[]⟩ w (λ_=>β b) X:=by
  refine⟨j.defers,j.size,λt=>.c (.p (.any _)),λt k g=>by simp[D.refs]at g,λk cs' g=>?_,λk cs' g x E A o=>?_,λk C g N _=>?_,j.F,j.uZ,j.oH,⟨j.below.uX,j.below.nc,j.below.sz⟩,λp q=>?_,λp q k g=>?_,⟨j.kp.obj,j.kp.x,j.kp.lt,λk g C _=>j.kp.off k g b (by show((mO (a6 (b,cs))).getD b bk).isSome=bj;rw[S];rfl)⟩⟩;obtain⟨rfl,rfl⟩:=G k cs' g;obtain⟨z,y,I,e,M,L,K⟩:=j.blk b cs' S;exact⟨z,y,I,e,M,L,(K.pure (je T)).lq⟩;obtain⟨rfl,rfl⟩:=G k cs' g;rw[je T x E]at o;cases o;obtain⟨H,F⟩:=apn.1 g;obtain⟨Q,O⟩:=apn.1 N;rw[(G k H F).1,(G C Q O).1];obtain⟨J,r,rfl⟩:=apN.1 q;exact(j.gh J r).wg λA o=>live A (j.i_ J r A o).2
  obtain⟨J,r,rfl⟩:=apN.1 q;obtain rfl:=K8 g;exact⟨Nat.one_pos,rfl⟩
 refine(h f hf {c with gh:=c.gh.map λp=>(p.1,p.2.AU),gb:=1} w (λ_=>β b) X vals q1 q2 q3 (apc 1) q5 q6 qV (by rw[apq];exact s8) (λi z y=>by
  rw[ap2];exact(ff i z (by simpa using y)).wg λA o=>live A (Z _ (apD _) A o)) (λx E k g=>by
  obtain⟨x0,_,rfl⟩:=apN.1 E;obtain rfl:=K8 g;rfl)).mono λe w' eh=>?_
 obtain⟨v,Y,X',rfl,l,hv,_⟩:=eh;have k1:∀k cs',(mO (a6 (b,B))).getD k bk=a6 cs'->k=b/\cs'=B:=λk cs' e=>by have:=dP.1 e;simp only[zIq,zJq]at this;exact⟨this.1.symm,this.2.symm⟩
 refine⟨v,λ_=>Y 0,X',rfl,⟨l.defers,l.size,λt=>.c (.p (.any _)),λt k g=>by simp[D.refs]at g,λk cs' g=>?_,λk cs' g x E A o=>?_,λk C g N _=>?_,l.F,l.uZ,l.oH,⟨l.below.uX,l.below.nc,l.below.sz⟩,λp q=>?_,λp q k g=>?_,⟨l.kp.obj,l.kp.x,l.kp.lt,λk g C _=>l.kp.off k g 0 (by show(y7 blks' 0 bk).isSome=bj;rw[V];rfl)⟩⟩,.c (.p (hv.pure U)),λk g=>by rw[U]at g;cases g⟩;obtain⟨rfl,rfl⟩:=k1 k cs' g;obtain⟨z,y,I,e,M,L,K⟩:=l.blk 0 cs' V;exact⟨z,y,I,e,M,L,(K.pure (je W)).lq⟩;obtain⟨rfl,rfl⟩:=k1 k cs' g;rw[je W x E]at o;cases o;obtain⟨H,F⟩:=apn.1 g;obtain⟨Q,O⟩:=apn.1 N;rw[(k1 k H F).1,(k1 C Q O).1];have:=l.gh (p.1,p.2.AU) (apN.2 ⟨p,q,rfl⟩);exact this.Hx;obtain⟨z,y⟩:=j.i_ p q k g;obtain rfl:=live k y;refine⟨z,?_⟩;show((mO (a6 (k,B))).getD k bk).isSome=bj;rw[dP.2 rfl];rfl
def I2{c:Ctx}{n:aw}{s:as0}{a:Act}{w:bn}{β:aw->aw}{X:aw->Prop}(h:df c n s a w β X)(h0:c.Good c.w0){f:c7}{fn:kf}(hf:c.P.funcs[f]? =a6 fn){args:ai D}{r:aw}{L y:ai D}
  (rW:s.blk r=a6 L) (hp0:dX L=aj) (Tb:∀d∈args,∀b∈d.refs,b=r)
  {d:D} {blks':ai (bF (ai D))} {ns':ai aw} (LC:kh c.P c.Good fn (mO (a6 (r,L))).length args (mO (a6 (r,L))) [] d blks' ns') (Z:blks'.getD r bk=a6 y) (Xw:dX y=aj) (hdr:d.refs=[])
  {vals:ai b3} (s8:vals.length=args.length) (ff:∀i(h:i<vals.length)(h':i<args.length),bU β w X vals[i] args[i]):
  vx c.P f vals.toArray w λe w'=>∃v,e=.returned v/\df c n (s.bO r (a6 y) aj) a w' β X/\b9 w' X v d:=by
 generalize J:a6 (r,L)=o at LC;have ho:∀b cs,o=a6 (b,cs)->s.blk b=a6 cs/\dX cs=aj:=λb cs e=>by
  rw[<-J]at e;simp only[zIq,zJq]at e;obtain⟨rfl,rfl⟩:=e;exact⟨rW,hp0⟩
 have du:∀d∈args,∀b∈d.refs,∃cs,o=a6 (b,cs):=λd hd b g=>⟨L,by rw[Tb d hd b g];exact J.symm⟩
 have oa:∀b cs,o=a6 (b,cs)->∃I e,w.heap[β b]? =a6 (.cells I e (0,0))/\X (β b):=λb cs e=>by
  obtain⟨_,l,I,e,T,_⟩:=h.blk b cs (ho b cs e).1;exact⟨I,e,T,l⟩
 have N:∀k,seenAt β o k=bj->∃b cs,o=a6 (b,cs)/\k=β b:=λk j=>by
  cases A:o with
  |none=>rw[A]at j;cases j
  |some q=>rw[A]at j;exact⟨q.1,q.2,rfl,by simpa [seenAt]using j⟩
 have CP:∀b cs,o=a6 (b,cs)->seenAt β o (β b)=bj:=λb cs e=>by rw[e];simp[seenAt]
 have sJ:∀b cs,o=a6 (b,cs)->∃e m,w.shape? (β b)=a6 (e,m)/\FU β w o=[(.slice (a6 ⟨β b,0,bk⟩) 0 1,.bG b 0 m)]:=λb cs e=>by
  obtain⟨I,ty,z,_⟩:=oa b cs e;have l:=cw z;refine⟨ty,I.size,l,?_⟩;rw[e];simp only[FU,l]
 have xF:o=bk->FU β w o=[]:=λe=>by rw[e];rfl
 have Af:o=bk->∀k,seenAt β o k=aj:=λe k=>by rw[e];rfl
 generalize seenAt β o=seen at N CP Af;generalize FU β w o=o8 at sJ xF
 let O:Ctx:={c with gh:=o8,gb:=(mO o).length,rd:=bk,dfs:=[],ns:=w.heap.size,kp:=λk=>if seen k then bk else w.heap[k]?,kx:=λk=>X k/\seen k=aj}
 have mr:∀b cs,o=a6 (b,cs)->∀x∈cs,x.ref=bk:=λb cs e=>je (ho b cs e).2
 have qV:df O 0 ⟨λ_=>.any,λb=>(mO o).getD b bk,λb=>([]:ai aw).contains b⟩ ⟨#[],[]⟩ w β X:=by
  refine⟨rfl,rfl,λt=>.c (.p (.any _)),λt b g=>by simp[D.refs]at g,λb cs g=>?_,λb cs g x F Q M=>?_,λb Q g M _=>?_,h.F,h.uZ,h.oH,⟨h.below.uX,h.below.nc,apc _⟩,λp C=>?_,λp C b g=>?_,⟨λk q j=>?_,λk j=>j.1,λk j=>h.oH k j.1,λk j b g=>?_⟩⟩
  ·exact h.blk b cs (ho b cs (dP.1 g)).1
  ·rw[mr b cs (dP.1 g) x F]at M;cases M
  ·obtain⟨c1,G⟩:=apn.1 g
   obtain⟨c2,E⟩:=apn.1 M;have z:=dP.1 G;have l:=dP.1 E;rw[z]at l;simp only[zIq,zJq]at l;exact l.1
  ·cases A:o with
   |none=>have:=xF A;rw[show O.gh=o8 from rfl,this]at C;cases C
   |some q=>
    obtain⟨b,cs⟩:=q;obtain⟨e,m,z,l⟩:=sJ b cs A;rw[show O.gh=o8 from rfl,l,apg]at C
    subst C;exact .c (.bG b 0 m 1 e za zv (by rw[aqw];exact z))
  ·cases A:o with
   |none=>have:=xF A;rw[show O.gh=o8 from rfl,this]at C;cases C
   |some q=>
    obtain⟨b1,cs⟩:=q;obtain⟨e,m,z,l⟩:=sJ b1 cs A;rw[show O.gh=o8 from rfl,l,apg]at C
    subst C;simp only[D.refs,dc]at g;subst g;exact⟨LD A,by show((mO (a6 (b,cs))).getD b bk).isSome=bj;rw[dP.2 rfl];rfl⟩
  ·have V:(if seen k then bk else w.heap[k]?)=a6 q:=j
   split at V
   ·cases V
   ·exact V
  ·obtain⟨cs,G⟩:=apn.1 g
   have E:=CP b cs (dP.1 G);intro e3;rw[e3]at E;obtain j|j:=j
   ·have V:(if seen k then bk else w.heap[k]?).isSome=bj:=j
    rw[aph E]at V;cases V
   ·rw[j.2]at E;cases E
 refine(LC f hf O w β X vals rfl rfl h0 (apc _) rfl rfl qV s8 ff (λx F b g=>by
  obtain⟨cs,e⟩:=du x F b g;rw[dP.2 e];rfl)).mono λe w' eh=>?_
 obtain⟨v,β',X',rfl,K,hv,hdl⟩:=eh;have W:∀k q,seen k=aj->w.heap[k]? =a6 q->w'.heap[k]? =a6 q:=λk q j A=>K.kp.obj k q (by show(if seen k then bk else w.heap[k]?)=a6 q;rw[j];exact A)
 have F9:∀b cs,o=a6 (b,cs)->blks'.getD b bk=a6 y/\b=r:=λb cs e=>by
  rw[<-J]at e;simp only[zIq,zJq]at e;obtain⟨rfl,rfl⟩:=e;exact⟨Z,rfl⟩
 have S4:∀b cs,o=a6 (b,cs)->β' b=β b/\∃e e' m,w.shape? (β b)=a6 (e,m)/\w'.shape? (β b)=a6 (e',m):=λb cs e=>by
  obtain⟨ty,m,z,l⟩:=sJ b cs e;have:=K.gh _ (by rw[show O.gh=o8 from rfl,l];exact apg.2 rfl)
  obtain⟨r1,Ru,r2⟩:=I8 this;have Y:β b=β' b:=by injection r1
  exact⟨Y.symm,ty,Ru,m,z,by rw[Y];rw[aqw]at r2;exact r2⟩
 have hXX:∀k,X k->X' k:=λk j=>by
  cases B:seen k with
  |true=>
   obtain⟨b,cs,e,rfl⟩:=N k B;have:=(K.blk b y (F9 b cs e).1).2.1;rw[(S4 b cs e).1]at this;exact this
  |false=>exact K.kp.x k ⟨j,B⟩
 have B6:∀a u,w.cell? a=a6 u->¬X a.block->w'.cell? a=a6 u/\¬X a.block:=λa u U F=>by
  refine⟨?_,F⟩;have yq:seen a.block=aj:=by
   cases B:seen a.block with
   |false=>rfl
   |true=>
    obtain⟨b,cs,e,E⟩:=N _ B;obtain⟨_,_,_,q⟩:=oa b cs e;rw[<-E]at q;exact api q F
  have bZ:=yd U;have G:w'.heap[a.block]? =w.heap[a.block]? :=by
   rw[W a.block _ yq (ap9 bZ),ap9 bZ]
  rw[ma G];exact U
 have B2:VP w w':=λk e m j=>by
  cases B:seen k with
  |true=>
   obtain⟨b,cs,E,rfl⟩:=N k B;obtain⟨_,ty,Ru,m',z,l⟩:=S4 b cs E;rw[z]at j;simp only[zIq,zJq]at j;exact⟨Ru,by rw[<-j.2];exact l⟩
  |false=>
   obtain⟨I,fr,z,l⟩:=ju j;exact⟨e,by rw[<-l];exact cw (W k _ B z)⟩
 have Kn:∀b,((s.bO r (a6 y) aj).blk b).isSome=bj->(s.blk b).isSome=bj:=λb g=>by
  by_cases H:b=r
  ·rw[H,rW];rfl
  ·have:(s.bO r (a6 y) aj).blk b=s.blk b:=ape H
   rw[this]at g;exact g
 have S:∀b,(s.blk b).isSome=bj->((s.bO r (a6 y) aj).blk b).isSome=bj:=λb g=>by
  by_cases H:b=r
  ·have:(s.bO r (a6 y) aj).blk b=a6 y:=aph H
   rw[this];rfl
  ·have:(s.bO r (a6 y) aj).blk b=s.blk b:=ape H
   rw[this];exact g
 have ab5:∀b,(s.bO r (a6 y) aj).bu b=s.bu b:=λb=>by
  show(s.bu b||(aj&&(b==r)))=s.bu b
  simp
 have wN:df c n (s.bO r (a6 y) aj) a w' β X:=by
  refine⟨h.defers,h.size,λt=>(h.tmp t).Bg B6 B2,λt b g=>S b (h.nd t b g),λb cs g=>?_,λb cs g x F Q M=>?_,λb Q h1 h2=>h.inj b Q (Kn b h1) (Kn Q h2),h.F,h.uZ,λk j=>apV (h.oH k j) K.below.sz,⟨K.below.uX,λk q j A=>?_,apm h.below.sz K.below.sz⟩,λp C=>(h.gh p C).Bg B6 B2,λp C b g=>⟨(h.i_ p C b g).1,S b (h.i_ p C b g).2⟩,⟨λk q j=>?_,h.kp.x,λk j=>apV (h.kp.lt k j) K.below.sz,λk j b g=>h.kp.off k j b (Kn b g)⟩⟩
  ·by_cases H:b=r
   ·subst H
    have G:(s.bO b (a6 y) aj).blk b=a6 y:=aph rfl;rw[G]at g;obtain rfl:=ap0 g;obtain⟨z,l,I,ty,T,q4,q5⟩:=h.blk b L rW;obtain⟨r1,r2,dx,Ru,Y,r4,r5⟩:=K.blk b y Z;rw[(S4 b L J.symm).1]at Y;exact⟨z,l,dx,Ru,Y,r4,((r5.pure (je Xw)).mono λa u U F=>⟨U,λhX=>F (hXX _ hX)⟩).lq⟩
   ·have G:(s.bO r (a6 y) aj).blk b=s.blk b:=ape H
    rw[G]at g;obtain⟨z,l,I,ty,T,q4,q5⟩:=h.blk b cs g;have B:seen (β b)=aj:=by
     cases B:seen (β b)with
     |false=>rfl
     |true=>
      obtain⟨b1,cs2,e,E⟩:=N _ B;have Az:=(F9 b1 cs2 e).2;subst Az;exact api (h.inj b b1 (by rw[g];rfl) (by rw[rW];rfl) E) H
    exact⟨z,l,I,ty,W _ _ B T,q4,q5.mono λu x _ A=>A.Bg B6 B2⟩
  ·by_cases H:b=r
   ·subst H
    have G:(s.bO b (a6 y) aj).blk b=a6 y:=aph rfl;rw[G]at g;obtain rfl:=ap0 g;rw[je Xw x F]at M;cases M
   ·have G:(s.bO r (a6 y) aj).blk b=s.blk b:=ape H
    rw[G]at g;obtain⟨z,l⟩:=h.qS b cs g x F Q M;exact⟨by rw[ab5];exact z,S Q l⟩
  ·have q:=h.below.nc k _ j A
   refine W k _ ?_ q;cases B:seen k with
   |false=>rfl
   |true=>
    obtain⟨b,cs,e,rfl⟩:=N k B;obtain⟨I,ty,T,_⟩:=oa b cs e;rw[T]at q;exact api (ap0 q).symm (A _ _ _)
  ·have q:=h.kp.obj k q j
   refine W k _ ?_ q;cases B:seen k with
   |false=>rfl
   |true=>
    obtain⟨b,cs,e,E⟩:=N k B;exact api E.symm (h.kp.off k (.inl (by rw[j];rfl)) b (by rw[(ho b cs e).1];rfl))
 exact⟨v,rfl,wN,(hv.pure hdr).mono λa u U F=>⟨U,λhX=>F (hXX _ hX)⟩⟩
def S5{c:Ctx}{n:aw}{s:as0}{a:Act}{w:bn}{β:aw->aw}{X:aw->Prop}(h:df c n s a w β X)(h0:c.Good c.w0){f:c7}{fn:kf}(hf:c.P.funcs[f]? =a6 fn){args:ai D}{A:aw}{j:ai D}
  (J:s.blk A=a6 j) (Tb:∀d∈args,∀b∈d.refs,b=A)
  {d:D} (LC:∀vs:ai b3,vs.length=j.length->kh c.P c.Good fn 1 (args.map D.AU) [a6 (qe j vs)] [] d [a6 (qe j vs)] []) (I:d.refs=[])
  {vals:ai b3} (s8:vals.length=args.length) (ff:∀i(h:i<vals.length)(h':i<args.length),bU β w X vals[i] args[i]):
  vx c.P f vals.toArray w λe w'=>∃v,e=.returned v/\df c n s a w' β X/\b9 w' X v d:=by
 obtain⟨g1,g2,us,ty,g3,g4,L⟩:=h.blk A j J;generalize Q:us.toList.take j.length=vs at L;have hlen:vs.length=j.length:=L.1
 let pins:ai (b3×D):=(vs.zip j).filter λp=>p.2.ref.isSome
 have sJ:∀p∈pins,aX β w X p.1 p.2/\p.2∈j:=λp o=>by obtain⟨G,-⟩:=arO.1 o;obtain⟨i,hi,rfl⟩:=apF.1 G;rw[List.getElem_zip];exact⟨L.2 i _ _,apD _⟩
 let Y7:=(j.flatMap D.refs).foldl Nat.max c.gb+1
 have fold:∀(l:ai aw)(m:aw),m<=l.foldl Nat.max m/\∀x∈l,x<=l.foldl Nat.max m:=λl=>by
  induction l with
  |nil=>exact λm=>⟨apc _,λx C=>by cases C⟩
  |cons y l O=>exact λm=>⟨apm (arP m y) (O (Nat.max m y)).1,λx C=>by
    obtain rfl|C:=apo.1 C
    exact apm (arI m x) (O (Nat.max m x)).1;exact(O (Nat.max m y)).2 x C⟩
 let c':Ctx:={c with gh:=pins++c.gh,gb:=Y7}
 let s1:=s.bO A (a6 (qe j vs)) aj
 have E:∀b,(s1.blk b).isSome=bj↔(s.blk b).isSome=bj:=λb=>by by_cases r:b=A;subst r;have z:s1.blk b=a6 (qe j vs):=aph rfl;rw[z,J];simp;have z:s1.blk b=s.blk b:=ape r;rw[z]
 have M:∀b,s1.bu b=s.bu b:=λb=>by show(s.bu b||(aj&&(b==A)))=s.bu b;simp
 have Y:∀{x:D}{b:aw},b∈x.refs->x.ref.isSome=bj->x.ref=a6 b:=λ{x b} g C=>by cases x<;>simp_all [D.refs,D.ref]
 have aF:df c' n s1 a w β X:=by
  refine⟨h.defers,h.size,h.tmp,λt b g=>(E b).2 (h.nd t b g),λb cs g=>?_,λb cs g x C F Z=>?_,λb F U T=>h.inj b F ((E b).1 U) ((E F).1 T),h.F,h.uZ,h.oH,⟨h.below.uX,h.below.nc,h.below.sz⟩,λp o=>?_,λp o b g=>?_,⟨h.kp.obj,h.kp.x,h.kp.lt,λk B b g=>h.kp.off k B b ((E b).1 g)⟩⟩;by_cases r:b=A;subst r;have z:s1.blk b=a6 (qe j vs):=aph rfl;rw[z]at g;obtain rfl:=ap0 g;refine⟨g1,g2,us,ty,g3,by rw[ur hlen];exact g4,?_⟩;rw[ur hlen,Q];refine⟨by rw[ur hlen];exact hlen,λi i1 i2=>?_⟩;rw[IL i (by rw[<-hlen];exact i1) i1 i2];unfold Xd;split;exact L.2 i i1 _;exact .p (.lit _);have z:s1.blk b=s.blk b:=ape r;rw[z]at g;exact h.blk b cs g;by_cases r:b=A;subst r;have z:s1.blk b=a6 (qe j vs):=aph rfl;rw[z]at g;obtain rfl:=ap0 g;rw[IK x C]at Z;cases Z;have z:s1.blk b=s.blk b:=ape r;rw[z]at g;obtain⟨G,H⟩:=h.qS b cs g x C F Z;exact⟨by rw[M];exact G,(E F).2 H⟩;obtain o|o:=aps.1 o
  exact .c (sJ p o).1;exact h.gh p o;obtain o|o:=aps.1 o
  have hr:=(arO.1 o).2;have B3:=(sJ p o).2;refine⟨Nat.lt_succ_of_le ((fold _ _).2 b (aq9.2 ⟨_,B3,g⟩)),(E b).2 (h.qS A j J p.2 B3 b (Y g hr)).2⟩;exact⟨Nat.lt_succ_of_le (apm (apU (h.i_ p o b g).1) (fold _ _).1),(E b).2 (h.i_ p o b g).2⟩
 have K:dX (qe j vs)=aj:=by
  cases S:dX (qe j vs)with
  |false=>rfl
  |true=>
   unfold dX at S;simp only[pb]at S;obtain⟨x,C,q⟩:=S;rw[IK x C]at q;cases q
 have z:s1.blk A=a6 (qe j vs):=aph rfl;refine(I2 aF h0 hf z K Tb ((LC vs hlen).wg K rfl K I) (dP.2 rfl) K I s8 ff).mono λe w' eh=>?_
 obtain⟨v,rfl,g,hv⟩:=eh;refine⟨v,rfl,?_,hv⟩;have e2:s1.bO A (a6 (qe j vs)) aj=s1:=by
  have G:(λk=>if k=A then a6 (qe j vs)else s1.blk k)=s1.blk:=funext λk=>by by_cases B:k=A;rw[aph B,B,z];rw[ape B]
  have H:(λk=>s1.bu k||(aj&&(k==A)))=s1.bu:=funext λk=>by simp
  generalize s1=s2 at G H⊢;cases s2;simp only[as0.bO]at G H⊢;rw[G,H]
 rw[e2]at g;refine⟨g.defers,g.size,g.tmp,λt b r=>(E b).1 (g.nd t b r),λb cs r=>?_,h.qS,λb F U T=>g.inj b F ((E b).2 U) ((E F).2 T),g.F,g.uZ,g.oH,⟨g.below.uX,g.below.nc,g.below.sz⟩,λp o=>g.gh p (aqX _ o),h.i_,⟨g.kp.obj,g.kp.x,g.kp.lt,λk B b r=>g.kp.off k B b ((E b).2 r)⟩⟩;by_cases Az:b=A;subst Az;rw[J]at r;obtain rfl:=ap0 r;obtain⟨r1,r2,W,Ru,r3,r4,N⟩:=g.blk b _ z;rw[ur hlen]at r4 N;refine⟨r1,r2,W,Ru,r3,r4,by rw[N.1,ur hlen],λi i1 i2=>?_⟩;have q:=N.2 i i1 (by rw[ur hlen];exact i2);rw[IL i i2 (by rw[hlen];exact i2)]at q;unfold Xd at q;split at q;exact q;rename_i k B;have V:(W.toList.take j.length)[i]=vs[i]'(by rw[hlen];exact i2):=by
  generalize(W.toList.take j.length)[i]=u1 at q;generalize vs[i]'(by rw[hlen];exact i2)=u2 at q;cases q with
  |p q=>cases q;rfl
 rw[V];have o:=g.gh (vs[i]'(by rw[hlen];exact i2),j[i]) (aqt _ (arO.2 ⟨by
  rw[apF];exact⟨i,by rw[List.length_zip,hlen];omega,List.getElem_zip⟩,by show j[i].ref.isSome=bj;rw[B];rfl⟩))
 generalize j[i]=x at o B;generalize vs[i]'(by rw[hlen];exact i2)=u2 at o;cases o with
 |c o=>exact o
 |agg _ _ _=>cases B
 |aP _ _ _=>cases B
 have V:s1.blk b=s.blk b:=ape Az;rw[<-V]at r;exact g.blk b cs r
def ab7{c:Ctx}{n:aw}{s:as0}{a:Act}{w:bn}{β:aw->aw}{X:aw->Prop}(h:df c n s a w β X)(h0:c.Good c.w0){f:c7}{fn:kf}(hf:c.P.funcs[f]? =a6 fn){args:ai D}
  (du:∀d∈args,d.refs=[]) {d:D} {blks':ai (bF (ai D))} {ns':ai aw} (LC:kh c.P c.Good fn 0 args [] [] d blks' ns') {nb:aw} (uA:s.blk nb=bk) {R:Rec} (hd:abl nb d blks' ns'=a6 R)
  {vals:ai b3} (s8:vals.length=args.length) (ff:∀i(h:i<vals.length)(h':i<args.length),bU β w X vals[i] args[i]) {o:e9}:
  vx c.P f vals.toArray w λe w'=>∃v,e=.returned v/\Rel c n (s.app n o.dst R) (a.put o.dst v) w':=by
 let c':Ctx:={c with gh:=[],gb:=0,rd:=bk,dfs:=[],ns:=w.heap.size,kp:=λk=>w.heap[k]?,kx:=λk=>X k}
 have qV:df c' 0 ⟨λ_=>.any,λb=>([]:ai (bF (ai D))).getD b bk,λb=>([]:ai aw).contains b⟩ ⟨#[],[]⟩ w β X:=
  ⟨rfl,rfl,λt=>.c (.p (.any _)),λt b r=>by simp[D.refs]at r,λb cs r=>by simp at r,λb cs r=>by simp at r,λb b' r=>by simp at r,h.F,h.uZ,h.oH,⟨h.below.uX,h.below.nc,apc _⟩,λp j=>(by cases j),λp j=>(by cases j),
   ⟨λk q C=>C,λk C=>C,λk C=>h.oH k C,λk C b r=>by simp at r⟩⟩
 refine(LC f hf c' w β X vals rfl rfl h0 (apc _) rfl rfl qV s8 ff (λx A b r=>by rw[du x A]at r;cases r)).mono λe w' eh=>?_
 obtain⟨v,g,Y,rfl,E,B,hdl⟩:=eh;obtain⟨b,cs,d',jz,mr,rfl,H⟩:=An hd;have AY:Below w.heap.size w w':=by
  have W:=h.below.uX;have V:=E.below.uX;refine⟨V.os.trans W.os.symm,V.tape.trans W.tape.symm,V.output.trans W.output.symm,E.below.sz,λk C=>?_⟩
  rw[E.kp.obj k _ (ap9 C),ap9 C]
 obtain⟨q1,Z,K,ty,q3,q4,q5⟩:=E.blk b cs jz;have Q:w.heap.size<=g b:=by
  obtain bZ|Kt:=apy (g b) w.heap.size
  ·exact api rfl (E.kp.off (g b) (.inl (by show(w.heap[g b]?).isSome=bj;rw[ap9 bZ];rfl)) b (by show(blks'.getD b bk).isSome=bj;rw[jz];rfl))
  ·exact Kt
 have hr:aR w' (λk=>X k\/k=g b) (K.toList.take cs.length) cs:=(q5.pure (je mr)).mono λa u T A=>⟨T,λz=>A (by
  obtain z|z:=z
  ·exact E.kp.x _ z
  ·rw[z];exact Z)⟩
 have Ns:=h.ahU AY nb uA Q q3 q4 hr;refine⟨v,rfl,_,_,Ns.put (v:=v) (d:=d') ?_ ?_⟩
 ·rcases H with⟨G,size,rfl,rfl⟩|⟨y,len,l,rfl,rfl⟩|⟨x,F,e,rfl,rfl,S,A⟩
  ·cases B with
   |c B=>cases B with
    |p j=>cases j
    |bG _ _ _ l e J I U=>
     have:=aX.bG (β:=λk=>if k=nb then g b else β k) (w:=w') (X:=λk=>X k\/k=g b) nb G size l e J I (by simp only[gn];exact U)
     simp only[gn]at this;exact .c this
  ·cases B with
   |c B=>cases B with
    |p j=>cases j
    |aY _ _ _ _ J I=>
     have:=aX.aY (β:=λk=>if k=nb then g b else β k) (w:=w') (X:=λk=>X k\/k=g b) nb y len l J I
     simp only[gn]at this;exact .c this
  ·have N:∀{u:b3},¬b9 w' Y u x:=λj=>by
    rcases A with⟨G,size,rfl,-⟩|⟨y,rfl,-⟩<;>cases j
   have step:∀{u:b3},aX g w' Y u x->aX (λk=>if k=nb then g b else β k) w' (λk=>X k\/k=g b) u F:=λhu=>by
    rcases A with⟨G,size,rfl,rfl⟩|⟨y,rfl,rfl⟩
    ·cases hu with
     |p j=>cases j
     |bG _ _ _ l e J I U=>
      have:=aX.bG (β:=λk=>if k=nb then g b else β k) (w:=w') (X:=λk=>X k\/k=g b) nb G size l e J I (by simp only[gn];exact U)
      simp only[gn]at this;exact this
    ·cases hu with
     |p j=>cases j
     |ptr=>
      have:=aX.ptr (β:=λk=>if k=nb then g b else β k) (w:=w') (X:=λk=>X k\/k=g b) nb y
      simp only[gn]at this;exact this
   have low:∀a u,w'.cell? a=a6 u->¬Y a.block->w'.cell? a=a6 u/\¬(X a.block\/a.block=g b):=λa u T A=>⟨T,λz=>A (by
    obtain z|z:=z
    ·exact E.kp.x _ z
    ·rw[z];exact Z)⟩
   cases B with
   |c B=>cases B with
    |p j=>cases j with
     |aP K _ L tM=>exact api (tM 0 (by rw[L];simp) zb) N
   |aP K _ L=>
    refine .aP K _ ⟨L.1,λi i1 i2=>?_⟩
    have hi:=L.2 i i1 i2;cases i with
    |zero=>exact step hi
    |succ i=>cases i with
     |zero=>exact .p ((hi.pure S).mono low)
     |succ i=>exfalso;simp only[ey,fl]at i2;omega
 ·intro b' M
  have:b'=nb:=by
   rcases H with⟨G,size,rfl,rfl⟩|⟨y,len,l,rfl,rfl⟩|⟨x,F,e,rfl,rfl,S,A⟩
   ·simpa [D.refs]using M
   ·simpa [D.refs]using M
   ·have e1:(D.aP [F,e]).refs=[nb]:=by
     show [F,e].filterMap D.ref=[nb];have O:F.ref=a6 nb:=by rcases A with⟨_,_,-,rfl⟩|⟨_,-,rfl⟩<;>rfl
     rw[List.filterMap_cons_some O,asa S,List.filterMap_nil]
    rw[e1]at M;simpa using M
  subst this;simp[as0.bO]
def I7{c:Ctx}{n:aw}{s:as0}{a:Act}{w:bn}{β:aw->aw}{X:aw->Prop}(h:df c n s a w β X)(ops:eY e9)(o:e9):∀b,l9 ops o s.tmp=a6 b->rv o (yielded ops a.tmps)=b:=by
 intro b d;unfold l9 at d;unfold rv;split at d
 ·rename_i k;simp only[zIq]at d;rw[k];exact d
 ·rename_i j want k
  rw[k];split at d
  ·rename_i t r
   have f:=h.tmp t;have i:yielded ops a.tmps j=match a.tmps[t]?with|some (.bool b)=>a6 b|_=>bk:=by unfold yielded;rw[r];rfl
   split at d
   ·rename_i p l
    simp only[zIq]at d;rw[l]at f;have e:=tX (f.pure rfl) (v:=.bool p) rfl;have:a.tmps[t]? =a6 (.bool p):=by
     cases g:a.tmps[t]?with
     |none=>simp[hZ,g,fg]at e
     |some v=>simp[hZ,g]at e;rw[e]
    rw[this]at i;simp only[i];rw[<-d];cases p<;>cases want<;>rfl
   ·rename_i q l
    simp only[zIq]at d;rw[l]at f;have e:=tX (f.pure rfl) (v:=.tuple q) rfl;have:yielded ops a.tmps j=bk:=by
     rw[i];cases g:a.tmps[t]?with
     |none=>rfl
     |some v=>simp[hZ,g]at e;rw[e]
    simp only[this];rw[<-d];cases want<;>rfl
   ·cases d
  ·cases d
def Pk{c:Ctx}{n:aw}{s:as0}{a:Act}{w:bn}{inl:Inline P Good}(oQ:z9 P Good inl)(hP:c.P=P)(GC:c.Good=Good)(hG:aa Good)(Z:c.Good c.w0){gb mx:aw}(qj:c.gb<=gb)(h:Rel c n s a w)
  {ops:eY e9} {o:e9} {ro:ai aw} {blks:ai (bF (ai D))} {ns:ai aw} {tr tr':ai (Item P Good)} {R:Rec} {eqs:ai (cY×cY)}
  (W:pQ P inl ops o ro gb mx s blks ns tr=a6 (R,tr',eqs)) (he:jU eqs) (hnb:∀b cs d nf,R=.new b cs d nf->s.blk b=bk)
  (XC:R.inner=bj->(∀b,s.blk b=blks.getD b bk)/\(∀b,s.bu b=ns.contains b)/\(∀t,n<=t->s.tmp t=.any)/\((c.gb<=mx/\∀t b,b∈(s.tmp t).refs->b<mx)\/mx=blks.length)) {Q:sx->Act->bn->Prop} {K:Act->bn->Prop}
  (O:∀a' w',Rel c n (s.app n o.dst R) a' w'->K a' w'):
  if rv o (yielded ops a.tmps)then o.wp P a w K Q else K (a.put o.dst fg) w:=by
 subst hP GC;obtain⟨β,X,h⟩:=h;rw[wz]at W;have Nu:=I7 h ops o;split at W
 ·rename_i hg
  rw[aph (Nu _ hg)];split at W
  ·rename_i E nd hE
   split at W
   ·rename_i yz x5 hn
    split at W
    ·rename_i R' ox sM y
     simp only[zIq,zJq]at W;obtain⟨rfl,rfl,rfl⟩:=W;obtain⟨XB,U⟩:=he.append;have jw:=XR h qj hE (PD hn XB);unfold Oper.wp;cases E with
     |val d=>
      obtain⟨v,w',M,l,B,Dx⟩:=jw;simp only[fL]at y;generalize hrw:R0 o.dst d yz=q at y;obtain⟨d',S,amU⟩:=q;simp only[zIq,zJq]at y;obtain⟨rfl,rfl,rfl⟩:=y;obtain rfl:=Ux hrw U;rw[M,r7];exact O _ _ ⟨β,X,(h.grow l).put B Dx⟩
     |new b cs d nf=>
      obtain⟨rfl,w1,us,e,v,M,Az,hs1,hle,T,hnf,J,B⟩:=jw;simp only[fL,zIq,zJq]at y;obtain⟨rfl,rfl,rfl⟩:=y;rw[M,r7];have Ns:=(h.grow Az).new blks.length (hnb _ cs d nf rfl) e us cs nf hle (T.mono λu x _ hq=>hq.mono (iV Az) (mW Az)) hnf
      refine O _ _ ⟨_,_,Ns.put (.c (B _ _ _ (by simp[hs1]) ?_)) (λL z=>?_)⟩
      ·rw[<-hs1];exact cw (m3 w1 _)
      ·rw[J,apg]at z
       subst z;simp[as0.bO]
     |store b off ds d nf=>
      obtain⟨cs,us,dx,e,v,rfl,l,hu,M,F8,hle,hlu,T,hlv⟩:=jw;simp only[fL,zIq,zJq]at y;obtain⟨rfl,rfl,rfl⟩:=y;have hlen:(cs.take off++(ds++cs.drop (off+ds.length))).length=cs.length:=zT
      have qh:=h.store b cs (cs.take off++(ds++cs.drop (off+ds.length))) nf l us dx e hu F8 za (by rw[hlen];exact T) (λd J L z=>by
       obtain J|J:=aps.1 J
       ·have:=h.qS b cs l d (aq' J) L z;exact⟨by rw[this.1];rfl,this.2⟩
       ·obtain J|J:=aps.1 J
        ·exact⟨by rw[(hlv d J L z).1];simp,(hlv d J L z).2⟩
        ·have:=h.qS b cs l d (asr J) L z;exact⟨by rw[this.1];rfl,this.2⟩)
      have:(s.app n o.dst (.store b off ds (.lit v) nf))=(s.bO b (a6 (cs.take off++(ds++cs.drop (off+ds.length)))) nf).put n o.dst (.lit v):=by
       simp[as0.app,l,aE]
      rcases M with⟨M,rfl⟩|M
      ·rw[M,Oper.upon_skip]
       refine O _ _ ⟨β,X,?_⟩;rw[this];exact qh.put (.c (.p (.lit fg))) (λL z=>by simp[D.refs]at z)
      ·rw[M,r7]
       refine O _ _ ⟨β,X,?_⟩;rw[this];exact qh.put (.c (.p (.lit v))) (λL z=>by simp[D.refs]at z)
     |grow b cs d=>
      obtain⟨v,w',β',X',M,F,B,J⟩:=jw;simp only[fL,zIq,zJq]at y;obtain⟨rfl,rfl,rfl⟩:=y;rw[M,r7];refine O _ _ ⟨β',X',F.put (.c B) (λL z=>?_)⟩
      rw[J,apg]at z;subst z;simp[as0.bO]
     |call f args=>
      obtain⟨H,M,Y,T,zp⟩:=jw;by_cases hI:∃(fn:kf)(d:D)(blks':ai (bF (ai D)))(ns':ai aw),(R'=.inl blks' ns' d\/R'=.own d/\QG blks blks' d=bj)/\c.P.funcs[f]? =a6 fn/\kh c.P c.Good fn mx args blks ns d blks' ns'
      ·obtain⟨fn,d,blks',ns',hRR,hf,LC⟩:=hI
       obtain⟨hbk,U9,htn,hmx⟩:=XC (by obtain rfl|⟨rfl,-⟩:=hRR<;>rfl)
       have bZ:∀b,(s.blk b).isSome=bj->b<blks.length:=λb l=>by
        rw[hbk b]at l;obtain h|h:=apy b blks.length
        ·exact h
        ·rw[apf,apL h]at l;simp at l
       have hmt:∀t b,b∈(s.tmp t).refs->b<mx:=λt b l=>hmx.elim (λq=>q.2 t b l) λq=>by rw[q];exact bZ b (h.nd t b l)
       have hmg:∀p∈c.gh,∀b∈p.2.refs,b<mx:=λp N b l=>hmx.elim (λq=>apV (h.i_ p N b l).1 q.1) λq=>by rw[q];exact bZ b (h.i_ p N b l).2
       rw[M,gy]
       let gh':ai (b3×D):=((ch n).map λt=>(a.tmps.getD t fg,s.tmp t))++c.gh
       have hbs:(λb=>blks.getD b bk)=s.blk:=funext λb=>(hbk b).symm
       have hnn:(λb=>ns.contains b)=s.bu:=funext λb=>(U9 b).symm
       have qV:df {c with gh:=gh',gb:=mx,rd:=bk,dfs:=[]} 0 ⟨λ_=>.any,λb=>blks.getD b bk,λb=>ns.contains b⟩ ⟨#[],[]⟩ w β X:=by
        rw[hbs,hnn];refine⟨rfl,rfl,λt=>.c (.p (.any _)),λt b l=>by simp[D.refs]at l,h.blk,h.qS,h.inj,h.F,h.uZ,h.oH,⟨h.below.uX,h.below.nc,h.below.sz⟩,λp N=>?_,λp N b l=>?_,?_⟩
        ·obtain N|N:=aps.1 N
         ·obtain⟨t,_,rfl⟩:=apN.1 N;exact h.tmp t
         ·exact h.gh p N
        ·obtain N|N:=aps.1 N
         ·obtain⟨t,_,rfl⟩:=apN.1 N;exact⟨hmt t b l,h.nd t b l⟩
         ·exact⟨hmg p N b l,(h.i_ p N b l).2⟩
        ·exact⟨h.kp.obj,h.kp.x,h.kp.lt,h.kp.off⟩
       refine(LC f hf {c with gh:=gh',gb:=mx,rd:=bk,dfs:=[]} w β X H rfl rfl Z (apc _) rfl rfl qV Y T (λd J b l=>by rw[<-hbk];exact zp d J b l)).mono λe w' I=>?_
       obtain⟨v,β',X',rfl,F,B,J⟩:=I;obtain rfl|⟨rfl,aoi⟩:=hRR
       case inr=>
        obtain⟨hdr,F9⟩:=ac_ aoi;have back:∀b cs,s.blk b=a6 cs->blks'.getD b bk=a6 cs:=λb cs l=>F9 b cs (by rw[<-hbk];exact l)
        have wN:df c n s a w' β' X':=by
         refine⟨h.defers,h.size,λt=>?_,h.nd,λb cs l=>F.blk b cs (back b cs l),h.qS,λb L G V=>?_,F.F,F.uZ,F.oH,⟨F.below.uX,F.below.nc,F.below.sz⟩,λp N=>F.gh p (aqX _ N),h.i_,⟨F.kp.obj,F.kp.x,F.kp.lt,λk C b l=>by
          obtain⟨c1,e1⟩:=apn.1 l;exact F.kp.off k C b (by show(blks'.getD b bk).isSome=bj;rw[back b c1 e1];rfl)⟩⟩
         ·by_cases ht:t<n
          ·exact F.gh (a.tmps.getD t fg,s.tmp t) (aqt _ (apN.2 ⟨t,by simpa using ht,rfl⟩))
          ·rw[htn t za];exact .c (.p (.any _))
         ·obtain⟨c1,e1⟩:=apn.1 G
          obtain⟨c2,e2⟩:=apn.1 V;exact F.inj b L (by show(blks'.getD b bk).isSome=bj;rw[back b c1 e1];rfl) (by show(blks'.getD L bk).isSome=bj;rw[back L c2 e2];rfl)
        exact O _ _ ⟨β',X',wN.put B (λL z=>by rw[hdr]at z;cases z)⟩
       have wN:df c n ⟨s.tmp,λb=>blks'.getD b bk,λb=>ns'.contains b⟩ a w' β' X':=by
        refine⟨h.defers,h.size,λt=>?_,λt b l=>?_,F.blk,F.qS,F.inj,F.F,F.uZ,F.oH,⟨F.below.uX,F.below.nc,F.below.sz⟩,λp N=>F.gh p (aqX _ N),λp N b l=>?_,⟨F.kp.obj,F.kp.x,F.kp.lt,F.kp.off⟩⟩
        ·by_cases ht:t<n
         ·exact F.gh (a.tmps.getD t fg,s.tmp t) (aqt _ (apN.2 ⟨t,by simpa using ht,rfl⟩))
         ·show bU β' w' X' _ (s.tmp t)
          rw[htn t za];exact .c (.p (.any _))
        ·by_cases ht:t<n
         ·exact(F.i_ (a.tmps.getD t fg,s.tmp t) (aqt _ (apN.2 ⟨t,by simpa using ht,rfl⟩)) b l).2
         ·have z:b∈(s.tmp t).refs:=l
          rw[htn t za]at z;simp[D.refs]at z
        ·exact⟨(h.i_ p N b l).1,(F.i_ p (aqX _ N) b l).2⟩
       exact O _ _ ⟨β',X',wN.put B J⟩
      simp only[fL]at y;split at y
      ·rename_i g xs r Bh S
       split at y
       ·split at y
        ·rename_i aca
         simp only[zIq,zJq]at y;obtain⟨rfl,rfl,rfl⟩:=y;have G:=U _ (apw ..);simp only[cY.call.injEq]at G;obtain⟨rfl,rfl⟩:=G;rw[M,gy];refine(Bh w (λk=>X k/\∀b cs,s.blk b=a6 cs->k≠β b) H (h.mz hG Z) ⟨by simpa using Y,λi G V=>?_⟩ (λk C=>h.oH k C.1)).mono λe w' I=>?_
         ·rw[ap2]
          exact qN h (T i G (by simpa using V)) (λk C=>C.1) (λb cs l k C=>C.2 b cs l)
         ·obtain⟨v,rfl,B,l,_⟩:=I
          cases r<;>simp only[D.flat,cy]at aca
          cases B;exact O _ _ ⟨β,X,(h.grow l).put (.c (.p (.lit _))) (λL z=>by simp[D.refs]at z)⟩
        ·cases y
       ·rename_i Dw
        have Y0:∀d∈args,d.refs=[]:=by
         intro d J;simp only[pb,not_exists,not_and,nv]at Dw;have:=Dw d J;simpa using this
        generalize hrw:R0 o.dst r S=q at y;obtain⟨d',tr4,amU⟩:=q;simp only[zIq,zJq]at y;obtain⟨rfl,rfl,rfl⟩:=y;have G:=U _ (apw ..);simp only[cY.call.injEq]at G;obtain⟨rfl,rfl⟩:=G;obtain rfl:=Ux hrw (λe he'=>U e (apX _ he'))
        rw[M,gy];refine(Bh w X H (h.mz hG Z) ⟨by simpa using Y,λi G V=>?_⟩ h.oH).mono λe w' I=>?_
        ·rw[ap2]
         exact wh ((T i G (by simpa using V)).pure (Y0 _ (apD _)))
        ·obtain⟨v,rfl,B,l,_⟩:=I
         exact O _ _ ⟨β,X,(h.grow l).put (.c (.p B)) (λL z=>by rw[eV B]at z;cases z)⟩
      ·rename_i g xs m cs Bh S
       split at y
       ·cases y
       ·rename_i Dw
        have Y0:∀d∈args,d.refs=[]:=by
         intro d J;simp only[pb,not_exists,not_and,nv]at Dw;have:=Dw d J;simpa using this
        simp only[zIq,zJq]at y;obtain⟨rfl,rfl,rfl⟩:=y;have G:=U _ (apw ..);simp only[cY.call.injEq]at G;obtain⟨rfl,rfl⟩:=G;rw[M,gy];refine(Bh w X H (h.mz hG Z) ⟨by simpa using Y,λi G V=>?_⟩ h.oH).mono λe w' I=>?_
        ·rw[ap2]
         exact wh ((T i G (by simpa using V)).pure (Y0 _ (apD _)))
        ·obtain⟨k,us,ty,rfl,hm1,C,hu,hle,hrr,l,_⟩:=I
         have Ns:=h.ahU l blks.length (hnb _ _ _ _ rfl) C hu hle hrr;refine O _ _ ⟨_,_,Ns.put (v:=.slice (a6 ⟨k,0,bk⟩) m m) ?_ (λL z=>?_)⟩
         ·have:=aX.aY (β:=λj=>if j=blks.length then k else β j) (w:=w') (X:=λj=>X j\/j=k) blks.length 0 m m (apc _) hm1
          simp only[gn]at this;exact .c this
         ·simp only[D.refs,dc]at z
          subst z;simp[as0.bO]
      ·rename_i g xs r Bh S
       simp only[zIq,zJq]at y;obtain⟨rfl,rfl,rfl⟩:=y;have G:=U _ (apw ..);simp only[cY.call.injEq]at G;obtain⟨rfl,rfl⟩:=G;rw[M,gy];exact(Bh w H (h.mz hG Z) ⟨by simpa using Y,λi G V=>by
        rw[ap2];exact qN h (T i G (by simpa using V)) (λk C=>C.elim) (λb cs l k C=>C.elim)⟩).mono λe w' I=>by
         obtain⟨v,rfl,B,l,_⟩:=I;exact O _ _ ⟨β,X,(h.grow l).put (.c (.p (B.mono λa u hu hx=>⟨hu,λhX=>hx (h.oH _ hX)⟩))) (λL z=>by rw[eV B]at z;cases z)⟩
      ·rename_i ro' g fn hf S
       split at y
       ·rename_i d blks' ns' tr4 amU hi
        simp only[zIq,zJq]at y;obtain⟨rfl,rfl,rfl⟩:=y;have G:=U _ (apw ..);simp only[cY.call.injEq,and_true]at G;subst G;exact api ⟨_,_,_,_,.inl rfl,hf,oQ _ _ _ _ _ _ _ _ _ _ _ _ hi λe he'=>U e (apX _ he')⟩ hI
       ·cases y
      ·rename_i A S
       have bC:∀{ox sM},oo c.P inl A f args s.blk S=a6 (R',ox,sM)->jU sM->vx c.P f H.toArray w λe w'=>∃v,e=.returned v/\K (a.put o.dst v) w':=λh9 h8=>by
        obtain⟨fn,q2,⟨o1,q1,q4⟩|⟨b0,nJ,d,q1,q4,q5,rfl,q6⟩⟩:=KA oQ h9 h8
        case inr=>
         refine(S5 h Z q2 q1 q4 q6 q5 Y T).mono λe w' I=>?_
         obtain⟨v,rfl,l,B⟩:=I;exact⟨v,rfl,O _ _ ⟨β,X,l.put (.c (.p B)) (λL z=>by rw[eV B]at z;cases z)⟩⟩
        obtain⟨r1,r2⟩:=Xz q1;rcases q4 with⟨d,blks',ns',rfl,LC,rfl⟩|⟨b0,nJ,tO,d,blks',ns',rfl,LC,q5,q6,q8,q9⟩
        ·refine(Xy (o:=bk) h Z q2 r1 r2 LC rfl rfl Y T).mono λe w' I=>?_
         obtain⟨v,rfl,l,B⟩:=I;exact⟨v,rfl,O _ _ ⟨β,X,l.put (.c (.p B)) (λL z=>by rw[eV B]at z;cases z)⟩⟩
        ·obtain⟨rW,hp0⟩:=r1 b0 nJ rfl
         refine(I2 h Z q2 rW hp0 (λx hx b l=>by
          obtain⟨cs,e⟩:=r2 x hx b l;simp only[zIq,zJq]at e;exact e.1.symm) (LC.wg hp0 q5 q6 q8) (dP.2 rfl) q6 q8 Y T).mono λe w' I=>?_
         obtain⟨v,rfl,l,B⟩:=I;refine⟨v,rfl,O _ _ ⟨β,X,?_⟩⟩;have e1:(s.app n o.dst R')=(s.bO b0 (a6 tO) aj).put n o.dst d:=by
          rcases q9 with⟨rfl,rfl⟩|⟨q7,rfl⟩
          ·have e2:s.bO b0 (a6 tO) aj=s:=by
            have g1:(λk=>if k=b0 then a6 tO else s.blk k)=s.blk:=funext λk=>by
             by_cases C:k=b0
             ·rw[aph C,C,rW]
             ·rw[ape C]
            have g2:(λk=>s.bu k||(aj&&(k==b0)))=s.bu:=funext λk=>by simp
            cases s;simp only[as0.bO]at g1 g2⊢;rw[g1,g2]
           rw[e2];rfl
          ·have e2:aE nJ 0 tO=tO:=by
            unfold aE;rw[aqY,aq0,aqa,q7,ar1,aqs]
           simp only[as0.app,rW,dm,e2]
         rw[e1];exact l.put (.c (.p B)) (λL z=>by rw[eV B]at z;cases z)
       have inn:∀{ox sM},JH c.P inl A mx f args blks ns S=a6 (R',ox,sM)->jU sM->False:=λh9 h8=>by
        obtain⟨fn,d,blks',ns',q1,q2,q3⟩:=pg h9;exact hI ⟨_,_,_,_,q3,q1,(Aw q2 q1 h8).elim id λq=>oQ _ _ _ _ _ _ _ _ _ _ _ _ q h8⟩
       split at y
       ·split at y
        ·rename_i x hx
         simp only[zIq]at y;subst y;rw[M,gy];exact(bC hx U).mono λe w' I=>by obtain⟨v,rfl,C⟩:=I;exact C
        split at y
        ·rename_i r ab4
         simp only[zIq,zJq]at y;obtain⟨rfl,rfl,rfl⟩:=y;rw[M,gy];exact(A.okF _ _ _ ab4 w H (h.mz hG Z) ⟨by simpa using Y,λi G V=>by
          rw[ap2];exact qN h (T i G (by simpa using V)) (λk C=>C.elim) (λb cs l k C=>C.elim)⟩).mono λe w' I=>by
           obtain⟨v,rfl,B,l,_⟩:=I;exact O _ _ ⟨β,X,(h.grow l).put (.c (.p (B.mono λa u hu hx=>⟨hu,λhX=>hx (h.oH _ hX)⟩))) (λL z=>by rw[eV B]at z;cases z)⟩
        split at y
        ·rename_i r trq eqq ab4
         split at y
         ·rename_i aca
          simp only[zIq,zJq]at y;obtain⟨rfl,rfl,rfl⟩:=y;rw[M,gy];refine(JJ ab4 U w (λk=>X k/\∀b cs,s.blk b=a6 cs->k≠β b) H (h.mz hG Z) ⟨by simpa using Y,λi G V=>?_⟩ (λk C=>h.oH k C.1)).mono λe w' I=>?_
          ·rw[ap2]
           exact qN h (T i G (by simpa using V)) (λk C=>C.1) (λb cs l k C=>C.2 b cs l)
          ·obtain⟨v,rfl,B,l,_⟩:=I
           cases r<;>simp only[D.flat,cy]at aca
           cases B;exact O _ _ ⟨β,X,(h.grow l).put (.c (.p (.lit _))) (λL z=>by simp[D.refs]at z)⟩
         ·cases y
        ·exact(inn y U).elim
       ·rename_i Dw
        have Y0:∀d∈args,d.refs=[]:=by
         intro d J;simp only[pb,not_exists,not_and,nv]at Dw;have:=Dw d J;simpa using this
        split at y
        ·rename_i r trq eqq ab4
         simp only[zIq,zJq]at y;obtain⟨rfl,rfl,rfl⟩:=y;rw[M,gy];refine(JJ ab4 U w X H (h.mz hG Z) ⟨by simpa using Y,λi G V=>?_⟩ h.oH).mono λe w' I=>?_
         ·rw[ap2]
          exact wh ((T i G (by simpa using V)).pure (Y0 _ (apD _)))
         ·obtain⟨v,rfl,B,l,_⟩:=I
          exact O _ _ ⟨β,X,(h.grow l).put (.c (.p B)) (λL z=>by rw[eV B]at z;cases z)⟩
        ·split at y
         ·rename_i x hx
          simp only[zIq]at y;subst y;rw[M,gy];obtain⟨fn,d,blks',ns',q1,q2,q3⟩:=uN hx;obtain⟨b1,tO,d1,_,_,hRe,_⟩:=An q3;exact(ab7 h Z q1 Y0 ((Aw q2 q1 U).elim id λq=>oQ _ _ _ _ _ _ _ _ _ _ _ _ q U) (hnb _ _ _ _ hRe) q3 Y T).mono λe w' I=>by obtain⟨v,rfl,C⟩:=I;exact O _ _ C
         split at y
         ·rename_i x hx
          simp only[zIq]at y;subst y;rw[M,gy];exact(bC hx U).mono λe w' I=>by obtain⟨v,rfl,C⟩:=I;exact C
         ·exact(inn y U).elim
      ·cases y
    ·cases W
   ·cases W
  ·cases W
 ·rename_i hg
  rw[Nu _ hg];simp only[zIq,zJq]at W;obtain⟨rfl,rfl,rfl⟩:=W;exact O _ _ ⟨β,X,h.put (.c (.p (.lit fg))) (λL z=>by simp[D.refs]at z)⟩
 ·cases W
def Pm{inl:Inline P Good}{ops:e9}{ro:ai aw}{gb mx:aw}{s:as0}{blks:ai (bF (ai D))}{ns:ai aw}{d tr':ai (Item P Good)}{R:Rec}
  (b:pQ P inl e ops ro gb mx s blks ns d=a6 (R,tr',o)):(∀c,ops.op≠.defer c)\/l9 e ops s.tmp=a6 aj:=by
 rw[wz]at b;split at b;left;intro c f;unfold NM at b;simp only[f]at b;cases b;rename_i eqs;exact y2 eqs;cases b
def h_{c:Ctx}{n:aw}{s:as0}{a:Act}{w:bn}{inl:Inline P Good}(q:z9 P Good inl)(y:c.P=P)(F:c.Good=Good)(A:aa Good)(C:c.Good c.w0){gb mx:aw}(p:c.gb<=gb)(h:Rel c n s a w) {ops:e9} {ro:ai aw} {blks:ai (bF (ai D))} {ns:ai aw} {l tr':ai (Item P Good)} {R:Rec}
  (j:pQ P inl e ops ro gb mx s blks ns l=a6 (R,tr',o)) (x:jU o) (i:∀b cs d v,R=.new b cs d v->s.blk b=bk)
  (E:R.inner=bj->(∀b,s.blk b=y7 blks b bk)/\(∀b,s.bu b=ns.contains b)/\(∀t,n<=t->s.tmp t=.any)/\((c.gb<=mx/\∀t b,b∈(s.tmp t).refs->b<mx)\/mx=y6 blks)) {Q:sx->Act->bn->Prop} {K:Act->bn->Prop} {r:bF aw}
  (z:∀k w',Rel c n (s.app n ops.dst R) k w'->K k w'):
  if rv ops (yielded e a.tmps)then ops.wpIn (Fw r) 0 P a w K Q else(∀f,ops.about P w a.eval=a6 f->(Fw r).fn f)/\K (a.put ops.dst fg) w:=by
 have eqs:=Pk q y F A C p h j x i E (Q:=Q) z;by_cases hw:rv ops (yielded e a.tmps)=bj;rw[aph hw]at eqs⊢;refine ak3 ?_ eqs;obtain g|g:=Pm j
 exact g;obtain⟨β,X,B⟩:=h;have:=I7 B e ops _ g;rw[hw]at this;cases this;rw[ape hw]at eqs⊢;exact⟨λf _=>trivial,eqs⟩
def xO(ns:ai aw)(f:D->D):aw->ai (bF (ai D))->ai (bF (ai D))
 |_,[]=>[]
 |i,x::l=>(if ns.contains i then x.map (m4 f)else x)::xO ns f (i+1) l
def BU(ns:ai aw)(f:D->D):∀(i:aw)(l:ai (bF (ai D))),y6 (xO ns f i l)=y6 l
 |_,[]=>rfl
 |i,x::l=>by simp[xO,BU ns f (i+1) l]
def zh(ns:ai aw)(f:D->D):∀(i:aw)(l:ai (bF (ai D)))(k:aw),(xO ns f i l).getD k bk=if ns.contains (i+k)then(y7 l k bk).map (m4 f)else y7 l k bk
 |i,[],k=>by simp[xO]
 |i,x::l,k=>by
  cases k with
  |zero=>simp[xO]
  |succ k=>
   have:=zh ns f (i+1) l k;simp only[xO,iz,this,Nat.add_assoc,vT 1 k]
def St.app(s:St)(dst:bF Tmp)(R:Rec):St:=
 let put (l:ai D) (d:D):ai D:=match dst with|some t=>l.set t d|none=>l
 match R with
 |.val d=>{s with tmps:=put s.tmps d}
 |.new _ cs d e=>{tmps:=put s.tmps d,blks:=s.blks++[a6 cs],bu:=if e then y6 s.blks::s.bu else s.bu}
 |.store b off g d e=>{tmps:=put s.tmps d,blks:=match y7 s.blks b bk with|some cs=>s.blks.set b (a6 (aE cs off g))|none=>s.blks,bu:=if e then b::s.bu else s.bu}
 |.grow b cs d=>{tmps:=put (s.tmps.map (D.clear b)) d,blks:=(xO s.bu (D.clear b) 0 s.blks).set b (a6 cs),bu:=s.bu}
 |.own d=>{s with tmps:=put s.tmps d}
 |.inl blks f d=>{tmps:=put s.tmps d,blks:=blks,bu:=f}
def Nx(l:ai D)(t u:aw)(d:D):(l.set t d).getD u .any=if a6 t=a6 u/\u<y6 l then d else y7 l u .any:=by simp only[bP,ts];by_cases h:t=u;subst h;by_cases b:t<y6 l;simp[b];simp[b];simp[h]
def xU(l:ai (bF (ai D)))(b k:aw)(x:bF (ai D))(h:b<y6 l):(l.set b x).getD k bk=if k=b then x else y7 l k bk:=by simp only[bP,ts];by_cases d:k=b;subst d;simp[h];rw[ape (aqZ d),ape d]
def BW{l:ai (bF (ai D))}{cs:aw}(h:y7 l cs bk=a6 b):cs<y6 l:=by
 obtain d|d:=apy cs (y6 l)
 exact d;rw[apf,apL d]at h;cases h
def Px(ns:ai aw)(b:aw)(d:b5):(λk=>(if d then b::ns else ns).contains k)=λk=>ns.contains k||(d&&(k==b)):=by
 funext k
 cases d with
 |true=>rw[aqf];simp[or_comm]
 |false=>simp
def St.akF(s:St)(dst:bF Tmp)(R:Rec)(o:∀b cs d h,R=.new b cs d h->b=y6 s.blks)(j:∀b cs d,R=.grow b cs d->b<y6 s.blks):
  (s.app dst R).fs=s.fs.app (y6 s.tmps) dst R/\(s.app dst R).tmps.length=y6 s.tmps:=by
 have f:∀(l:ai D)(d:D),y6 l=y6 s.tmps->(λt=>(match dst with|some t=>l.set t d|none=>l).getD t .any)=λt=>if dst=a6 t/\t<y6 s.tmps then d else y7 l t .any:=by
  intro l d i
  funext u
  cases dst with
  |none=>simp
  |some t=>rw[<-i];exact Nx l t u d
 have hlen:∀(l:ai D) d,y6 l=y6 s.tmps->y6 (match dst with|some t=>l.set t d|none=>l)=y6 s.tmps:=by intro l d i;cases dst<;>simp[i]
 cases R with
 |val d=>exact⟨by simp only[St.app,St.fs,as0.app,as0.put,f s.tmps d rfl],hlen _ d rfl⟩
 |own d=>exact⟨by simp only[St.app,St.fs,as0.app,as0.put,f s.tmps d rfl],hlen _ d rfl⟩
 |inl blks r d=>exact⟨by simp only[St.app,St.fs,as0.app,as0.put,f s.tmps d rfl],hlen _ d rfl⟩
 |new b cs d h=>
  obtain rfl:=o b cs d h rfl;refine⟨?_,hlen _ d rfl⟩;simp only[St.app,St.fs,as0.app,as0.put,as0.bO,f s.tmps d rfl,Px];congr 1
  funext k
  by_cases e:k=y6 s.blks
  ·subst e;simp[bP]
  ·rw[ape e]
   simp only[bP];by_cases p:k<y6 s.blks
   ·rw[aqe p]
   ·rw[apL zT,apL za]
 |grow b cs d=>
  have q:=j b cs d rfl;refine⟨?_,hlen _ d zb⟩
  simp only[St.app,St.fs,as0.app,as0.put,as0.bO,as0.clear,f (s.tmps.map (D.clear b)) d zb,im,ia]
  congr 1
  ·funext t
   split
   ·rfl
   ·simp only[bP,qW]
    cases s.tmps[t]?with
    |none=>simp[D.clear,D.refs]
    |some x=>rfl
  ·funext k
   rw[xU _ b k _ (by rw[BU];exact q),zh,aqa]
   by_cases e:k=b
   ·rw[aph e,aph e]
   ·rw[ape e,ape e];rfl
 |store b off v d h=>
  refine⟨?_,hlen _ _ rfl⟩;simp only[St.app,St.fs,as0.app,as0.put,as0.bO,f s.tmps _ rfl,Px];congr 1
  funext k
  cases g:y7 s.blks b bk with
  |none=>
   by_cases e:k=b
   ·rw[e,aph rfl,g];rfl
   ·rw[ape e]
  |some cs=>exact xU s.blks b k _ (BW g)
def ta(o:e9)(ρ:c6->D):bF aw:=
 match o.op with
 |.load _ x=>match ρ x with|y0 b _=>a6 b|_=>bk
 |.store _ x _=>match ρ x with|y0 b _=>a6 b|_=>bk
 |.call k=>match k.callee with
  |.value x=>(((match ρ x with|.fn _ xs _=>xs|_=>[])++k.args.toList.map ρ++(match ρ x with|.fn _ _ d=>d|_=>[])).flatMap D.refs).head?
  |.builtin .copy=>match k.args.toList.map ρ with|.aY b _ _ _::_=>a6 b|.bG b _ _::_=>a6 b|_=>bk
  |.builtin .append=>match k.args.toList.map ρ with|.aY b _ _ _::_=>a6 b|.bG b _ _::_=>a6 b|_=>bk
  |_=>bk
 |_=>bk
def me(P:cp){Good:bn->Prop}(inl:Inline P Good)(dr:b5)(ops:eY e9)(ro:ai aw)(gb:aw):ai e9->St->ai (Item P Good)->bF (St×ai (Item P Good)×ai (cY×cY)×ai (Rec×bF aw))
 |[],s,b=>a6 (s,b,[],[])
 |o::rest,s,b=>match pQ P inl ops o ro gb (mxA dr gb s) s.fs s.blks s.bu b with
  |some (R,d,e)=>match me P inl dr ops ro gb rest (s.app o.dst R) d with
   |some (s',g,f,h)=>a6 (s',g,e++f,(R,ta o s.fs.ev)::h)
   |none=>bk
  |none=>bk
def agm{o:e9}{blk:aw->bF (ai D)}{bu:aw->b5}{nb:aw}{ro g:b5}{gb ρ:aw}{e:b5}
  (h:NM P o i blk bu nb ro gb g=a6 (.new ρ b d e,k)):ρ=nb:=by
 unfold NM at h
 repeat' split at h
 all_goals first|(cases h;done)|(simp only[zIq,zJq,Eff.new.injEq]at h;exact h.1.1.symm)
def acX{o:e9}{blk:aw->bF (ai D)}{bu:aw->b5}{nb:aw}{ro f:b5}{gb e:aw}
  (h:NM P o i blk bu nb ro gb f=a6 (.grow e b d,k)):∃cs',blk e=a6 cs':=by
 unfold NM at h
 repeat' split at h
 all_goals first|(cases h;done)|(simp only[zIq,zJq,Eff.grow.injEq]at h;obtain⟨⟨rfl,-,-⟩,-⟩:=h;exact⟨_,by assumption⟩)
def qR{inl:Inline P Good}{ops:e9}{ro:ai aw}{gb mx:aw}{s:as0}{blks:ai (bF (ai D))}{ns:ai aw}{p tr':ai (Item P Good)}{R:Rec}
  (h:pQ P inl e ops ro gb mx s blks ns p=a6 (R,tr',o)):(∀b cs d i,R=.new b cs d i->b=y6 blks)/\(∀b cs d,R=.grow b cs d->∃cs',s.blk b=a6 cs'):=by
 have no:∀{k:Rec},(∀b cs d i,k≠.new b cs d i)->(∀b cs d,k≠.grow b cs d)->(∀b cs d i,k=.new b cs d i->b=y6 blks)/\(∀b cs d,k=.grow b cs d->∃cs',s.blk b=a6 cs'):=
  λx v=>⟨λb cs d i eqs=>api eqs (x b cs d i),λb cs d eqs=>api eqs (v b cs d)⟩
 rw[wz]at h;split at h;split at h;rename_i E F l;split at h;split at h;rename_i k C B g;simp only[zIq,zJq]at h;obtain⟨rfl,-,-⟩:=h;cases E with
 |val d=>simp only[fL,zIq,zJq]at g;obtain⟨rfl,-,-⟩:=g;exact no z0 z0
 |new z cs' y t=>
  simp only[fL,zIq,zJq]at g;obtain⟨rfl,-,-⟩:=g;exact⟨(λ_ _ _ _ h=>by cases h;exact agm l),(λ_ _ _ h=>by cases h)⟩
 |store=>simp only[fL,zIq,zJq]at g;obtain⟨rfl,-,-⟩:=g;exact no z0 z0
 |grow z cs' y=>
  simp only[fL,zIq,zJq]at g;obtain⟨rfl,-,-⟩:=g;exact⟨(λ_ _ _ _ h=>by cases h),(λ_ _ _ h=>by cases h;exact acX l)⟩
 |call f args=>
  simp only[fL]at g;split at g;split at g;split at g;simp only[zIq,zJq]at g;obtain⟨rfl,-,-⟩:=g;exact no z0 z0;cases g;simp only[zIq,zJq]at g;obtain⟨rfl,-,-⟩:=g;exact no z0 z0;split at g;cases g;simp only[zIq,zJq]at g;obtain⟨rfl,-,-⟩:=g;exact⟨(λ_ _ _ _ h=>by cases h;rfl),(λ_ _ _ h=>by cases h)⟩;simp only[zIq,zJq]at g;obtain⟨rfl,-,-⟩:=g;exact no z0 z0;split at g;simp only[zIq,zJq]at g;obtain⟨rfl,-,-⟩:=g;exact no z0 z0;cases g;split at g;split at g;rename_i j;simp only[zIq]at g;subst g;rcases rJ j with⟨_,rfl⟩|⟨_,_,_,rfl⟩<;>exact no z0 z0;split at g;simp only[zIq,zJq]at g;obtain⟨rfl,-,-⟩:=g;exact no z0 z0;split at g;split at g;simp only[zIq,zJq]at g;obtain⟨rfl,-,-⟩:=g;exact no z0 z0;cases g;obtain⟨fn,d,blks',ns',r,q,rfl|⟨rfl,-⟩⟩:=pg g<;>exact no z0 z0;split at g;simp only[zIq,zJq]at g;obtain⟨rfl,-,-⟩:=g;exact no z0 z0;split at g;rename_i j;simp only[zIq]at g;subst g;obtain⟨_,_,_,_,_,_,A⟩:=uN j;obtain⟨_,_,_,_,_,rfl,_⟩:=An A;exact⟨(λ_ _ _ _ h=>by cases h;rfl),(λ_ _ _ h=>by cases h)⟩;split at g;rename_i j;simp only[zIq]at g;subst g;rcases rJ j with⟨_,rfl⟩|⟨_,_,_,rfl⟩<;>exact no z0 z0;obtain⟨fn,d,blks',ns',r,q,rfl|⟨rfl,-⟩⟩:=pg g<;>exact no z0 z0;cases g
 cases h;cases h;cases h;simp only[zIq,zJq]at h;obtain⟨rfl,-,-⟩:=h;exact no z0 z0;cases h
def nu(s:St):s.fs.blk (y6 s.blks)=bk:=by simp[St.fs,bP]
def wA{inl:Inline P Good}{ops:e9}{ro:ai aw}{gb mx:aw}{s:St}{eqs tr':ai (Item P Good)}{R:Rec}
  (h:pQ P inl e ops ro gb mx s.fs s.blks s.bu eqs=a6 (R,tr',o)):(s.app ops.dst R).fs=s.fs.app (y6 s.tmps) ops.dst R/\(s.app ops.dst R).tmps.length=y6 s.tmps:=by
 obtain⟨j,i⟩:=qR h;exact s.akF ops.dst R j (λb cs d g=>by obtain⟨cs',f⟩:=i b cs d g;exact BW f)
def xm(s:St):∀t,y6 s.tmps<=t->s.fs.tmp t=.any:=λt b=>by simp[St.fs,bP,jy b]
def CS{dr:b5}{c:Ctx}{Q:sx->Act->bn->Prop}{inl:Inline P Good}(q:z9 P Good inl)(r:c.P=P)(z:c.Good=Good)(t:aa Good)(v:c.Good c.w0){gb:aw}(i:c.gb<=gb){ops:eY e9}{ro:ai aw}:
  ∀(l:ai e9)(s s':St)(g tr':ai (Item P Good))(eqs:ai (cY×cY))(p:ai (Rec×bF aw))(a:Act)(w:bn),
   me P inl dr ops ro gb l s g=a6 (s',tr',eqs,p)->jU eqs->Rel c (y6 s.tmps) s.fs a w->(∀f w',Rel c (y6 s.tmps) s'.fs f w'->Q .normal f w')->wpListIn (Fw c.rd) 0 P ops Q l a w
 |[],s,s',g,tr',eqs,p,a,w,e,he,h,j=>by simp only[me,zIq,zJq]at e;obtain⟨rfl,rfl,rfl,rfl⟩:=e;exact j a w h
 |o::rest,s,s',g,tr',eqs,p,a,w,e,he,h,j=>by
  simp only[me]at e;split at e;rename_i R I J k;split at e;rename_i s2 M L F D;cases e;obtain⟨G,H⟩:=he.append;obtain⟨E,y⟩:=wA k;refine wpListIn_step λK C=>?_
  refine h_ q r z t v i h k G (λb cs d A B=>by rw[(qR k).1 b cs d A B];exact nu s) (λ_=>⟨λb=>rfl,λb=>rfl,xm s,EM _ s i⟩) λf w' x=>C _ _ ?_
  rw[<-E,<-y]at x;exact CS q r z t v i rest _ _ _ _ _ _ f w' D H x (by rw[y];exact j);cases e;cases e
def qK{dr:b5}{inl:Inline P Good}{ops:eY e9}{ro:ai aw}{gb:aw}:∀(l:ai e9)(s s':St)(d tr':ai (Item P Good))(eqs:ai (cY×cY))(e:ai (Rec×bF aw)),
   me P inl dr ops ro gb l s d=a6 (s',tr',eqs,e)->y6 s'.tmps=y6 s.tmps
 |[],s,s',d,tr',eqs,e,b=>by simp only[me,zIq,zJq]at b;obtain⟨rfl,rfl,rfl,rfl⟩:=b;rfl
 |o::rest,s,s',d,tr',eqs,e,b=>by simp only[me]at b;split at b;rename_i R i j g;split at b;rename_i s2 p k h f;cases b;rw[qK rest _ _ _ _ _ _ f,(wA g).2];cases b;cases b
def xN{l:ai c6}(h:∀x∈l,i x=j x):l.map i=l.map j:=apz h
def FV{l:ai (aw×c6)}(h:∀x∈l.map (·.2),i x=j x):(l.map λp=>(p.1,i p.2))=l.map λp=>(p.1,j p.2):=
 apz λp d=>by rw[h p.2 (ard d)]
def LR{o:e9}{ρ p:c6->D}{blk blk':aw->bF (ai D)}{bu nst':aw->b5}{nb:aw}{ro W:b5}{gb:aw}(d:∀x∈o.op.operands.toList,ρ x=p x)
  (J:∀b,ta o ρ=a6 b->blk b=blk' b) (S:∀k b n sz rest,o.op=.call k->k.callee=.builtin .append->k.args.toList.map ρ=.bG b n sz::rest->bu b=nst' b):
  NM P o ρ blk bu nb ro gb W=NM P o p blk' nst' nb ro gb W:=by
 unfold NM;cases B:o.op<;>simp only[B,Op.operands]at d<;>try dsimp only
 case move x=>rw[d x zb]
 case assign x=>rw[d x zb]
 case pick k x y=>rw[d k zb,d x zb,d y zb]
 case box t x=>rw[d x zb]
 case build t parts=>rw[FV (by simpa using d)]
 case buildSlice t len parts=>rw[FV (by simpa using d)]
 case load t x=>
  have j:=d x zb;rw[<-j];cases F:ρ x with
  |ptr b g=>have e:=J b (by simp[ta,B,F]);simp only[e]
  |_=>rfl
 case store t x y=>
  have j:=d x zb;rw[<-j,<-d y zb];cases F:ρ x with
  |ptr b g=>
   have e:=J b (by simp[ta,B,F]);cases(ρ y).cells with
   |none=>rfl
   |some ds=>cases cu P t with
    |none=>rfl
    |some sz=>simp only[e]
  |_=>rfl
 case binOp op t x y u=>rw[d x zb,d y zb]
 case nilCheck x=>rw[d x zb]
 case makeFunc fn first U=>
  have M:first.toList.map ρ=first.toList.map p:=xN λx j=>d x (by simp;exact .inl (by simpa using j))
  have Z:U.toList.map ρ=U.toList.map p:=xN λx j=>d x (by simp;exact y2 (by simpa using j))
  rw[M,Z]
 case unOp op t x=>rw[d x zb]
 case convert t u x=>rw[d x zb]
 case makeInterface t x=>rw[d x zb]
 case typeAssert x t u ok=>rw[d x zb]
 case fieldAddr t x f=>rw[d x zb]
 case field t x f=>rw[d x zb]
 case indexAddr t x Q=>rw[d x zb,d Q zb]
 case index t x Q=>rw[d x zb,d Q zb]
 case extract x i=>rw[d x zb]
 case makeSlice t l k=>rw[d l zb,d k zb]
 case slice t x lo I Y=>
  cases Y with
  |some m=>rfl
  |none=>
   have j:=d x zb;cases lo with
   |none=>cases I with
    |none=>simp only[j]
    |some I=>have M:=d I zb;simp only[j,M]
   |some lo=>
    have V:=d lo zb;cases I with
    |none=>simp only[j,V]
    |some I=>have M:=d I zb;simp only[j,V,M]
 case call k=>
  simp only[Call.operands]at d;have L:k.args.toList.map ρ=k.args.toList.map p:=xN λx j=>d x (by simp;exact y2 (by simpa using j))
  have N:=λb n sz rest=>S k b n sz rest B
  rw[L]at N⊢;cases H:k.callee with
  |value f=>have:=d f (by simp[H]);simp only[this]
  |invoke r m=>rfl
  |builtin b=>
   cases b<;>try rfl
   case copy=>
    have q:∀b g len h rest,k.args.toList.map p=.aY b g len h::rest->blk b=blk' b:=λb g len h rest G=>J b (by simp only[ta,B,H,L,G])
    have A:∀b len O rest,k.args.toList.map p=.bG b len O::rest->blk b=blk' b:=λb len O rest G=>J b (by simp only[ta,B,H,L,G])
    generalize k.args.toList.map p=l at q A
    match l,q,A with
    |[],_,_=>rfl
    |[x],_,_=>cases x<;>rfl
    |x::y::z::r,_,_=>cases x<;>cases y<;>rfl
    |[x,y],q,A=>
     cases x<;>try rfl
     case bG b len O=>
      have e:=A b len O [y] rfl;cases y<;>try rfl
      case row m f T=>
       generalize k.argTypes.toList=K
       match K with
       |[]=>rfl
       |[t]=>rfl
       |[t,E]=>simp only[e]
       |t::E::C::r=>rfl
     case aY b g len h=>
      have e:=q b g len h [y] rfl;cases y<;>try rfl
      case row m f T=>
       generalize k.argTypes.toList=K
       match K with
       |[]=>rfl
       |[t]=>rfl
       |[t,E]=>simp only[e]
       |t::E::C::r=>rfl
   case append=>
    have v:=λb n sz rest=>N b n sz rest H
    have q:∀b g len h rest,k.args.toList.map p=.aY b g len h::rest->blk b=blk' b:=λb g len h rest G=>J b (by simp only[ta,B,H,L,G])
    have A:∀b n sz rest,k.args.toList.map p=.bG b n sz::rest->blk b=blk' b:=λb n sz rest G=>J b (by simp only[ta,B,H,L,G])
    generalize k.args.toList.map p=l at v q A;generalize k.argTypes.toList=K
    match l,K,v,q,A with
    |[],_,_,_,_=>rfl
    |[x],_,_,_,_=>rfl
    |[x,y],[],_,_,_=>cases y<;>rfl
    |[x,y],[t],_,_,_=>cases y<;>rfl
    |[x,y],t::E::C::r,_,_,_=>cases y<;>rfl
    |[x,y],[t,E],v,q,A=>
     cases y<;>try rfl
     case row m f T=>
      cases x with
      |bG b n sz=>
       have e:=A b n sz _ rfl;have e2:=v b n sz _ rfl;simp only[e,e2]
      |row _ full _=>cases full<;>rfl
      |aY b g n h=>have e:=q b g n h _ rfl;simp only[e]
      |_=>rfl
    |x::y::z::r,[],_,_,_=>cases y<;>rfl
    |x::y::z::r,[t],_,_,_=>cases y<;>rfl
    |x::y::z::r,[t,E],_,_,_=>cases y<;>rfl
    |x::y::z::r,t::E::C::r',_,_,_=>cases y<;>rfl
def guard_congr{o:e9}{tmp b:aw->D}(h:∀j want t,o.guard=a6 (j,want)->(e[j]?).bind (·.dst)=a6 t->tmp t=b t):
  l9 e o tmp=l9 e o b:=by
 unfold l9;split;rfl;rename_i j want ops;split;rename_i t d;rw[h j want t ops d];rfl
def Jg{o:e9}{blk blk':aw->bF (ai D)}{bu nst':aw->b5}{nb:aw}{ro l:b5}{gb:aw}{E:Eff}(p:∀x∈o.op.operands.toList,i x=j x)
  (y:∀b,ta o i=a6 b->blk b=blk' b) (h:NM P o i blk bu nb ro gb l=a6 (E,k)) (ρ:∀b cs d,E≠.grow b cs d):NM P o j blk' nst' nb ro gb l=a6 (E,k):=by
 rw[<-h];refine(LR p y λk b n sz g r v t=>False.elim ?_).symm;unfold NM at h;simp only[r,v,t]at h
 repeat' split at h
 all_goals first|(cases h;done)|skip
 all_goals (rename_i q _;first|(simp only[zIq,zJq]at h;exact ρ _ _ _ h.1.symm)|(simp at q;done)|skip)
 all_goals first|(simp only[zIq,zJq]at h;exact ρ _ _ _ h.1.symm)|skip
 all_goals first|(rename_i e _ _ _;simp at e;done)|(simp_all;done)
def Tk{o:e9}{blk blk':aw->bF (ai D)}{bu nst':aw->b5}{nb:aw}{ro e:b5}{gb:aw}(f:∀x∈o.op.operands.toList,i x=j x)
  (h:∀b,ta o i=a6 b->blk b=blk' b) (g:bu=nst'):NM P o i blk bu nb ro gb e=NM P o j blk' nst' nb ro gb e:=
 LR f h λ_ b _ _ _ _ _ _=>by rw[g]
def NL{o:e9}{blk:aw->bF (ai D)}{bu:aw->b5}{nb:aw}{ro p:b5}{gb:aw}(h:NM P o i blk bu nb ro gb p=a6 (.call f b,k))
  {g:aw} {l:ai aw} (e:b.flatMap D.refs=g::l):ta o i=a6 g:=by
 unfold NM at h
 repeat' split at h
 all_goals first|(cases h;done)|skip
 all_goals (simp only[zIq,zJq,Eff.call.injEq]at h)
 rename_i args q _ x ρ _ t first r j
 obtain⟨⟨rfl,rfl⟩,-⟩:=h;obtain⟨d,-⟩:=yt j;unfold ta;simp only[q,ρ];rcases d with⟨d,rfl,rfl⟩|d
 rw[d];simp only[lp,r8]at e⊢;rw[e];rfl;rw[d];simp only at e⊢;rw[aqV,e];rfl
def FW{inl:Inline P Good}{ops:e9}{ro:ai aw}{gb mx:aw}{s s':as0}{blks:ai (bF (ai D))}{ns:ai aw}{r tr':ai (Item P Good)}{R:Rec}
  (M:∀j want t,ops.guard=a6 (j,want)->(e[j]?).bind (·.dst)=a6 t->s.tmp t=s'.tmp t)
  (I:∀x∈ops.op.operands.toList,s.ev x=s'.ev x) (z:∀b,ta ops s.ev=a6 b->s.blk b=s'.blk b)
  (h:pQ P inl e ops ro gb mx s blks ns r=a6 (R,tr',o)) (g:R.plain=bj):pQ P inl e ops ro gb mx s' blks ns r=a6 (R,tr',o):=by
 rw[wz]at h⊢;rw[<-guard_congr M];split at h;rename_i L;split at h;rename_i E T B;split at h;rename_i C O J;split at h;rename_i N G F eqs;simp only[zIq,zJq]at h;obtain⟨rfl,rfl,rfl⟩:=h;have q:fL inl mx s'.blk s'.bu blks ns ops.dst E C=a6 (N,G,F):=by
  cases E with
  |call f args=>
   simp only[fL]at eqs⊢;split at eqs;split at eqs;split at eqs;simp only[zIq,zJq]at eqs;obtain⟨rfl,-,-⟩:=eqs;cases g;cases eqs;rename_i i;rw[ape i];exact eqs;exact eqs;simp only[zIq,zJq]at eqs;obtain⟨rfl,-,-⟩:=eqs;cases g;split at eqs;simp only[zIq,zJq]at eqs;obtain⟨rfl,-,-⟩:=eqs;cases g;cases eqs;rename_i A k;have y:=JI (inl:=inl) (A:=A) (f:=f) (b:=args) (tr':=k) (blk:=s.blk) (blk':=s'.blk) λb l K=>z b (NL B K)
   split at eqs;rename_i i;rw[aph i];split at eqs;rename_i x v;rw[y]at v;rw[v];exact eqs;split at eqs;simp only[zIq,zJq]at eqs;obtain⟨rfl,-,-⟩:=eqs;cases g;split at eqs;split at eqs;simp only[zIq,zJq]at eqs;obtain⟨rfl,-,-⟩:=eqs;cases g;cases eqs;obtain⟨fn,d,blks',ns',S,Q,rfl|⟨rfl,-⟩⟩:=pg eqs<;>cases g;rename_i i;rw[ape i,<-y];exact eqs;cases eqs
  |val d=>exact eqs
  |new b cs d H=>exact eqs
  |store b off U d H=>exact eqs
  |grow b cs d=>exact eqs
 have p:∀b cs d,E≠.grow b cs d:=by rintro b cs d rfl;simp only[fL,zIq,zJq]at eqs;obtain⟨rfl,-,-⟩:=eqs;cases g
 simp only[Jg I z B p,J,q];cases h;cases h;cases h;exact h;cases h
def Rec.isVal:Rec->b5
 |.val _=>bj
 |.new _ _ _ _=>aj
 |.store _ _ _ _ _=>aj
 |.grow _ _ _=>aj
 |.own _=>bj
 |.inl _ _ _=>aj
def MY{inl:Inline P Good}{ops:e9}{ro:ai aw}{gb mx:aw}{s s':as0}{blks:ai (bF (ai D))}{ns:ai aw}{i tr':ai (Item P Good)}{R:Rec}
  (r:∀j want t,ops.guard=a6 (j,want)->(e[j]?).bind (·.dst)=a6 t->s.tmp t=s'.tmp t)
  (p:∀x∈ops.op.operands.toList,s.ev x=s'.ev x) (k:s.blk=s'.blk) (l:s.bu=s'.bu)
  (h:pQ P inl e ops ro gb mx s blks ns i=a6 (R,tr',o)) (v:R.isVal=bj):pQ P inl e ops ro gb mx s' blks ns i=a6 (R,tr',o):=by
 rw[wz]at h⊢;rw[<-guard_congr r];split at h;split at h;rename_i E F y;split at h;rename_i z A q;split at h;rename_i G C B eqs;cases h;have f:∀b cs d,E≠.grow b cs d:=by rintro b cs d rfl;simp only[fL,zIq,zJq]at eqs;obtain⟨rfl,-,-⟩:=eqs;cases v
 have g:=Jg (nst':=s'.bu) p (λb _=>congrFun k b) y f;rw[k,l]at eqs;simp only[g,q,eqs];cases h;cases h;cases h;exact h;cases h
def MZ{inl:Inline P Good}{cs:e9}{ro:ai aw}{gb mx:aw}{s s':as0}{blks:ai (bF (ai D))}{ns:ai aw}{l tr':ai (Item P Good)}{eqs:aw}
  (i:∀j want t,cs.guard=a6 (j,want)->(e[j]?).bind (·.dst)=a6 t->s.tmp t=s'.tmp t)
  (z:∀x∈cs.op.operands.toList,s.ev x=s'.ev x) (B:∀eqs,ta cs s.ev=a6 eqs->s.blk eqs=s'.blk eqs) (v:s.bu=s'.bu)
  (h:pQ P inl e cs ro gb mx s blks ns l=a6 (.grow eqs b d,tr',o)):pQ P inl e cs ro gb mx s' blks ns l=a6 (.grow eqs b d,tr',o):=by
 rw[wz]at h⊢;rw[<-guard_congr i];split at h;split at h;rename_i E N p;split at h;rename_i r G A;split at h;rename_i S M I ops;cases h;rw[Tk z B v]at p;have i:∃eqs b d,E=.grow eqs b d:=by
  cases E with
  |grow eqs b d=>exact⟨eqs,b,d,rfl⟩
  |val k=>
   simp only[fL]at ops;generalize R0 cs.dst k r=q at ops;obtain⟨L,K,J⟩:=q;cases ops
  |new C cs' k y=>simp only[fL]at ops;cases ops
  |store C off O k y=>simp only[fL]at ops;cases ops
  |call f args=>
   exfalso;simp only[fL]at ops;split at ops;split at ops;split at ops;cases ops;cases ops;cases ops;split at ops;cases ops;cases ops;cases ops;split at ops;cases ops;cases ops;split at ops;split at ops;rename_i g;simp only[zIq]at ops;subst ops;rcases rJ g with⟨_,q⟩|⟨_,_,_,q⟩<;>cases q;split at ops;cases ops;split at ops;split at ops;cases ops;cases ops;obtain⟨_,_,_,_,_,_,q|⟨q,-⟩⟩:=pg ops<;>cases q;split at ops;cases ops;split at ops;rename_i g;simp only[zIq]at ops;subst ops;obtain⟨_,_,_,_,_,_,F⟩:=uN g;obtain⟨_,_,_,_,_,q,_⟩:=An F;cases q;split at ops;rename_i g;simp only[zIq]at ops;subst ops;rcases rJ g with⟨_,q⟩|⟨_,_,_,q⟩<;>cases q;obtain⟨_,_,_,_,_,_,q|⟨q,-⟩⟩:=pg ops<;>cases q;cases ops
 obtain⟨Q,H,d1,rfl⟩:=i;simp only[fL]at ops;simp only[p,A,fL,ops];cases h;cases h;cases h;simp only[zIq,zJq]at h;cases h.1;cases h
def dG(o:e9):ai aw:=(o.after.toList.filter λe=>Region.binds .any e).map (·.on)
def VL(acc:ai aw)(ds:ai aw):aw:=ds.foldl (λs d=>s|||(2^d|||y7 acc d 0)) 0
def KC:ai e9->ai aw->ai aw
 |[],acc=>acc
 |o::rest,acc=>KC rest (acc++[VL acc (dG o)])
def L_(acc:ai aw):∀(ds:ai aw)(z k:aw),(ds.foldl (λs d=>s|||(2^d|||y7 acc d 0)) z).testBit k=bj->z.testBit k=bj\/∃d∈ds,k=d\/(y7 acc d 0).testBit k=bj
 |[],z,k,h=>.inl h
 |d::ds,z,k,h=>by
  obtain b|⟨e,he,f⟩:=L_ acc ds _ k h
  rw[Nat.testBit_or,Nat.testBit_or,ap6,ap6]at b;obtain b|b|b:=b
  exact .inl b;rw[Nat.testBit_two_pow]at b;exact y2 ⟨d,by simp,.inl (by simpa using b:d=k).symm⟩;exact y2 ⟨d,by simp,y2 b⟩;exact y2 ⟨e,by simp[he],f⟩
def ael(l:ai e9)(acc:ai aw):Prop:=
 y6 acc<=y6 l/\∀i(h:i<y6 acc)(b:i<y6 l) k,(y7 acc i 0).testBit k=bj->∃d∈dG l[i],k=d\/(d<i/\(y7 acc d 0).testBit k=bj)
def Hj(l:ai e9):∀(rest:ai e9)(pre:ai e9)(acc:ai aw),l=pre++rest->y6 acc=y6 pre->ael l acc->(∀i(h:i<y6 l),∀d∈dG l[i],d<i)->
  ael l (KC rest acc)/\y6 (KC rest acc)=y6 l
 |[],pre,acc,f,hlen,p,_=>⟨p,by rw[f];simpa [KC]using hlen⟩
 |o::rest,pre,acc,f,hlen,p,q=>by
  have v:y6 acc<y6 l:=by rw[f,hlen];simp
  have r:l[y6 acc]=o:=by simp[f,hlen]
  refine Hj l rest (pre++[o]) _ (by rw[f];simp) (by simp[hlen]) ⟨by simp;omega,λi h z k j=>?_⟩ q
  have get:∀d<y6 acc,(acc++[VL acc (dG o)]).getD d 0=y7 acc d 0:=λd e=>by simp[bP,g6 e]
  by_cases t:i<y6 acc
  ·rw[get i t]at j
   obtain⟨d,e,b⟩:=p.2 i t z k j;refine⟨d,e,?_⟩;obtain b|⟨b,y⟩:=b
   ·exact .inl b
   ·exact y2 ⟨b,by rw[get d za];exact y⟩
  ·have:i=y6 acc:=by simp at h;omega
   subst this;have x:(acc++[VL acc (dG o)]).getD (y6 acc) 0=VL acc (dG o):=by simp[bP]
   rw[x]at j;obtain b|⟨d,e,b⟩:=L_ acc _ 0 k j
   ·simp at b
   ·rw[r]
    refine⟨d,e,?_⟩;obtain b|b:=b
    ·exact .inl b
    ·have g:=q (y6 acc) v d (by rw[r];exact e)
     exact y2 ⟨g,by rw[get d g];exact b⟩
def Ci{l:ai e9}{acc:ai aw}(p:ael l acc)(f:y6 acc=y6 l){L:aw->b5}(o:∀j(h:j<y6 l),L j=bj->∀d∈dG l[j],L d=bj):∀i(h:i<y6 l),(∀d∈dG l[i],L d=bj)->∀k,(y7 acc i 0).testBit k=bj->L k=bj:=by
 intro i;induction i using p0 with
 |_ i q=>
  intro h e k r;obtain⟨d,g,b⟩:=p.2 i za h k r;obtain b|⟨b,t⟩:=b
  rw[b];exact e d g;exact q d b za (o d za (e d g)) k t
def Rec.dy:Rec->aw->b5
 |.new d _ _ _,b=>d==b
 |.val _,_=>aj
 |.store _ _ _ _ _,_=>aj
 |.grow _ _ _,_=>aj
 |.own _,_=>aj
 |.inl _ _ _,_=>aj
def Rec.cR:Rec->aw->b5
 |.store d _ _ _ _,b=>d==b
 |.val _,_=>aj
 |.new _ _ _ _,_=>aj
 |.grow _ _ _,_=>aj
 |.own _,_=>aj
 |.inl _ _ _,_=>aj
def Rec.abm:Rec->aw->b5
 |.new e _ _ d,b=>d&&(b==e)
 |.store e _ _ _ d,b=>d&&(b==e)
 |_,_=>aj
def Rec.cs:Rec->ai D
 |.new _ cs _ _=>cs
 |_=>[]
def Rec.stored:Rec->ai D->ai D
 |.store _ off ds _ _,cs=>aE cs off ds
 |_,cs=>cs
def sL(s0:as0)(n m:aw)(dst:aw->bF Tmp)(R:aw->Rec)(L:aw->b5):as0 where
 tmp:=λt=>match(ch m).find? (λj=>L j&&(dst j==a6 t&&c3 t n))with
  |some j=>(R j).put
  |none=>s0.tmp t
 blk:=λb=>
  let base:=match(ch m).find? (λj=>L j&&(R j).dy b)with
   |some j=>a6 (R j).cs
   |none=>s0.blk b
  (ch m).foldl (λc j=>if L j&&(R j).cR b then c.map (R j).stored else c) base
 bu:=λb=>s0.bu b||(ch m).any λj=>L j&&(R j).abm b
def adR{m i:aw}{L p:aw->b5}(f:i<m):((ch m).any λj=>(L j||j==i)&&p j)=(((ch m).any λj=>L j&&p j)||p i):=by
 rw[aqf,ap6,arj,arj];constructor;rintro⟨j,d,h⟩;rw[zLq,ap6]at h;rcases h with⟨b|b,e⟩
 exact .inl ⟨j,d,by rw[b,e];rfl⟩;rw[ec]at b;subst b;exact y2 e;rintro(⟨j,d,h⟩|h);rw[zLq]at h;exact⟨j,d,by rw[h.1,h.2];rfl⟩;exact⟨i,by simpa using f,by rw[h];simp⟩
def any_congr{m:aw}{p q:aw->b5}(h:∀j<m,p j=q j):(ch m).any p=(ch m).any q:=by rw[aqf,arj,arj];constructor;rintro⟨j,b,e⟩;exact⟨j,b,by rw[<-h j (by simpa using b)];exact e⟩;rintro⟨j,b,e⟩;exact⟨j,b,by rw[h j (by simpa using b)];exact e⟩
def E5{m:aw}{p:aw->b5}{i:aw}(d:i<m)(b:p i=bj)(hu:∀j<m,p j=bj->j=i):(ch m).find? p=a6 i:=by
 cases h:(ch m).find? p with
 |none=>
  have:=arB.1 h i (by simpa using d);exact api b this
 |some j=>
  have f:=aqA h;have e:=aro h;rw[hu j (by simpa using f) e]
def AH{m:aw}{p:aw->b5}(h:∀j<m,p j=aj):(ch m).find? p=bk:=by rw[arB];intro x b;rw[h x (by simpa using b)];simp
def find_congr{m:aw}{p q:aw->b5}(h:∀j<m,p j=q j):(ch m).find? p=(ch m).find? q:=by
 have:∀l:ai aw,(∀j∈l,p j=q j)->l.find? p=l.find? q:=by
  intro l d;induction l with
  |nil=>rfl
  |cons x l e=>simp only[List.find?_cons,d x zb,e (λj b=>d j (by simp[b]))]
 exact this _ λj b=>h j (by simpa using b)
def fold_congr{α:Type}{m:aw}{p q:aw->b5}{f:aw->α->α}{x:α}(h:∀j<m,p j=q j):
  (ch m).foldl (λc j=>if p j then f j c else c) x=(ch m).foldl (λc j=>if q j then f j c else c) x:=by
 induction m with
 |zero=>rfl
 |succ m b=>
  rw[aq1,aqK,aqK,b λj d=>h j za];simp only[lr,su,h m za]
def LL{α:Type}{m:aw}{p:aw->b5}{f:aw->α->α}{x:α}(h:∀j<m,p j=aj):(ch m).foldl (λc j=>if p j then f j c else c) x=x:=by
 induction m with
 |zero=>rfl
 |succ m b=>
  rw[aq1,aqK,b λj d=>h j za];simp only[lr,su,h m za];rfl
def XO{α:Type}{m i:aw}{p q:aw->b5}{f:aw->α->α}{x:α}(v:i<m)(o:p i=aj)(g:∀j<m,p j=bj->j<i)(b:∀j,q j=(p j||j==i)):
  (ch m).foldl (λc j=>if q j then f j c else c) x=f i ((ch m).foldl (λc j=>if p j then f j c else c) x):=by
 induction m with
 |zero=>omega
 |succ m l=>
  rw[aq1,aqK,aqK];simp only[lr,su];obtain h|h:=apy i m
  ·rw[l h λj r d=>g j za d]
   have k:p m=aj:=by
    cases t:p m with
    |false=>rfl
    |true=>have:=g m za t;omega
   have e:q m=aj:=by
    rw[b,k];have:(m==i)=aj:=by rw[c4];omega
    rw[this];rfl
   rw[k,e];rfl
  ·have:i=m:=za
   subst this;have e:q i=bj:=by rw[b];simp
   rw[e,o];have:(ch i).foldl (λc j=>if q j then f j c else c) x=(ch i).foldl (λc j=>if p j then f j c else c) x:=fold_congr λj r=>by
    rw[b];have:(j==i)=aj:=by rw[c4];omega
    rw[this,ia]
   rw[this];rfl
def NF{m:aw}{p:aw->b5}{f:aw->ai D->ai D}:(ch m).foldl (λc j=>if p j then Option.map (f j) c else c) bk=bk:=by
 induction m with
 |zero=>rfl
 |succ m b=>
  rw[aq1,aqK,b];simp only[lr,su,Option.map_none];split<;>rfl
structure J0(s0:as0)(m:aw)(dst:aw->bF Tmp)(reads:aw->Tmp->b5)(R:aw->Rec)(acc:aw->bF aw)(jZ:aw->aw->b5):Prop where
 Yp:∀i j t,i<m->j<m->dst i=a6 t->dst j=a6 t->i=j
 aku:∀i j b,i<m->j<m->(R i).cR b=bj->(R j).cR b=bj->i=j\/(jZ i j=bj/\j<i)\/(jZ j i=bj/\i<j)
 agF:∀i j b,i<m->j<m->(R i).dy b=bj->(R j).dy b=bj->i=j
 akv:∀i b,i<m->(R i).dy b=bj->s0.blk b=bk
 Jv:∀i j t,i<m->j<m->reads i t=bj->dst j=a6 t->j=i\/jZ i j=bj\/jZ j i=bj
 agE:∀i j b,i<m->j<m->acc i=a6 b->(R j).cR b=bj->j=i\/jZ i j=bj\/jZ j i=bj
 ahS:∀i j b,i<m->j<m->acc i=a6 b->(R j).dy b=bj->jZ i j=bj
 ao0:∀i b,i<m->(R i).cR b=bj->acc i=a6 b
 Jw:∀i<m,(R i).plain=bj
section step
variable {s0:as0} {m:aw} {dst:aw->bF Tmp} {reads:aw->Tmp->b5} {R:aw->Rec} {acc:aw->bF aw} {jZ:aw->aw->b5}
def Z0(ok:J0 s0 m dst reads R acc jZ){L:aw->b5}{i:aw}(r:i<m)(E:L i=aj)(N:∀j<m,L j=bj->∀k,jZ j k=bj->L k=bj):
  (sL s0 n m dst R L).app n (dst i) (R i)=sL s0 n m dst R (λj=>L j||j==i):=by
 have B:∀t,(sL s0 n m dst R (λj=>L j||j==i)).tmp t=if dst i=a6 t/\t<n then(R i).put else(sL s0 n m dst R L).tmp t:=by
  intro t;simp only[sL];by_cases C:dst i=a6 t/\t<n
  ·have G:(ch m).find? (λj=>(L j||j==i)&&(dst j==a6 t&&c3 t n))=a6 i:=E5 r (by simp[C.1,C.2]) (λj l o=>by
    simp only[zLq,ec]at o;exact(ok.Yp i j t r l C.1 o.2.1).symm)
   rw[aph C,G]
  ·rw[ape C]
   congr 1
   refine find_congr λj l=>?_
   by_cases h:j=i
   ·subst h
    have:(dst j==a6 t&&c3 t n)=aj:=by
     rw[asn];by_cases D:dst j=a6 t
     ·right
      have y:¬t<n:=λy=>C ⟨D,y⟩
      cases v:c3 t n with
      |false=>rfl
      |true=>rw[apZ]at v;exact api v y
     ·left;simpa using D
    rw[this];simp
   ·have x:(j==i)=aj:=by simpa using h
    simp only[x,ia]
 have M:∀b,(R i).dy b=aj->(R i).cR b=aj->(sL s0 n m dst R (λj=>L j||j==i)).blk b=(sL s0 n m dst R L).blk b:=by
  intro b D y;simp only[sL];have I:(ch m).find? (λj=>(L j||j==i)&&(R j).dy b)=(ch m).find? (λj=>L j&&(R j).dy b):=find_congr λj l=>by
   by_cases h:j=i
   ·subst h;rw[D];simp
   ·have x:(j==i)=aj:=by simpa using h
    simp only[x,ia]
  rw[I];exact fold_congr λj l=>by
   by_cases h:j=i
   ·subst h;rw[y];simp
   ·have x:(j==i)=aj:=by simpa using h
    simp only[x,ia]
 have A:∀b,(sL s0 n m dst R (λj=>L j||j==i)).bu b=((sL s0 n m dst R L).bu b||(R i).abm b):=by
  intro b;simp only[sL];rw[adR r,Bool.or_assoc]
 cases g:R i with
 |grow b cs d=>have:=ok.Jw i r;rw[g]at this;cases this
 |own d=>have:=ok.Jw i r;rw[g]at this;cases this
 |inl bl nl d=>have:=ok.Jw i r;rw[g]at this;cases this
 |val d=>
  have D:∀b,(R i).dy b=aj:=λb=>by rw[g];rfl
  have y:∀b,(R i).cR b=aj:=λb=>by rw[g];rfl
  have:(sL s0 n m dst R (λj=>L j||j==i))=⟨(sL s0 n m dst R (λj=>L j||j==i)).tmp,(sL s0 n m dst R (λj=>L j||j==i)).blk,(sL s0 n m dst R (λj=>L j||j==i)).bu⟩:=rfl
  rw[this];simp only[as0.app,as0.put];congr 1
  ·funext t;rw[B t,g];rfl
  ·funext b;rw[M b (D b) (y b)]
  ·funext b;rw[A b,g];simp[Rec.abm]
 |new z cs d S=>
  have K:∀j<m,(L j||j==i)=bj->(R j).cR z=aj:=by
   intro j l H;cases F:(R j).cR z with
   |false=>rfl
   |true=>
    have U:=ok.ao0 j z l F;have Q:=ok.ahS j i z l r U (by rw[g];simp[Rec.dy])
    by_cases h:j=i
    ·subst h;rw[g]at F;simp[Rec.cR]at F
    ·have J:L j=bj:=by simpa [h]using H
     have:=N j l J i Q;rw[E]at this;cases this
  have:(sL s0 n m dst R (λj=>L j||j==i))=⟨(sL s0 n m dst R (λj=>L j||j==i)).tmp,(sL s0 n m dst R (λj=>L j||j==i)).blk,(sL s0 n m dst R (λj=>L j||j==i)).bu⟩:=rfl
  rw[this];simp only[as0.app,as0.put,as0.bO];congr 1
  ·funext t;rw[B t,g];rfl
  ·funext b
   by_cases v:b=z
   ·subst v
    rw[aph rfl];have G:(ch m).find? (λj=>(L j||j==i)&&(R j).dy b)=a6 i:=E5 r (by simp[g,Rec.dy]) (λj l o=>by
     simp only[zLq]at o;exact(ok.agF i j b r l (by rw[g];simp[Rec.dy]) o.2).symm)
    simp only[sL,G,g];rw[LL (λj l=>by
      cases T:(L j||j==i)with
      |false=>rfl
      |true=>simp[K j l T])]
    rfl
   ·rw[ape v,M b (by rw[g];simp[Rec.dy,Ne.symm v]) (by rw[g];rfl)]
  ·funext b;rw[A b,g];rfl
 |store z off V d S=>
  have:(sL s0 n m dst R (λj=>L j||j==i))=⟨(sL s0 n m dst R (λj=>L j||j==i)).tmp,(sL s0 n m dst R (λj=>L j||j==i)).blk,(sL s0 n m dst R (λj=>L j||j==i)).bu⟩:=rfl
  rw[this];simp only[as0.app,as0.put,as0.bO];congr 1
  ·funext t;rw[B t,g];rfl
  ·funext b
   by_cases v:b=z
   ·subst v
    rw[aph rfl];have O:∀j<m,(L j&&(R j).cR b)=bj->j<i:=by
     intro j l o;rw[zLq]at o;rcases ok.aku i j b r l (by rw[g];simp[Rec.cR]) o.2 with e|⟨-,e⟩|⟨e,-⟩
     ·subst e;rw[E]at o;cases o.1
     ·exact e
     ·have:=N j l o.1 i e
      rw[E]at this;cases this
    have I:(ch m).find? (λj=>(L j||j==i)&&(R j).dy b)=(ch m).find? (λj=>L j&&(R j).dy b):=find_congr λj l=>by
     by_cases h:j=i
     ·subst h;rw[g];simp[Rec.dy]
     ·have x:(j==i)=aj:=by simpa using h
      simp only[x,ia]
    simp only[sL,I];rw[XO (p:=λj=>L j&&(R j).cR b) (q:=λj=>(L j||j==i)&&(R j).cR b) (f:=λj c=>Option.map (R j).stored c) r (by simp[E]) O (λj=>by
     by_cases h:j=i
     ·subst h;rw[g];simp[Rec.cR]
     ·have x:(j==i)=aj:=by simpa using h
      simp only[x,ia])]
    rw[g];rfl
   ·rw[ape v,M b (by rw[g];rfl) (by rw[g];simp[Rec.cR,Ne.symm v])]
  ·funext b;rw[A b,g];rfl
def aiy(ok:J0 s0 m dst reads R acc jZ){L L':aw->b5}{i:aw}(v:i<m)(l:L i=aj)(b:L' i=aj)
  (r:∀k,jZ i k=bj->L k=bj) (p:∀k,jZ i k=bj->L' k=bj)
  (o:∀j<m,L j=bj->∀k,jZ j k=bj->L k=bj) (f:∀j<m,L' j=bj->∀k,jZ j k=bj->L' k=bj) {t:Tmp} (q:reads i t=bj):
  (sL s0 n m dst R L).tmp t=(sL s0 n m dst R L').tmp t:=by
 simp only[sL];congr 1;refine find_congr λj e=>?_
 by_cases g:dst j=a6 t;obtain rfl|h|h:=ok.Jv i j t v e q g
 rw[l,b];rw[r j h,p j h];have y:L j=aj:=by
  cases d:L j with
  |false=>rfl
  |true=>have:=o j e d i h;rw[l]at this;cases this
 have x:L' j=aj:=by
  cases d:L' j with
  |false=>rfl
  |true=>have:=f j e d i h;rw[b]at this;cases this
 rw[y,x];have:(dst j==a6 t)=aj:=by simpa using g
 rw[this];simp
def aiz(ok:J0 s0 m dst reads R acc jZ){L L':aw->b5}{i:aw}(p:i<m)(r:L i=aj)(f:L' i=aj)
  (o:∀k,jZ i k=bj->L k=bj) (l:∀k,jZ i k=bj->L' k=bj)
  (t:∀j<m,L j=bj->∀k,jZ j k=bj->L k=bj) (g:∀j<m,L' j=bj->∀k,jZ j k=bj->L' k=bj) {b:aw} (q:acc i=a6 b):
  (sL s0 n m dst R L).blk b=(sL s0 n m dst R L').blk b:=by
 have y:(ch m).find? (λj=>L j&&(R j).dy b)=(ch m).find? (λj=>L' j&&(R j).dy b):=find_congr λj e=>by
  cases d:(R j).dy b with
  |false=>simp
  |true=>have:=ok.ahS i j b p e q d;rw[o j this,l j this]
 simp only[sL];rw[y];exact fold_congr λj e=>by
  cases d:(R j).cR b with
  |false=>simp
  |true=>
   obtain rfl|h|h:=ok.agE i j b p e q d
   rw[r,f];rw[o j h,l j h];have x:L j=aj:=by
    cases d:L j with
    |false=>rfl
    |true=>have:=t j e d i h;rw[r]at this;cases this
   have v:L' j=aj:=by
    cases d:L' j with
    |false=>rfl
    |true=>have:=g j e d i h;rw[f]at this;cases this
   rw[x,v]
def ZZ(ok:J0 s0 m dst reads R acc jZ){L:aw->b5}{i b:aw}(d:i<m)(h:L i=aj)(e:(R i).dy b=bj):(sL s0 n m dst R L).blk b=bk:=by
 have k:(ch m).find? (λj=>L j&&(R j).dy b)=bk:=AH λj g=>by
  cases f:(R j).dy b with
  |false=>simp
  |true=>have:=ok.agF j i b g d f e;subst this;rw[h];rfl
 simp only[sL];rw[k,ok.akv i b d e];exact NF
end step
end Lw
