/- Part 2. -/
import Derived.Test.YtmcpfihkambgnaaGreatLs01
import Derived.KernelRfl
import Derived.Test.YtmcpfihkambgnaaGreatProg
set_option maxHeartbeats 2000000
set_option linter.all false
open Option renaming some->a6,none->bk,map_some->dm
open _root_ renaming List->ai,Nat->aw,Bool->b5,Option->bF,beq_eq_false_iff_ne->c4,Int->cA,decide_eq_true_eq->cm,Array->eY,beq_iff_eq->ec,if_true->gn,beq_self_eq_true->gp,if_false->jv,bne_iff_ne->kE
open Bool renaming false->aj,true->bj,false_eq_true->cy,not_eq_true'->fV,or_eq_true->hO,or_false->ia,false_and->im,not_true->kn,false_or->pT
open Go renaming Value->b3,World->bn,FuncId->c7,Program->cp,Oper->e9,undef->fg,Func->kf,maxLen->lj,callsIn_wide->n2,callsIn_of_wp->oi,wpIn_loop_ghost->rX,Exit->sx,Calls->vx
open Go.IntKind renaming wrap->bJ,bits->cn,signed->rb
open List renaming getD_eq_getElem?_getD->bP,replicate->cd,range->ch,mem_singleton->dc,map_cons->eZ,length_cons->ey,getElem?_append_left->g6,all_eq_true->gv,getD_cons_succ->iz,getElem?_eq_none->jy,mem_filterMap->kN,getD_cons_zero->kt,mem_map->ky,map->m4,length_drop->m6,isEmpty_iff->na,getElem?_cons_succ->nr,mem_append->p5,getElem?_map->qW,length_singleton->rj,map_map->sj,drop_zero->sv,headD_eq_head?_getD->uo,length->y6,getD->y7
open Nat renaming blt->c3,ble->hM,beq->ml,blt_eq->n4,add_zero->n5,mul_left_comm->om,strongRecOn->p0,mul_assoc->px,mul_comm->qH,ble_eq->qc,mul_one->qg,div_one->ql,zero_add->qq,testBit_two_pow_sub_one->sa,sub_zero->si,mod_mul_right_div_self->so,add_mul->tm,exists_eq_add_of_le->u3,add_comm->vT
open BitVec renaming ofInt->di,ofInt_natCast->rL,toNat_ofNat->sy
open Go.Fence renaming wide->eD
open Option.some renaming injEq->eE
open List.cons renaming injEq->en
open Int renaming toNat->ga,toNat_natCast->mm
open Prod.mk renaming injEq->gu
open Array renaming getD_eq_getD_getElem?->hZ,replicate->jj,getD->ru
open Go.Result renaming andThen_ok->ie
open Go.Sem renaming run_bind->kl,run_pure->n3
open Go.Region renaming ready->oB
open Go.Ending renaming returned->og
open Lw.Item renaming call->z3,prop->yu
open Lw.D renaming row->yI,lit->yT,ptr->y0,agg->y4
open Or renaming inl->y1,inr->y2
open Lw.iw renaming normal->y3,exit->y5
open Option renaming some.injEq->zIq
open Prod renaming mk.injEq->zJq
open Bool renaming and_eq_true->zLq
open Int renaming ofNat->zNq
open Int renaming ofNat_eq_natCast->zKq
open Go.Proofs.Tryz renaming prog->zZq
open Go.Proofs.Tryz
namespace Lw
open Go Go.RowKit
variable {P:cp} {Good:bn->Prop}
def dI(ops:eY e9)(o:e9):ai Tmp:=
 (o.op.operands.toList.filterMap λ|.tmp t=>a6 t|_=>bk)++
  match o.guard with
  |some (j,_)=>((ops[j]?).bind (·.dst)).toList
  |none=>[]
structure Info where
 ix:aw
 dst:bF Tmp
 reads:ai Tmp
 rc:Rec
 acc:bF aw
 jZ:aw
def infos(ops:eY e9):aw->ai e9->ai (Rec×bF aw)->ai aw->ai Info
 |i,o::l,r::rs,k::a=>⟨i,o.dst,dI ops o,r.1,r.2,k⟩::infos ops (i+1) l rs a
 |_,_,_,_=>[]
def Info.lone(a:aw)(x:Info):b5:=
 match x.rc with
 |.new b _ _ _=>hM a b
 |.store b _ _ _ _=>x.acc==a6 b
 |.val _=>bj
 |.grow _ _ _=>aj
 |.own _=>aj
 |.inl _ _ _=>aj
def Info.pair(x y:Info):b5:=
  (x.ix==y.ix||
    ((match x.dst with|some t=>!(y.dst==a6 t)|none=>bj)&&
     (match x.rc with|.store b _ _ _ _=>!(y.rc.cR b)||((x.jZ.testBit y.ix&&c3 y.ix x.ix)||(y.jZ.testBit x.ix&&c3 x.ix y.ix))|.new b _ _ _=>!(y.rc.dy b)|_=>bj)))&&
  ((match y.dst with|some t=>!(x.reads.contains t)|none=>bj)||(y.ix==x.ix||(x.jZ.testBit y.ix||y.jZ.testBit x.ix)))&&
  (match x.acc with
    |some b=>(!(y.rc.cR b)||(y.ix==x.ix||(x.jZ.testBit y.ix||y.jZ.testBit x.ix)))&&(!(y.rc.dy b)||x.jZ.testBit y.ix)
    |none=>bj)
def V7:aw->ai e9->b5
 |_,[]=>bj
 |i,o::l=>(dG o).all (λd=>c3 d i)&&V7 (i+1) l
def Dk(p:Info->b5):ai Info->aw
 |[]=>0
 |x::l=>if p x then Dk p l+1 else 0
def Info.N9(x:Info):b5:=ml x.jZ (2^x.ix-1)
def E'(ops:eY e9)(b:aw)(l:ai e9)(a:ai (Rec×bF aw)):b5:=
 let xs:=infos ops 0 l a (KC l [])
 let m:=Dk (Info.lone b) xs
 V7 0 l&&(((xs.take m).all λx=>(xs.take m).all λy=>x.pair y)&&(xs.drop m).all Info.N9)
def IS(p:Info->b5):∀l,Dk p l<=y6 l
 |[]=>apc _
 |x::l=>by have:=IS p l;unfold Dk;split;simp only[ey];omega;exact apJ _
def IQ(p:Info->b5):∀(l:ai Info)(j:aw)(x:Info),j<Dk p l->l[j]? =a6 x->p x=bj
 |[],j,x,h,e=>by cases e
 |y::l,j,x,h,e=>by
  unfold Dk at h;split at h;rename_i a;cases j with
  |zero=>simp only[List.getElem?_cons_zero,zIq]at e;rw[<-e];exact a
  |succ j=>exact IQ p l j x za (by simpa using e)
  omega
def Du{ops:eY e9}:∀(i:aw)(l:ai e9)(rs:ai (Rec×bF aw))(a:ai aw),y6 rs=y6 l->y6 a=y6 l->∀j(h:j<y6 l),
  (infos ops i l rs a)[j]? =a6 ⟨i+j,l[j].dst,dI ops l[j],(y7 rs j (.val .any,bk)).1,(y7 rs j (.val .any,bk)).2,y7 a j 0⟩
 |i,[],rs,a,_,_,j,h=>api h zb
 |i,o::l,[],a,c,_,j,h=>by simp at c
 |i,o::l,r::rs,[],_,b,j,h=>by simp at b
 |i,o::l,r::rs,k::a,c,b,j,h=>by
  cases j with
  |zero=>simp[infos]
  |succ j=>
   have:=Du (ops:=ops) (i+1) l rs a (by simpa using c) (by simpa using b) j (by simpa using h);simp only[infos,nr];simpa [arf,aqF 1 j]using this
def ET{ops:eY e9}:∀(i:aw)(l:ai e9)(rs:ai (Rec×bF aw))(a:ai aw),y6 rs=y6 l->y6 a=y6 l->y6 (infos ops i l rs a)=y6 l
 |i,[],rs,a,_,_=>by simp[infos]
 |i,o::l,[],a,c,_=>by simp at c
 |i,o::l,r::rs,[],_,b=>by simp at b
 |i,o::l,r::rs,k::a,c,b=>by simp only[infos,ey];rw[ET (i+1) l rs a (by simpa using c) (by simpa using b)]
def GK:∀(i:aw)(l:ai e9),V7 i l=bj->∀j(h:j<y6 l),∀d∈dG l[j],d<i+j
 |i,[],_,j,h=>api h zb
 |i,o::l,a,j,h=>by
  simp only[V7,zLq,gv,n4]at a;cases j with
  |zero=>intro d b;exact a.1 d b
  |succ j=>intro d b;have:=GK (i+1) l a.2 j (by simpa using h) d b;omega
def adg{l:ai aw}{p q:aw->b5}{i:aw}(o:i∈l)(d:p i=bj)(b:q i=aj)(h:∀j∈l,q j=bj->p j=bj):l.countP q<l.countP p:=by
 induction l with
 |nil=>cases o
 |cons x l r=>
  have hle:l.countP q<=l.countP p:=aso λj e c=>h j (apX _ e) c
  by_cases k:x=i;subst k;rw[List.countP_cons_of_neg (by rw[b];simp),List.countP_cons_of_pos d];omega;have f:i∈l:=by
   obtain g|g:=apo.1 o
   exact api g.symm k;exact g
  have:=r f λj e c=>h j (apX _ e) c
  rw[ark,ark];by_cases a:q x=bj;rw[aph a,aph (h x zb a)];omega;rw[ape a];omega
def mh(n:aw)(s:as0)(dst:aw->bF Tmp)(R:aw->Rec):aw->as0
 |0=>s
 |i+1=>(mh n s dst R i).app n (dst i) (R i)
def FN(n:aw)(s:as0)(dst:aw->bF Tmp)(R:aw->Rec)(i:aw):mh n s dst R (i+1)=mh n (s.app n (dst 0) (R 0)) (λj=>dst (j+1)) (λj=>R (j+1)) i:=by
 induction i with
 |zero=>rfl
 |succ i a=>rw[mh,a];rfl
def u_{dr:b5}{inl:Inline P Good}{ops:eY e9}{ro:ai aw}{gb:aw}:∀(l:ai e9)(s s':St)(d tr':ai (Item P Good))(eqs:ai (cY×cY))(c:ai (Rec×bF aw)),
   me P inl dr ops ro gb l s d=a6 (s',tr',eqs,c)->jU eqs->
   y6 c=y6 l/\s'.fs=mh (y6 s.tmps) s.fs (λj=>(l[j]?).bind (·.dst)) (λj=>(y7 c j (.val .any,bk)).1) (y6 l)/\
   ∀i(h:i<y6 l),∃(b:St)(Gm f:ai (Item P Good))(e:ai (cY×cY)),
    pQ P inl ops l[i] ro gb (mxA dr gb b) b.fs b.blks b.bu Gm=a6 ((y7 c i (.val .any,bk)).1,f,e)/\jU e/\(y7 c i (.val .any,bk)).2=ta l[i] b.fs.ev/\
    b.fs=mh (y6 s.tmps) s.fs (λj=>(l[j]?).bind (·.dst)) (λj=>(y7 c j (.val .any,bk)).1) i/\y6 b.tmps=y6 s.tmps
 |[],s,s',d,tr',eqs,c,a,he=>by simp only[me,zIq,zJq]at a;obtain⟨rfl,rfl,rfl,rfl⟩:=a;exact⟨rfl,rfl,λi h=>api h zb⟩
 |o::rest,s,s',d,tr',eqs,c,a,he=>by
  simp only[me]at a;split at a;rename_i R q r g;split at a;rename_i s2 H G D z;simp only[zIq,zJq]at a;obtain⟨rfl,rfl,rfl,rfl⟩:=a;obtain⟨E,F⟩:=he.append;obtain⟨C,B⟩:=wA g;obtain⟨A,p,k⟩:=u_ rest _ _ _ _ _ _ z F;rw[B,C]at p k;refine⟨by simp[A],?_,λi y=>?_⟩;rw[p];show _=mh _ _ _ _ (y6 rest+1);rw[FN];rfl;cases i with
  |zero=>exact⟨s,d,q,r,g,E,rfl,rfl,rfl⟩
  |succ i=>
   obtain⟨b,Gm,f,e,x,w,v,u,t⟩:=k i (by simpa using y);refine⟨b,Gm,f,e,x,w,v,?_,t⟩;rw[u,FN];rfl
  cases a;cases a
def E_{c:Ctx}{Q:sx->Act->bn->Prop}{id:aw}{ops:eY e9}{l:ai e9}(hl:ops.toList=l){s:St}{U:as0}{dst:aw->bF Tmp}{R:aw->Rec}{A:ai aw}{m:aw}(hml:m<=l.length)
  (hm:c.P.follows .mixedOrders=bj) (qf:∀i(h:i<l.length),∀d∈dG l[i],d<i)
  (uB:∀(L:aw->b5),(∀j(h:j<l.length),L j=bj->∀d∈dG l[j],L d=bj)->∀i(h:i<l.length),(∀d∈dG l[i],L d=bj)->∀k,(A.getD i 0).testBit k=bj->L k=bj)
  (Ay:∀j(_:m<=j)(_:j<l.length),∀k<j,(A.getD j 0).testBit k=bj)
  (F:(aw->b5)->as0) (Fi:∀L L':aw->b5,(∀j<m,L j=L' j)->F L=F L')
  (Np:∀i≤m,mh s.tmps.length s.fs dst R i=F (λj=>c3 j i))
  (S8:U=mh s.tmps.length s.fs dst R l.length)
  (P7:∀(L:aw->b5)(i:aw)(_:i<m)(x:i<l.length),L i=aj->(∀j(h:j<l.length),L j=bj->∀d∈dG l[j],L d=bj)->(∀d∈dG l[i],L d=bj)->
   ∀(a:Act)(w:bn),Rel c s.tmps.length (F L) a w->∀K:Act->bn->Prop,
   (∀f w',Rel c s.tmps.length (F (λj=>L j||j==i)) f w'->K f w')->wpOpIn (Fw c.rd) 0 c.P ops Q i K a w)
  (IZ:∀(i:aw)(_:i<l.length)(a:Act)(w:bn),Rel c s.tmps.length (mh s.tmps.length s.fs dst R i) a w->∀K:Act->bn->Prop,
   (∀f w',Rel c s.tmps.length (mh s.tmps.length s.fs dst R (i+1)) f w'->K f w')->wpOpIn (Fw c.rd) 0 c.P ops Q i K a w)
  {a:Act} {w:bn} (h:Rel c s.tmps.length s.fs a w) (hQ:∀f w',Rel c s.tmps.length U f w'->Q .normal f w'):(Code.region id ops bj).wpIn (Fw c.rd) 0 c.P Q a w:=by
 have GA:∀i:aw,ops[i]? =l[i]? :=λi=>by rw[<-hl];simp
 have F8:ops.size=l.length:=by rw[<-hl];simp
 let y:eY b5->Act->bn->Prop:=λlisted a w=>
  ((∀j,m<=j->j<l.length->listed.getD j aj=aj)/\Rel c s.tmps.length (F (λj=>listed.getD j aj)) a w)\/
  (∃t,m<=t/\t<=l.length/\(∀j<l.length,listed.getD j aj=c3 j t)/\Rel c s.tmps.length (mh s.tmps.length s.fs dst R t) a w)
 have main:∀(fuel:aw)(listed:eY b5)(a:Act)(w:bn),listed.size=l.length->
   (∀j(h:j<l.length),listed.getD j aj=bj->∀d∈dG l[j],listed.getD d aj=bj)->(ch l.length).countP (λj=>!listed.getD j aj)<=fuel->
   y listed a w->wpAnyIn (Fw c.rd) 0 c.P .any ops Q fuel listed a w:=by
  intro fuel;have full:∀(listed:eY b5)(a:Act)(w:bn),(∀i<l.length,listed.getD i aj=bj)->y listed a w->Q .normal a w:=by
   intro listed a w N Z;refine hQ a w ?_;rw[S8];rcases Z with⟨C,B⟩|⟨t,C,B,E,h4⟩
   ·have Qc:m=l.length:=by
     obtain h|h:=apy m l.length
     ·have:=C m (apc _) h
      rw[N m h]at this;cases this
     ·omega
    rw[<-Qc,Np m (apc _),Fi (λj=>c3 j m) (λj=>listed.getD j aj) λj b=>by rw[N j za,apZ];exact b]
    exact B
   ·have ht2:t=l.length:=by
     obtain h|h:=apy t l.length
     ·have:=E t h
      rw[N t h]at this;have h5:c3 t t=bj:=this.symm;rw[apZ]at h5;omega
     ·omega
    rw[<-ht2];exact h4
  have done:∀(listed:eY b5)(a:Act)(w:bn),listed.size=l.length->oB .any ops listed=[]->
    y listed a w->Q .normal a w:=by
   intro listed a w O I H;refine full listed a w ?_ H;intro i;induction i using p0 with
   |_ i ih=>
    intro x;cases u:listed.getD i aj with
    |true=>rfl
    |false=>
     have:i∈oB .any ops listed:=by
      rw[mem_ready];refine⟨?_,l[i],by rw[GA];simp[x],λe he' hb=>?_⟩
      ·have:i<listed.size:=za
       simp[ru,this]at u⊢;exact u
      ·have z:e.on∈dG l[i]:=by
        simp only[dG,ky,List.mem_filter];exact⟨e,⟨by simpa using he',hb⟩,rfl⟩
       exact ih e.on (qf i x _ z) (by have:=qf i x _ z;omega)
     rw[I]at this;cases this
  induction fuel with
  |zero=>
   intro listed a w O Y aoj H;have N:∀i<l.length,listed.getD i aj=bj:=λi x=>by
    cases u:listed.getD i aj with
    |true=>rfl
    |false=>
     have:0<(ch l.length).countP (λj=>!listed.getD j aj):=List.countP_pos_iff.2 ⟨i,by simpa using x,by rw[u];rfl⟩
     omega
   have I:oB .any ops listed=[]:=by
    cases u:oB .any ops listed with
    |nil=>rfl
    |cons i r=>
     have:i∈oB .any ops listed:=by rw[u];simp
     rw[mem_ready]at this;obtain⟨C,o,B,_⟩:=this;have x:i<l.length:=by rw[GA]at B;exact(aqS.1 B).1
     have E:=N i x;have:i<listed.size:=za
     simp[ru,this]at C E;rw[C]at E;cases E
   exact⟨I,done listed a w O I H⟩
  |succ fuel ih=>
   intro listed a w O Y aoj H;refine⟨λI=>done listed a w O I H,λi x=>?_⟩
   rw[mem_ready]at x;obtain⟨C,o,B,E⟩:=x;rw[GA]at B;obtain⟨g,rfl⟩:=aqS.1 B;have T:i<listed.size:=za
   have D:listed.getD i aj=aj:=by simp[ru,T]at C⊢;exact C
   have G:∀d∈dG l[i],listed.getD d aj=bj:=by
    intro d z;simp only[dG,ky,List.mem_filter]at z;obtain⟨e,⟨XB,Ef⟩,rfl⟩:=z;exact E e (by simpa using XB) Ef
   have J:∀j,(listed.setIfInBounds i bj).getD j aj=(listed.getD j aj||j==i):=by
    intro j;by_cases AW:i=j
    ·subst AW;simp[ru,T]
    ·rw[getD_set_ne aj AW];simp[Ne.symm AW]
   have V:=uB (λj=>listed.getD j aj) Y i g G
   have next:∀f w',y (listed.setIfInBounds i bj) f w'->wpAnyIn (Fw c.rd) 0 c.P .any ops Q fuel (listed.setIfInBounds i bj) f w':=by
    intro f w' Z;refine ih _ f w' (by simpa using O) (λj b v d z=>?_) ?_ Z
    ·rw[J]at v⊢
     rw[ap6]at v⊢;obtain v|v:=v
     ·exact .inl (Y j b v d z)
     ·simp only[ec]at v;subst v;exact .inl (G d z)
    ·have:=adg (l:=ch l.length) (p:=λj=>!listed.getD j aj) (q:=λj=>!(listed.setIfInBounds i bj).getD j aj) (i:=i) (by simpa using g) (by rw[D];rfl) (by rw[J];simp)
      (λj _ u=>by rw[J]at u;simp at u⊢;exact u.1)
     omega
   have W:(∀j<l.length,listed.getD j aj=c3 j i)->m<=i->Rel c s.tmps.length (mh s.tmps.length s.fs dst R i) a w->
     wpOpIn (Fw c.rd) 0 c.P ops Q i (wpAnyIn (Fw c.rd) 0 c.P .any ops Q fuel (listed.setIfInBounds i bj)) a w:=by
    intro hl2 hmi amr;refine IZ i g a w amr _ λf w' h'=>next f w' (.inr ⟨i+1,by omega,by omega,λj b=>?_,h'⟩)
    rw[J,hl2 j b,aqf,ap6,apZ,apZ,ec];omega
   rcases H with⟨S,g2⟩|⟨t,S,g2,g3,g4⟩
   ·obtain Kr|Kr:=apy i m
    ·refine P7 (λj=>listed.getD j aj) i Kr g D Y G a w g2 _ λf w' h'=>next f w' (.inl ⟨λj b v=>?_,?_⟩)
     ·rw[J,S j b v]
      simp only[pT,c4];omega
     ·have e:(λj=>(listed.setIfInBounds i bj).getD j aj)=λj=>listed.getD j aj||j==i:=funext J
      rw[e];exact h'
    ·have M:∀j<i,listed.getD j aj=bj:=λj b=>V j (Ay i Kr g j b)
     have aof:i=m:=by
      obtain h|h:=apy m i
      ·have:=S m (apc _) za
       rw[M m h]at this;cases this
      ·omega
     subst aof;refine W (λj b=>?_) (apc _) ?_
     ·obtain h|h:=apy j i
      ·rw[M j h];exact(by rw[apZ];exact h:c3 j i=bj).symm
      ·rw[S j h b]
       cases u:c3 j i with
       |false=>rfl
       |true=>rw[apZ]at u;omega
     ·rw[Np i (apc _),Fi (λj=>c3 j i) (λj=>listed.getD j aj) λj b=>by rw[M j b,apZ];exact b]
      exact g2
   ·have hti:t<=i:=by
     obtain h|h:=apy i t
     ·have:=g3 i g
      rw[D]at this;have h6:c3 i t=bj:=by rw[apZ];exact h
      rw[h6]at this;cases this
     ·exact h
    have M:∀j<i,listed.getD j aj=bj:=λj b=>V j (Ay i za g j b)
    have Ot:i=t:=by
     obtain h|h:=apy t i
     ·have h7:=M t h
      rw[g3 t za,apZ]at h7;omega
     ·omega
    subst Ot;exact W g3 S g4
 refine wpIn_region_any hm ?_;rw[F8];refine main _ _ _ _ zb (λj b v=>?_) ?_ ?_
 ·exfalso
  simp[ru]at v
 ·exact apm List.countP_le_length zb
 ·refine .inl ⟨λj _ _=>by simp[ru],?_⟩
  have hz:(λj=>(jj l.length aj).getD j aj)=λj=>c3 j 0:=by
   funext j
   have:c3 j 0=aj:=by cases u:c3 j 0 with|false=>rfl|true=>rw[apZ]at u;omega
   rw[this];simp[ru]
  rw[hz,<-Np 0 (apJ _)];obtain⟨β,X,hB⟩:=h;exact⟨β,X,hB.grow ((Below.refl _ _).drew)⟩
def To{dr:b5}{c:Ctx}{Q:sx->Act->bn->Prop}{inl:Inline P Good}(oQ:z9 P Good inl){gb:aw}(qj:c.gb<=gb)(hP:c.P=P)(GC:c.Good=Good)(hG:aa Good)(h0:c.Good c.w0)(hm:P.follows .mixedOrders=bj){id:aw}{ops:eY e9}{ro:ai aw}
  {s s':St} {tr tr':ai (Item P Good)} {eqs:ai (cY×cY)} {E:ai (Rec×bF aw)} {a:Act} {w:bn}
  (hr:me P inl dr ops ro gb ops.toList s tr=a6 (s',tr',eqs,E)) (he:jU eqs) (GB:E' ops s.blks.length ops.toList E=bj)
  (h:Rel c s.tmps.length s.fs a w) (hQ:∀F w',Rel c s.tmps.length s'.fs F w'->Q .normal F w'):(Code.region id ops bj).wpIn (Fw c.rd) 0 P Q a w:=by
 obtain⟨M,S8,Ga⟩:=u_ _ _ _ _ _ _ _ hr he;generalize hl:ops.toList=l at*;have GA:∀i:aw,ops[i]? =l[i]? :=λi=>by rw[<-hl];simp
 have F8:ops.size=l.length:=by rw[<-hl];simp
 simp only[E',zLq,gv]at GB;obtain⟨ht,P_,ajZ⟩:=GB;have qf:∀i(h:i<l.length),∀d∈dG l[i],d<i:=λi h d T=>by have:=GK 0 l ht i h d T;omega
 obtain⟨jw,U⟩:=Hj l l [] [] rfl rfl ⟨by simp,λi h=>api h zb⟩ qf
 generalize hA:KC l []=A at*;have Y3:=Du (ops:=ops) 0 l E A M U;have hxl:=ET (ops:=ops) 0 l E A M U;simp only[qq]at Y3;have Qd:=IQ (Info.lone s.blks.length) (infos ops 0 l E A);have hml:=IS (Info.lone s.blks.length) (infos ops 0 l E A);generalize Dk (Info.lone s.blks.length) (infos ops 0 l E A)=m at*;rw[hxl]at hml;have B3:∀j(h:j<m)(I:j<l.length),⟨j,l[j].dst,dI ops l[j],(E.getD j (.val .any,bk)).1,(E.getD j (.val .any,bk)).2,A.getD j 0⟩∈(infos ops 0 l E A).take m:=λj h I=>
  arD.2 ⟨j,by rw[aq8,aph h];exact Y3 j I⟩
 have Ay:∀j(h:m<=j)(I:j<l.length),∀k<j,(A.getD j 0).testBit k=bj:=λj h I k hk=>by
  have:=ajZ _ (arD.2 ⟨j-m,by rw[ar',show m+(j-m)=j by omega];exact Y3 j I⟩)
  simp only[Info.N9]at this;have e:=aqJ this;rw[e,sa];simpa using hk
 generalize S_:(λj:aw=>(l[j]?).bind (λx:e9=>x.dst))=dst at*
 generalize hRR:(λj:aw=>(E.getD j (.val .any,bk)).1)=R at*
 generalize hAC:(λj:aw=>(E.getD j ((.val .any,bk):Rec×bF aw)).2)=acc
 have vj:∀i(h:i<l.length),l[i].dst=dst i:=λi h=>by rw[<-S_];simp[h]
 have DD:∀i,(E.getD i (.val .any,bk)).1=R i:=λi=>by rw[<-hRR]
 have Td:∀i,(E.getD i (.val .any,bk)).2=acc i:=λi=>by rw[<-hAC]
 have ok:J0 s.fs m dst (λi t=>((l[i]?).map λo=>(dI ops o).contains t)==a6 bj) R acc (λi j=>(A.getD i 0).testBit j):=by
  have P2:∀i j(G:i<m)(hj0:j<m)(q:i<l.length)(u:j<l.length),Info.pair ⟨i,dst i,dI ops l[i],R i,acc i,A.getD i 0⟩ ⟨j,dst j,dI ops l[j],R j,acc j,A.getD j 0⟩=bj:=by
   intro i j G hj0 q u;have:=P_ _ (B3 i G q) _ (B3 j hj0 u);simpa only[vj,DD,Td]using this
  have P1:∀i(G:i<m)(q:i<l.length),Info.lone s.blks.length ⟨i,dst i,dI ops l[i],R i,acc i,A.getD i 0⟩=bj:=by
   intro i G q;have:=Qd i _ G (Y3 i q);simpa only[vj,DD,Td]using this
  refine⟨λi j t q u y H=>?_,λi j b q u y H=>?_,λi j b q u y H=>?_,λi b q y=>?_,λi j t q u y H=>?_,λi j b q u y H=>?_,λi j b q u y H=>?_,λi b q y=>?_,λi q=>?_⟩
  ·have B:i<l.length:=za
   have J:j<l.length:=za
   have:=P2 i j q u B J;simp only[Info.pair,zLq,y,H]at this;simpa using this.1.1
  ·have B:i<l.length:=za
   have J:j<l.length:=za
   have:=P2 i j q u B J;cases z:R i<;>simp only[z,Rec.cR,cy]at y
   rename_i b' off ds d';simp only[ec]at y;subst y;simp only[Info.pair,zLq,z,H]at this;have h9:=this.1.1;rcases(by simpa using h9:i=j\/_/\((A.getD i 0).testBit j=bj/\j<i\/(A.getD j 0).testBit i=bj/\i<j))with h9|h9
   ·exact .inl h9
   ·exact .inr h9.2
  ·have B:i<l.length:=za
   have J:j<l.length:=za
   have:=P2 i j q u B J;cases z:R i<;>simp only[z,Rec.dy,cy]at y
   rename_i b' off ds d';simp only[ec]at y;subst y;simp only[Info.pair,zLq,z,H]at this;simpa using this.1.1
  ·have B:i<l.length:=za
   have:=P1 i q B;cases z:R i<;>simp only[z,Rec.dy,cy]at y
   simp only[ec]at y;subst y;simp only[Info.lone,z,qc]at this;simp only[St.fs,bP];rw[apL za];rfl
  ·have B:i<l.length:=za
   have J:j<l.length:=za
   have:=P2 i j q u B J;have I6:(dI ops l[i]).contains t=bj:=by simpa [B]using y
   simp only[Info.pair,zLq,H,I6]at this;simpa using this.1.2
  ·have B:i<l.length:=za
   have J:j<l.length:=za
   have:=P2 i j q u B J;simp only[Info.pair,zLq,y,H]at this;simpa using this.2.1
  ·have B:i<l.length:=za
   have J:j<l.length:=za
   have:=P2 i j q u B J;simp only[Info.pair,zLq,y,H]at this;simpa using this.2.2
  ·have B:i<l.length:=za
   have:=P1 i q B;cases z:R i<;>simp only[z,Rec.cR,cy]at y
   simp only[ec]at y;subst y;simpa [Info.lone,z]using this
  ·have B:i<l.length:=za
   have:=P1 i q B;cases z:R i<;>simp[Info.lone,z]at this<;>rfl
 have X:∀(L:aw->b5),(∀j(h:j<l.length),L j=bj->∀d∈dG l[j],L d=bj)->∀i(h:i<l.length),(∀d∈dG l[i],L d=bj)->∀k,(A.getD i 0).testBit k=bj->L k=bj:=
  λL uT=>Ci jw U uT
 have Gz:∀i,∀j(h:j<l.length),(c3 j i)=bj->∀d∈dG l[j],(c3 d i)=bj:=λi j h u d T=>by
  rw[apZ]at u⊢;have:=qf j h d T;omega
 have Np:∀i≤m,mh s.tmps.length s.fs dst R i=sL s.fs s.tmps.length m dst R (λj=>c3 j i):=by
  intro i;induction i with
  |zero=>
   intro _;have:∀j,c3 j 0=aj:=λj=>by cases z:c3 j 0 with|false=>rfl|true=>rw[apZ]at z;omega
   have hz:(λj=>c3 j 0)=λ_=>aj:=funext this
   rw[hz];simp only[mh,sL,im];have hf:∀x:bF (ai D),(ch m).foldl (λc j=>if aj=bj then Option.map (R j).stored c else c) x=x:=λx=>LL (p:=λ_=>aj) (f:=λj c=>Option.map (R j).stored c) (λ_ _=>rfl)
   rw[AH (λ_ _=>rfl)]
   simp only[hf];have hz2:((ch m).any λ_=>aj)=aj:=by rw[arS];intros;simp
   simp only[hz2,ia]
  |succ i ih=>
   intro q;rw[mh,ih za,Z0 ok za (by cases z:c3 i i with|false=>rfl|true=>rw[apZ]at z;omega)
    (λj u Z k hk=>X _ (Gz i) j za (Gz i j za Z) k hk)]
   congr 1
   funext j
   rw[aqf,ap6,apZ,apZ,ec];omega
 subst hP;have P7:∀(L:aw->b5)(i:aw)(W:i<m)(q:i<l.length),L i=aj->(∀j(h:j<l.length),L j=bj->∀d∈dG l[j],L d=bj)->(∀d∈dG l[i],L d=bj)->
   ∀(a:Act)(w:bn),Rel c s.tmps.length (sL s.fs s.tmps.length m dst R L) a w->∀K:Act->bn->Prop,
   (∀F w',Rel c s.tmps.length (sL s.fs s.tmps.length m dst R (λj=>L j||j==i)) F w'->K F w')->wpOpIn (Fw c.rd) 0 c.P ops Q i K a w:=by
  intro L i W q Z uT hrd a w aF K hK;obtain⟨N,Gm,Gl,XQ,O,q2,q3,Y,-⟩:=Ga i q;rw[DD]at O;rw[Td]at q3;rw[Np i za]at Y
  have hii:c3 i i=aj:=by cases z:c3 i i with|false=>rfl|true=>rw[apZ]at z;omega
  have ajP:∀d∈dG l[i],c3 d i=bj:=λd T=>by rw[apZ];exact qf i q d T
  have a1:=X L uT i q hrd;have a2:=X _ (Gz i) i q ajP;have c1:∀j<m,L j=bj->∀k,(A.getD j 0).testBit k=bj->L k=bj:=λj u V=>X L uT j za (uT j za V)
  have c2:∀j<m,c3 j i=bj->∀k,(A.getD j 0).testBit k=bj->c3 k i=bj:=λj u V=>X _ (Gz i) j za (Gz i j za V)
  have rd:∀t,t∈dI ops l[i]->(sL s.fs s.tmps.length m dst R (λj=>c3 j i)).tmp t=(sL s.fs s.tmps.length m dst R L).tmp t:=λt ht=>
   aiy (L:=λj=>c3 j i) (L':=L) ok W hii Z a2 a1 c2 c1 (by simp[q,ht])
  have q1':pQ c.P inl ops l[i] ro gb (mxA dr gb N) (sL s.fs s.tmps.length m dst R L) N.blks N.bu Gm=a6 (R i,Gl,XQ):=by
   rw[Y]at O;refine FW (λj want t hg T=>rd t ?_) (λx hx=>?_) (λb C=>?_) O (ok.Jw i W)
   ·simp[dI,hg,T]
   ·cases x with
    |tmp t=>exact rd t (by simp only[dI,p5,kN];exact .inl ⟨.tmp t,hx,rfl⟩)
    |const v=>rfl
    |global g=>rfl
    |func f=>rfl
   ·rw[<-Y,<-q3]at C
    exact aiz (L:=λj=>c3 j i) (L':=L) ok W hii Z a2 a1 c2 c1 C
  have S:ops[i]? =a6 l[i]:=by rw[GA];simp[q]
  unfold wpOpIn;simp only[S];have:=h_ (r:=c.rd) oQ rfl GC hG h0 qj aF q1' q2 (λb cs d nf C=>ZZ ok W Z (by rw[C];simp[Rec.dy])) (λC=>by have:=ok.Jw i W;cases hRi:R i<;>rw[hRi]at this C<;>first|(cases C;done)|(cases this;done)) (Q:=Q) (K:=K) (λF w' I=>hK F w' (by
   rw[vj i q,Z0 ok W Z c1]at I;exact I))
  exact this
 have IZ:∀(i:aw)(q:i<l.length)(a:Act)(w:bn),Rel c s.tmps.length (mh s.tmps.length s.fs dst R i) a w->∀K:Act->bn->Prop,
   (∀F w',Rel c s.tmps.length (mh s.tmps.length s.fs dst R (i+1)) F w'->K F w')->wpOpIn (Fw c.rd) 0 c.P ops Q i K a w:=by
  intro i q a w aF K hK;obtain⟨N,Gm,Gl,XQ,O,q2,q3,Y,q5⟩:=Ga i q;rw[DD]at O;have S:ops[i]? =a6 l[i]:=by rw[GA];simp[q]
  unfold wpOpIn;simp only[S];rw[<-Y]at aF;have:=h_ (r:=c.rd) oQ rfl GC hG h0 qj aF O q2 (λb cs d nf C=>by rw[(qR O).1 b cs d nf C];exact nu N) (λ_=>⟨λb=>rfl,λb=>rfl,by rw[<-q5];exact xm N,EM _ N qj⟩) (Q:=Q) (K:=K) (λF w' I=>hK F w' (by
   rw[vj i q,Y]at I;exact I))
  exact this
 have Fi:∀(L L':aw->b5),(∀j<m,L j=L' j)->sL s.fs s.tmps.length m dst R L=sL s.fs s.tmps.length m dst R L':=by
  intro L L' C;simp only[sL];congr 1
  ·funext t;congr 1;exact find_congr λj u=>by rw[C j u]
  ·funext b
   have e1:(ch m).find? (λj=>L j&&(R j).dy b)=(ch m).find? (λj=>L' j&&(R j).dy b):=find_congr λj u=>by rw[C j u]
   rw[e1];exact fold_congr λj u=>by rw[C j u]
  ·funext b
   congr 1
   exact any_congr λj u=>by rw[C j u]
 exact E_ (ops:=ops) (A:=A) hl hml hm qf X Ay (λL=>sL s.fs s.tmps.length m dst R L) Fi Np S8 P7 IZ h hQ
def Info.UF(x y:Info):b5:=
 (x.ix==y.ix||(match x.dst with|some t=>!(y.dst==a6 t)|none=>bj))&&
 ((match y.dst with|some t=>!(x.reads.contains t)|none=>bj)||(y.ix==x.ix||(x.jZ.testBit y.ix||y.jZ.testBit x.ix)))
def Hw(ops:eY e9)(l:ai e9)(a:ai (Rec×bF aw)):b5:=
 let xs:=infos ops 0 l a (KC l [])
 let m:=Dk (λx=>x.rc.isVal) xs
 V7 0 l&&(((xs.take m).all λx=>(xs.take m).all λy=>x.UF y)&&(xs.drop m).all Info.N9)
structure adY(m:aw)(dst:aw->bF Tmp)(reads:aw->Tmp->b5)(R:aw->Rec)(jZ:aw->aw->b5):Prop where
 Yp:∀i j t,i<m->j<m->dst i=a6 t->dst j=a6 t->i=j
 Jv:∀i j t,i<m->j<m->reads i t=bj->dst j=a6 t->j=i\/jZ i j=bj\/jZ j i=bj
 akt:∀i<m,(R i).isVal=bj
def vL(s0:as0)(n m:aw)(dst:aw->bF Tmp)(R:aw->Rec)(L:aw->b5):as0 where
 tmp:=λt=>match(ch m).find? (λj=>L j&&(dst j==a6 t&&c3 t n))with
  |some j=>(R j).put
  |none=>s0.tmp t
 blk:=s0.blk
 bu:=s0.bu
section ak7
variable {s0:as0} {n m:aw} {dst:aw->bF Tmp} {reads:aw->Tmp->b5} {R:aw->Rec} {jZ:aw->aw->b5}
def Yz(s:as0)(n:aw)(dst:bF Tmp){R:Rec}(h:R.isVal=bj):s.app n dst R=s.put n dst R.put:=by cases R<;>first|rfl|(cases h;done)
def Zq(ok:adY m dst reads R jZ){L:aw->b5}{i:aw}(b:i<m):(vL s0 n m dst R L).app n (dst i) (R i)=vL s0 n m dst R (λj=>L j||j==i):=by
 have d:∀t,(vL s0 n m dst R (λj=>L j||j==i)).tmp t=if dst i=a6 t/\t<n then(R i).put else(vL s0 n m dst R L).tmp t:=by
  intro t;simp only[vL];by_cases a:dst i=a6 t/\t<n;have l:(ch m).find? (λj=>(L j||j==i)&&(dst j==a6 t&&c3 t n))=a6 i:=E5 b (by simp[a.1,a.2]) (λj f e=>by simp only[zLq,ec]at e;exact(ok.Yp i j t b f a.1 e.2.1).symm)
  rw[aph a,l];rw[ape a];congr 1;refine find_congr λj f=>?_
  by_cases k:j=i;subst k;have:(dst j==a6 t&&c3 t n)=aj:=by
   rw[asn];by_cases h:dst j=a6 t;right;have c:¬t<n:=λc=>a ⟨h,c⟩
   cases g:c3 t n with
   |false=>rfl
   |true=>rw[apZ]at g;exact api g c
   left;simpa using h
  rw[this];simp;have o:(j==i)=aj:=by simpa using k
  simp only[o,ia]
 rw[Yz _ _ _ (ok.akt i b)];have:(vL s0 n m dst R (λj=>L j||j==i))=⟨(vL s0 n m dst R (λj=>L j||j==i)).tmp,(vL s0 n m dst R L).blk,(vL s0 n m dst R L).bu⟩:=rfl;rw[this];simp only[as0.put];congr 1
 funext t;rw[d t]
def aib(ok:adY m dst reads R jZ){L L':aw->b5}{i:aw}(q:i<m)(f:L i=aj)(a:L' i=aj)
  (p:∀k,jZ i k=bj->L k=bj) (l:∀k,jZ i k=bj->L' k=bj)
  (g:∀j<m,L j=bj->∀k,jZ j k=bj->L k=bj) (d:∀j<m,L' j=bj->∀k,jZ j k=bj->L' k=bj) {t:Tmp} (o:reads i t=bj):
  (vL s0 n m dst R L).tmp t=(vL s0 n m dst R L').tmp t:=by
 simp only[vL];congr 1;refine find_congr λj c=>?_
 by_cases e:dst j=a6 t;obtain rfl|h|h:=ok.Jv i j t q c o e
 rw[f,a];rw[p j h,l j h];have s:L j=aj:=by
  cases b:L j with
  |false=>rfl
  |true=>have:=g j c b i h;rw[f]at this;cases this
 have r:L' j=aj:=by
  cases b:L' j with
  |false=>rfl
  |true=>have:=d j c b i h;rw[a]at this;cases this
 rw[s,r];have:(dst j==a6 t)=aj:=by simpa using e
 rw[this];simp
end ak7
def V4{c:Ctx}{Q:sx->Act->bn->Prop}{inl:Inline P Good}(oQ:z9 P Good inl){gb:aw}(qj:c.gb<=gb)(hP:c.P=P)(GC:c.Good=Good)(hG:aa Good)(h0:c.Good c.w0)(hm:P.follows .mixedOrders=bj){id:aw}{ops:eY e9}{ro:ai aw}
  {s s':St} {tr tr':ai (Item P Good)} {eqs:ai (cY×cY)} {q:ai (Rec×bF aw)} {a:Act} {w:bn}
  (hr:me P inl bj ops ro gb ops.toList s tr=a6 (s',tr',eqs,q)) (he:jU eqs) (GB:Hw ops ops.toList q=bj)
  (h:Rel c s.tmps.length s.fs a w) (hQ:∀y w',Rel c s.tmps.length s'.fs y w'->Q .normal y w'):(Code.region id ops bj).wpIn (Fw c.rd) 0 P Q a w:=by
 obtain⟨C,S8,Ga⟩:=u_ _ _ _ _ _ _ _ hr he;generalize hl:ops.toList=l at*;have GA:∀i:aw,ops[i]? =l[i]? :=λi=>by rw[<-hl];simp
 simp only[Hw,zLq,gv]at GB;obtain⟨O,P_,ajZ⟩:=GB;have Z:∀i(h:i<l.length),∀d∈dG l[i],d<i:=λi h d G=>by have:=GK 0 l O i h d G;omega
 obtain⟨jw,H⟩:=Hj l l [] [] rfl rfl ⟨by simp,λi h=>api h zb⟩ Z
 generalize hA:KC l []=A at*;have Y3:=Du (ops:=ops) 0 l q A C H;have hxl:=ET (ops:=ops) 0 l q A C H;simp only[qq]at Y3;have Qd:=IQ (λx=>x.rc.isVal) (infos ops 0 l q A)
 have T:=IS (λx=>x.rc.isVal) (infos ops 0 l q A)
 generalize Dk (λx=>x.rc.isVal) (infos ops 0 l q A)=m at*
 rw[hxl]at T;have B3:∀j(h:j<m)(B:j<l.length),⟨j,l[j].dst,dI ops l[j],(q.getD j (.val .any,bk)).1,(q.getD j (.val .any,bk)).2,A.getD j 0⟩∈(infos ops 0 l q A).take m:=λj h B=>
  arD.2 ⟨j,by rw[aq8,aph h];exact Y3 j B⟩
 have Ay:∀j(h:m<=j)(B:j<l.length),∀k<j,(A.getD j 0).testBit k=bj:=λj h B k hk=>by
  have:=ajZ _ (arD.2 ⟨j-m,by rw[ar',show m+(j-m)=j by omega];exact Y3 j B⟩)
  simp only[Info.N9]at this;have e:=aqJ this;rw[e,sa];simpa using hk
 generalize S_:(λj:aw=>(l[j]?).bind (λx:e9=>x.dst))=dst at*
 generalize hRR:(λj:aw=>(q.getD j (.val .any,bk)).1)=R at*
 have Y:∀i(h:i<l.length),l[i].dst=dst i:=λi h=>by rw[<-S_];simp[h]
 have DD:∀i,(q.getD i (.val .any,bk)).1=R i:=λi=>by rw[<-hRR]
 have ok:adY m dst (λi t=>((l[i]?).map λo=>(dI ops o).contains t)==a6 bj) R (λi j=>(A.getD i 0).testBit j):=by
  have P2:∀i j(V:i<m)(U:j<m)(p:i<l.length)(u:j<l.length),Info.UF ⟨i,dst i,dI ops l[i],R i,(q.getD i (.val .any,bk)).2,A.getD i 0⟩ ⟨j,dst j,dI ops l[j],R j,(q.getD j (.val .any,bk)).2,A.getD j 0⟩=bj:=by
   intro i j V U p u;have:=P_ _ (B3 i V p) _ (B3 j U u);simpa only[Y,DD]using this
  refine⟨λi j t p u h1 h2=>?_,λi j t p u h1 h2=>?_,λi p=>?_⟩
  ·have J:i<l.length:=za
   have J3:j<l.length:=za
   have:=P2 i j p u J J3;simp only[Info.UF,zLq,h1,h2]at this;simpa using this.1
  ·have J:i<l.length:=za
   have J3:j<l.length:=za
   have:=P2 i j p u J J3;have I6:(dI ops l[i]).contains t=bj:=by simpa [J]using h1
   simp only[Info.UF,zLq,h2,I6]at this;simpa using this.2
  ·have J:i<l.length:=za
   have:=Qd i _ p (Y3 i J);simpa only[Y,DD]using this
 have N:∀(L:aw->b5),(∀j(h:j<l.length),L j=bj->∀d∈dG l[j],L d=bj)->∀i(h:i<l.length),(∀d∈dG l[i],L d=bj)->∀k,(A.getD i 0).testBit k=bj->L k=bj:=
  λL M=>Ci jw H M
 have Gz:∀i,∀j(h:j<l.length),(c3 j i)=bj->∀d∈dG l[j],(c3 d i)=bj:=λi j h u d G=>by
  rw[apZ]at u⊢;have:=Z j h d G;omega
 have Np:∀i≤m,mh s.tmps.length s.fs dst R i=vL s.fs s.tmps.length m dst R (λj=>c3 j i):=by
  intro i;induction i with
  |zero=>
   intro _;have:∀j,c3 j 0=aj:=λj=>by cases S:c3 j 0 with|false=>rfl|true=>rw[apZ]at S;omega
   have hz:(λj=>c3 j 0)=λ_=>aj:=funext this
   rw[hz];simp only[mh,vL,im];rw[AH (λ_ _=>rfl)]
  |succ i ih=>
   intro p;rw[mh,ih za,Zq ok za]
   congr 1
   funext j
   rw[aqf,ap6,apZ,apZ,ec];omega
 subst hP;have P7:∀(L:aw->b5)(i:aw)(X:i<m)(p:i<l.length),L i=aj->(∀j(h:j<l.length),L j=bj->∀d∈dG l[j],L d=bj)->(∀d∈dG l[i],L d=bj)->
   ∀(a:Act)(w:bn),Rel c s.tmps.length (vL s.fs s.tmps.length m dst R L) a w->∀K:Act->bn->Prop,
   (∀y w',Rel c s.tmps.length (vL s.fs s.tmps.length m dst R (λj=>L j||j==i)) y w'->K y w')->wpOpIn (Fw c.rd) 0 c.P ops Q i K a w:=by
  intro L i X p hL M hrd a w aF K hK;obtain⟨z,Gm,Gl,XQ,E,q2,-,D,q5⟩:=Ga i p;rw[DD]at E;rw[Np i za]at D
  have hii:c3 i i=aj:=by cases S:c3 i i with|false=>rfl|true=>rw[apZ]at S;omega
  have ajP:∀d∈dG l[i],c3 d i=bj:=λd G=>by rw[apZ];exact Z i p d G
  have a1:=N L M i p hrd;have a2:=N _ (Gz i) i p ajP;have c1:∀j<m,L j=bj->∀k,(A.getD j 0).testBit k=bj->L k=bj:=λj u I=>N L M j za (M j za I)
  have c2:∀j<m,c3 j i=bj->∀k,(A.getD j 0).testBit k=bj->c3 k i=bj:=λj u I=>N _ (Gz i) j za (Gz i j za I)
  have rd:∀t,t∈dI ops l[i]->(vL s.fs s.tmps.length m dst R (λj=>c3 j i)).tmp t=(vL s.fs s.tmps.length m dst R L).tmp t:=λt O=>
   aib (L:=λj=>c3 j i) (L':=L) ok X hii hL a2 a1 c2 c1 (by simp[p,O])
  have hfs:∀b,s.fs.blk b=z.blks.getD b bk:=λb=>by
   have e:z.fs.blk b=s.fs.blk b:=by rw[D];rfl
   exact e.symm
  have hfn:∀b,s.fs.bu b=z.bu.contains b:=λb=>by
   have e:z.fs.bu b=s.fs.bu b:=by rw[D];rfl
   exact e.symm
  have q1':pQ c.P inl ops l[i] ro gb (mxA bj gb z) (vL s.fs s.tmps.length m dst R L) z.blks z.bu Gm=a6 (R i,Gl,XQ):=by
   rw[D]at E;refine MY (λj want t hg G=>rd t ?_) (λx hx=>?_) rfl rfl E (ok.akt i X)
   ·simp[dI,hg,G]
   ·cases x with
    |tmp t=>exact rd t (by simp only[dI,p5,kN];exact .inl ⟨.tmp t,hx,rfl⟩)
    |const v=>rfl
    |global g=>rfl
    |func f=>rfl
  have F:ops[i]? =a6 l[i]:=by rw[GA];simp[p]
  unfold wpOpIn;simp only[F];have:=h_ (r:=c.rd) oQ rfl GC hG h0 qj aF q1' q2 (λb cs d nf W=>by have:=ok.akt i X;rw[W]at this;cases this) (λ_=>⟨hfs,hfn,λt O=>by
   simp only[vL];rw[AH (λj _=>by
    have:c3 t s.tmps.length=aj:=by cases S:c3 t s.tmps.length with|false=>rfl|true=>rw[apZ]at S;omega
    rw[this];simp)]
   exact xm s t O,.inr rfl⟩) (Q:=Q) (K:=K) (λy w' B=>hK y w' (by
   rw[Y i p,Zq ok X]at B;exact B))
  exact this
 have IZ:∀(i:aw)(p:i<l.length)(a:Act)(w:bn),Rel c s.tmps.length (mh s.tmps.length s.fs dst R i) a w->∀K:Act->bn->Prop,
   (∀y w',Rel c s.tmps.length (mh s.tmps.length s.fs dst R (i+1)) y w'->K y w')->wpOpIn (Fw c.rd) 0 c.P ops Q i K a w:=by
  intro i p a w aF K hK;obtain⟨z,Gm,Gl,XQ,E,q2,q3,D,q5⟩:=Ga i p;rw[DD]at E;have F:ops[i]? =a6 l[i]:=by rw[GA];simp[p]
  unfold wpOpIn;simp only[F];rw[<-D]at aF;have:=h_ (r:=c.rd) oQ rfl GC hG h0 qj aF E q2 (λb cs d nf W=>by rw[(qR E).1 b cs d nf W];exact nu z) (λ_=>⟨λb=>rfl,λb=>rfl,by rw[<-q5];exact xm z,EM _ z qj⟩) (Q:=Q) (K:=K) (λy w' B=>hK y w' (by
   rw[Y i p,D]at B;exact B))
  exact this
 have Fi:∀(L L':aw->b5),(∀j<m,L j=L' j)->vL s.fs s.tmps.length m dst R L=vL s.fs s.tmps.length m dst R L':=by
  intro L L' W;simp only[vL];congr 1
  funext t;congr 1;exact find_congr λj u=>by rw[W j u]
 exact E_ (ops:=ops) (A:=A) hl T hm Z N Ay (λL=>vL s.fs s.tmps.length m dst R L) Fi Np S8 P7 IZ h hQ
def Rec.IX:Rec->b5
 |.grow _ _ _=>bj
 |_=>aj
def Rec.Nw:Rec->aw->b5
 |.grow a _ _,b=>a==b
 |_,_=>aj
def as0.Qw{a b:as0}(e:∀t,a.tmp t=b.tmp t)(d:∀k,a.blk k=b.blk k)(c:∀k,a.bu k=b.bu k):a=b:=by cases a;cases b;simp only[as0.mk.injEq];exact⟨funext e,funext d,funext c⟩
def Oj(gs:aw->b5)(R:Rec):Prop:=
 (∃d,R=.val d/\∀b∈d.refs,gs b=aj)\/(∃b cs d,R=.new b cs d aj/\(∀x∈cs,x.refs=[])/\(∀a∈d.refs,gs a=aj)/\gs b=aj)
def ah3(gs:aw->b5)(R:Rec):Prop:=R.plain=bj\/∃b cs d,R=.grow b cs d/\gs b=bj
variable {h:ai D} {u:D}
def DU{b:aw}(h:b∉u.refs):u.clear b=u:=by unfold D.clear;rw[ape (by simpa using h)]
def Yc{b:aw}(cs:∀x∈h,x.refs=[]):h.map (D.clear b)=h:=by rw[apz λx a=>DU (by rw[cs x a];simp)];exact List.map_id' h
def L2{gs:aw->b5}{u o:Rec}{g i:bF Tmp}{n:aw}(B:Oj gs u)(j:ah3 gs o)(w:∀t,g=a6 t->i≠a6 t)
  (F:∀b,u.dy b=bj->o.dy b=aj/\o.cR b=aj) (s:as0):(s.app n i o).app n g u=(s.app n g u).app n i o:=by
 have xC:∀(x y:D)(f:aw->D)(t:aw),(if g=a6 t/\t<n then x else if i=a6 t/\t<n then y else f t)=if i=a6 t/\t<n then y else if g=a6 t/\t<n then x else f t:=by
  intro x y f t;by_cases c:g=a6 t
  ·have:=w t c
   simp[this]
  ·simp[c]
 rcases B with⟨d,rfl,v⟩|⟨b,cs,d,rfl,E,v,C⟩
 ·obtain j|⟨a,cs',l,rfl,r⟩:=j
  ·cases o<;>first|(cases j;done)|exact as0.Qw (λt=>xC _ _ _ t) (λk=>rfl) (λk=>rfl)
  ·have e:d.clear a=d:=DU λh=>by have:=v a h;rw[r]at this;cases this
   refine as0.Qw (λt=>?_) (λk=>rfl) (λk=>rfl)
   show(if g=a6 t/\t<n then d else if i=a6 t/\t<n then l else(s.tmp t).clear a)=if i=a6 t/\t<n then l else(if g=a6 t/\t<n then d else s.tmp t).clear a
   by_cases c:g=a6 t/\t<n
   ·have:=w t c.1
    rw[aph c,aph c,ape (λh=>this h.1),e]
   ·rw[ape c,ape c]
 ·obtain⟨A,z⟩:=F b (by simp[Rec.dy])
  obtain j|⟨a,cs',l,rfl,r⟩:=j
  ·cases o with
   |grow=>cases j
   |own=>cases j
   |inl=>cases j
   |val l=>exact as0.Qw (λt=>xC _ _ _ t) (λk=>rfl) (λk=>rfl)
   |new a cs' l q=>
    have p:a≠b:=by simpa [Rec.dy]using A
    refine as0.Qw (λt=>xC _ _ _ t) (λk=>?_) (λk=>?_)
    ·show(if k=b then a6 cs else if k=a then a6 cs' else s.blk k)=if k=a then a6 cs' else if k=b then a6 cs else s.blk k
     by_cases h:k=b
     ·rw[aph h,ape (by rw[h];exact aqZ p),aph h]
     ·rw[ape h,ape h]
    ·show((s.bu k||(q&&(k==a)))||(aj&&(k==b)))=((s.bu k||(aj&&(k==b)))||(q&&(k==a)))
     simp
   |store a off G l q=>
    have p:a≠b:=by simpa [Rec.cR]using z
    refine as0.Qw (λt=>xC _ _ _ t) (λk=>?_) (λk=>?_)
    ·show(if k=b then a6 cs else if k=a then(s.blk a).map _ else s.blk k)=if k=a then(if a=b then a6 cs else s.blk a).map _ else if k=b then a6 cs else s.blk k
     rw[ape p];by_cases h:k=b
     ·rw[aph h,ape (by rw[h];exact aqZ p),aph h]
     ·rw[ape h,ape h]
    ·show((s.bu k||(q&&(k==a)))||(aj&&(k==b)))=((s.bu k||(aj&&(k==b)))||(q&&(k==a)))
     simp
  ·have p:a≠b:=λe=>by rw[e,C]at r;cases r
   have e:d.clear a=d:=DU λh=>by have:=v a h;rw[r]at this;cases this
   refine as0.Qw (λt=>?_) (λk=>?_) (λk=>?_)
   ·show(if g=a6 t/\t<n then d else if i=a6 t/\t<n then l else(s.tmp t).clear a)=if i=a6 t/\t<n then l else(if g=a6 t/\t<n then d else s.tmp t).clear a
    by_cases c:g=a6 t/\t<n
    ·have:=w t c.1
     rw[aph c,aph c,ape (λh=>this h.1),e]
    ·rw[ape c,ape c]
   ·show(if k=b then a6 cs else if k=a then a6 cs' else if s.bu k then(s.blk k).map (m4 (D.clear a))else s.blk k)=
     if k=a then a6 cs' else if(s.bu k||(aj&&(k==b)))then(if k=b then a6 cs else s.blk k).map (m4 (D.clear a))else(if k=b then a6 cs else s.blk k)
    by_cases h:k=b
    ·rw[aph h,ape (by rw[h];exact aqZ p),aph h,dm,Yc E]
     split<;>rfl
    ·rw[ape h,ape h]
     simp
   ·show((s.bu k||(aj&&(k==a)))||(aj&&(k==b)))=((s.bu k||(aj&&(k==b)))||(aj&&(k==a)))
    simp
def gL(s0:as0)(n:aw)(dst:aw->bF Tmp)(R:aw->Rec)(L:aw->b5)(m:aw):as0:=(ch m).foldl (λs j=>if L j then s.app n (dst j) (R j)else s) s0
def xV(s0:as0)(n:aw)(dst:aw->bF Tmp)(R:aw->Rec)(L:aw->b5)(m:aw):gL s0 n dst R L (m+1)=if L m then(gL s0 n dst R L m).app n (dst m) (R m)else gL s0 n dst R L m:=by unfold gL;rw[aq1,aqK];rfl
def zx{s0:as0}{n:aw}{dst:aw->bF Tmp}{R:aw->Rec}{L L':aw->b5}:∀{m:aw},(∀j<m,L j=L' j)->gL s0 n dst R L m=gL s0 n dst R L' m
 |0,_=>rfl
 |m+1,h=>by rw[xV,xV,zx (m:=m) λj a=>h j za,h m za]
def Tf{s0:as0}{n:aw}{dst:aw->bF Tmp}{R:aw->Rec}{L:aw->b5}{i:aw}(c:L i=aj):∀{m:aw},i<m->(∀j,i<j->j<m->L j=bj->∀s:as0,(s.app n (dst j) (R j)).app n (dst i) (R i)=(s.app n (dst i) (R i)).app n (dst j) (R j))->
  (gL s0 n dst R L m).app n (dst i) (R i)=gL s0 n dst R (λj=>L j||j==i) m
 |0,f,_=>by omega
 |m+1,f,b=>by
  rw[xV,xV];by_cases d:m=i
  ·subst d
   rw[c];simp only[gp,Bool.or_true,gn,cy,jv];rw[zx (L:=L) (L':=λj=>L j||j==m) λj l=>by
    have:(j==m)=aj:=by rw[c4];omega
    rw[this,ia]]
  ·have g:(m==i)=aj:=by simpa using d
   simp only[g,ia];have a:=Tf (s0:=s0) (n:=n) (dst:=dst) (R:=R) c (m:=m) za λj k o h=>b j k za h
   cases e:L m with
   |true=>simp only[gn];rw[b m za za e,a]
   |false=>simp only[cy,jv];exact a
def Nz{s0:as0}{n:aw}{dst:aw->bF Tmp}{R:aw->Rec}:∀{m i:aw},i<=m->gL s0 n dst R (λj=>c3 j i) m=mh n s0 dst R i
 |0,i,h=>by
  obtain rfl:i=0:=za
  rfl
 |m+1,i,h=>by
  rw[xV];by_cases b:i=m+1
  ·subst b
   have:c3 m (m+1)=bj:=by rw[apZ];omega
   rw[this];simp only[gn];rw[zx (L:=λj=>c3 j (m+1)) (L':=λj=>c3 j m) λj c=>by rw[aqf,apZ,apZ];omega,Nz (apc m)]
   rfl
  ·have:c3 m i=aj:=by cases a:c3 m i with|false=>rfl|true=>rw[apZ]at a;omega
   rw[this];simp only[cy,jv];exact Nz za
structure vw(s0:as0)(m:aw)(dst:aw->bF Tmp)(reads:aw->Tmp->b5)(R:aw->Rec)(acc:aw->bF aw)(jZ:aw->aw->b5)(lt:aw->Prop)(gs:aw->b5):Prop where
 TA:∀i j,i<m->j<m->i≠j->jZ i j=aj->jZ j i=aj->lt i\/lt j
 Yp:∀i j t,i<m->j<m->i≠j->jZ i j=aj->jZ j i=aj->dst i=a6 t->dst j≠a6 t
 amY:∀i j b,i<m->j<m->i≠j->jZ i j=aj->jZ j i=aj->(R i).dy b=bj->(R j).dy b=aj/\(R j).cR b=aj
 Jv:∀i j t,i<m->j<m->i≠j->jZ i j=aj->jZ j i=aj->reads i t=bj->dst j≠a6 t
 ao2:∀i j b,i<m->j<m->i≠j->jZ i j=aj->jZ j i=aj->acc i=a6 b->(R j).dy b=aj/\(R j).cR b=aj/\(R j).IX=aj
 cLV:∀i<m,lt i->Oj gs (R i)
 Jz:∀i<m,ah3 gs (R i)
 ao1:∀i t,i<m->lt i->reads i t=bj->∀b∈(s0.tmp t).refs,gs b=aj
 cLR:∀i j t,i<m->j<m->j≠i->lt i->reads i t=bj->dst j=a6 t->lt j
 agF:∀i b,i<m->(R i).dy b=bj->s0.blk b=bk
 amX:∀i j b,i<m->j<m->i≠j->(R i).dy b=bj->(R j).dy b=aj/\((R j).cR b=bj\/(R j).Nw b=bj->jZ j i=bj)
section stepG
variable {s0:as0} {n m:aw} {dst:aw->bF Tmp} {reads:aw->Tmp->b5} {R:aw->Rec} {acc:aw->bF aw} {jZ:aw->aw->b5} {lt:aw->Prop} {gs:aw->b5}
def QK(ok:vw s0 m dst reads R acc jZ lt gs){i j:aw}(c:i<m)(a:j<m)(d:i≠j)(f:jZ i j=aj)(e:jZ j i=aj)(s:as0):
  (s.app n (dst j) (R j)).app n (dst i) (R i)=(s.app n (dst i) (R i)).app n (dst j) (R j):=by
 obtain h|h:=ok.TA i j c a d f e
 exact L2 (ok.cLV i c h) (ok.Jz j a) (λt=>ok.Yp i j t c a d f e) (λb=>ok.amY i j b c a d f e) s;exact(L2 (ok.cLV j a h) (ok.Jz i c) (λt=>ok.Yp j i t a c (aqZ d) e f) (λb=>ok.amY j i b a c (aqZ d) e f) s).symm
def aj5(ok:vw s0 m dst reads R acc jZ lt gs)(e:∀i j,i<m->jZ i j=bj->j<i){L:aw->b5}{i:aw}(b:i<m)(c:L i=aj)(f:∀j<m,L j=bj->∀k,jZ j k=bj->L k=bj):
  (gL s0 n dst R L m).app n (dst i) (R i)=gL s0 n dst R (λj=>L j||j==i) m:=by
 refine Tf c b λj h d g s=>QK ok b d za ?_ ?_ s
 cases a:jZ i j with
 |false=>rfl
 |true=>have:=e i j b a;omega
 cases a:jZ j i with
 |false=>rfl
 |true=>have:=f j d g i a;rw[c]at this;cases this
def Gc(ok:vw s0 m dst reads R acc jZ lt gs){L:aw->b5}{i:aw}(u:i<m)(x:lt i)(y:L i=aj){t:Tmp}(r:reads i t=bj):∀m',m'<=m->∀b∈((gL s0 n dst R L m').tmp t).refs,gs b=aj
 |0,_,b,f=>ok.ao1 i t u x r b f
 |m'+1,hm,b,f=>by
  rw[xV]at f;have l:=Gc ok u x y r m' za
  split at f
  ·rename_i o
   have z:m'≠i:=λe=>by rw[e,y]at o;cases o
   have put:∀(s:as0)(d:D),(dst m'=a6 t->∀b∈d.refs,gs b=aj)->(∀b∈(s.tmp t).refs,gs b=aj)->b∈((s.put n (dst m') d).tmp t).refs->gs b=aj:=λs d B w A=>by
    have p:b∈(if dst m'=a6 t/\t<n then d else s.tmp t).refs:=A
    by_cases v:dst m'=a6 t/\t<n
    ·rw[aph v]at p;exact B v.1 b p
    ·rw[ape v]at p;exact w b p
   have lit:dst m'=a6 t->Oj gs (R m'):=λe=>ok.cLV m' za (ok.cLR i m' t u za z x r e)
   have j:=ok.Jz m' za
   cases c:R m' with
   |val d=>
    rw[c]at f;refine put _ d (λe=>?_) l f
    rcases lit e with⟨k,a,h⟩|⟨g,cs,k,a,-⟩
    ·rw[c]at a;cases a;exact h
    ·rw[c]at a;cases a
   |new g cs d q=>
    rw[c]at f;refine put (as0.bO _ g (a6 cs) q) d (λe=>?_) l f
    rcases lit e with⟨k,a,h⟩|⟨g,cs,k,a,_,h,_⟩
    ·rw[c]at a;cases a
    ·rw[c]at a;cases a;exact h
   |store g off E d q=>
    rw[c]at f;refine put (as0.bO _ g _ q) d (λe=>?_) l f
    rcases lit e with⟨k,a,h⟩|⟨g,cs,k,a,-⟩
    ·rw[c]at a;cases a
    ·rw[c]at a;cases a
   |grow g cs d=>
    rw[c]at f;refine put (as0.bO (as0.clear _ g) g (a6 cs) aj) d (λe=>?_) (λC w=>l C (yb w).1) f
    rcases lit e with⟨k,a,h⟩|⟨g,cs,k,a,-⟩
    ·rw[c]at a;cases a
    ·rw[c]at a;cases a
   |own d=>
    obtain j|⟨_,_,_,e,_⟩:=j
    ·rw[c]at j;cases j
    ·rw[c]at e;cases e
   |inl bl nl d=>
    obtain j|⟨_,_,_,e,_⟩:=j
    ·rw[c]at j;cases j
    ·rw[c]at e;cases e
  ·exact l b f
def Yy(ok:vw s0 m dst reads R acc jZ lt gs){i j:aw}(v:i<m)(o:j<m)(r:i≠j)(x:jZ i j=aj)(w:jZ j i=aj){s:as0}(hs:lt i->∀t,reads i t=bj->∀b∈(s.tmp t).refs,gs b=aj):
  (∀t,reads i t=bj->(s.app n (dst j) (R j)).tmp t=s.tmp t)/\(∀b,acc i=a6 b->(s.app n (dst j) (R j)).blk b=s.blk b)/\(¬lt i->(s.app n (dst j) (R j)).bu=s.bu):=by
 have F:∀t,reads i t=bj->dst j≠a6 t:=λt=>ok.Jv i j t v o r x w
 have A:∀b,acc i=a6 b->(R j).dy b=aj/\(R j).cR b=aj/\(R j).IX=aj:=λb=>ok.ao2 i j b v o r x w
 have l:∀(s:as0)(d:D) t,reads i t=bj->(s.put n (dst j) d).tmp t=s.tmp t:=λs d t u=>ape λh=>F t u h.1
 have B:¬lt i->Oj gs (R j):=λh=>ok.cLV j o ((ok.TA i j v o r x w).resolve_left h)
 have g:=ok.Jz j o;cases c:R j with
 |val d=>exact⟨l s d,λb _=>rfl,λ_=>rfl⟩
 |new a cs d E=>
  refine⟨l _ d,λb p=>?_,λh=>?_⟩
  ·have:=(A b p).1
   rw[c]at this;have y:a≠b:=by simpa [Rec.dy]using this
   show(if b=a then a6 cs else s.blk b)=s.blk b
   rw[ape (aqZ y)]
  ·rcases B h with⟨q,f,-⟩|⟨a,cs,q,f,-⟩
   ·rw[c]at f;cases f
   ·rw[c]at f;cases f
    funext k
    show(s.bu k||(aj&&(k==a)))=s.bu k
    simp
 |store a off H d E=>
  refine⟨l _ d,λb p=>?_,λh=>?_⟩
  ·have:=(A b p).2.1
   rw[c]at this;have y:a≠b:=by simpa [Rec.cR]using this
   show(if b=a then _ else s.blk b)=s.blk b
   rw[ape (aqZ y)]
  ·rcases B h with⟨q,f,-⟩|⟨a,cs,q,f,-⟩<;>(rw[c]at f;cases f)
 |grow a cs d=>
  have z:gs a=bj:=by
   obtain g|⟨_,_,_,e,z⟩:=g
   ·rw[c]at g;cases g
   ·rw[c]at e;cases e;exact z
  have C:lt i:=by
   obtain h|h:=ok.TA i j v o r x w
   ·exact h
   ·rcases ok.cLV j o h with⟨q,f,-⟩|⟨a,cs,q,f,-⟩<;>(rw[c]at f;cases f)
  refine⟨λt u=>?_,λb p=>?_,λh=>api C h⟩
  ·have G:=l ((s.clear a).bO a (a6 cs) aj) d t u
   show(((s.clear a).bO a (a6 cs) aj).put n (dst j) d).tmp t=s.tmp t;rw[G];exact DU λh=>by have:=hs C t u a h;rw[z]at this;cases this
  ·have:=(A b p).2.2
   rw[c]at this;cases this
 |own d=>
  obtain g|⟨_,_,_,e,_⟩:=g
  ·rw[c]at g;cases g
  ·rw[c]at e;cases e
 |inl bl nl d=>
  obtain g|⟨_,_,_,e,_⟩:=g
  ·rw[c]at g;cases g
  ·rw[c]at e;cases e
def Looks(reads:aw->Tmp->b5)(acc:aw->bF aw)(lt:aw->Prop)(i:aw)(a b:as0):Prop:=
 (∀t,reads i t=bj->b.tmp t=a.tmp t)/\(∀k,acc i=a6 k->b.blk k=a.blk k)/\(¬lt i->b.bu=a.bu)
def Vg(ok:vw s0 m dst reads R acc jZ lt gs)(D:∀i j,i<m->jZ i j=bj->j<i){i:aw}(z:i<m){S S':aw->b5}(g:∀j,S j=bj->S' j=bj)
  (E:∀j<m,S j=bj->∀k,jZ j k=bj->S k=bj) (d:S' i=aj) (p:∀k<m,S' k=bj->S k=aj->jZ i k=aj/\jZ k i=aj):
  Looks reads acc lt i (gL s0 n dst R S m) (gL s0 n dst R S' m):=by
 have key:∀k≤m,Looks reads acc lt i (gL s0 n dst R S m) (gL s0 n dst R (λj=>S j||(S' j&&c3 j k)) m):=by
  intro k;induction k with
  |zero=>
   intro _;have e:(λj=>S j||(S' j&&c3 j 0))=S:=by
    funext j
    have:c3 j 0=aj:=by cases a:c3 j 0 with|false=>rfl|true=>rw[apZ]at a;omega
    rw[this];simp
   rw[e];exact⟨λ_ _=>rfl,λ_ _=>rfl,λ_=>rfl⟩
  |succ k f=>
   intro M;have f:=f za
   by_cases c:S k=aj/\S' k=bj
   ·obtain⟨G,F⟩:=p k za c.2 c.1
    have r:i≠k:=λe=>by rw[<-e]at c;rw[d]at c;cases c.2
    have q:c3 k k=aj:=by cases a:c3 k k with|false=>rfl|true=>rw[apZ]at a;omega
    have H:(λj=>S j||(S' j&&c3 j k)) k=aj:=by simp only[c.1,c.2,q];rfl
    have add:=Tf (s0:=s0) (n:=n) (dst:=dst) (R:=R) (L:=λj=>S j||(S' j&&c3 j k)) (i:=k) H (m:=m) za (λj N A J s=>by
     have v:S j=bj:=by
      have:c3 j k=aj:=by cases a:c3 j k with|false=>rfl|true=>rw[apZ]at a;omega
      simpa [this]using J
     refine QK ok za A za ?_ ?_ s
     ·cases a:jZ k j with
      |false=>rfl
      |true=>have:=D k j za a;omega
     ·cases a:jZ j k with
      |false=>rfl
      |true=>have:=E j A v k a;rw[c.1]at this;cases this)
    have e:(λj=>(S j||(S' j&&c3 j k))||j==k)=λj=>S j||(S' j&&c3 j (k+1)):=by
     funext j
     rw[aqf];simp only[hO,zLq,n4,ec];constructor
     ·rintro((h|⟨h,w⟩)|h)
      ·exact .inl h
      ·exact y2 ⟨h,by omega⟩
      ·subst h;exact y2 ⟨c.2,by omega⟩
     ·rintro(h|⟨h,w⟩)
      ·exact .inl (.inl h)
      ·by_cases y:j=k
       ·exact y2 y
       ·exact .inl (y2 ⟨h,by omega⟩)
    rw[e]at add;have u:(λj=>S j||(S' j&&c3 j k)) i=aj:=by
     have x:S i=aj:=by
      cases a:S i with
      |false=>rfl
      |true=>have:=g i a;rw[d]at this;cases this
     simp only[d,x];rfl
    obtain⟨a1,C,B⟩:=Yy (n:=n) ok z (by omega:k<m) r G F (s:=gL s0 n dst R (λj=>S j||(S' j&&c3 j k)) m) (λK t l=>Gc ok z K u l m (apc m))
    rw[add]at a1 C B;exact⟨λt l=>(a1 t l).trans (f.1 t l),λb o=>(C b o).trans (f.2.1 b o),λh=>(B h).trans (f.2.2 h)⟩
   ·have e:(λj=>S j||(S' j&&c3 j (k+1)))=λj=>S j||(S' j&&c3 j k):=by
     funext j
     rw[aqf];simp only[hO,zLq,n4];constructor
     ·rintro(h|⟨h,w⟩)
      ·exact .inl h
      ·by_cases y:j=k
       ·subst y
        left
        cases a:S j with
        |true=>rfl
        |false=>exact api ⟨a,h⟩ c
       ·exact y2 ⟨h,by omega⟩
     ·rintro(h|⟨h,w⟩)
      ·exact .inl h
      ·exact y2 ⟨h,by omega⟩
    rw[e];exact f
 have:=key m (apc m)
 rwa [zx (L:=λj=>S j||(S' j&&c3 j m)) (L':=S') λj I=>by
  have o:c3 j m=bj:=by rw[apZ];exact I
  rw[o,ar6];cases a:S j with
  |true=>rw[g j a];rfl
  |false=>rfl]at this
def acw(ok:vw s0 m dst reads R acc jZ lt gs)(d:∀i j,i<m->jZ i j=bj->j<i){L:aw->b5}{i:aw}(o:i<m)(w:L i=aj)
  (q:∀j<m,L j=bj->∀k,jZ j k=bj->L k=bj) (x:∀k,jZ i k=bj->L k=bj):
  Looks reads acc lt i (gL s0 n dst R L m) (gL s0 n dst R (λj=>c3 j i) m):=by
 have l:c3 i i=aj:=by cases a:c3 i i with|false=>rfl|true=>rw[apZ]at a;omega
 have v:(λj=>L j||c3 j i) i=aj:=by simp only[w,l];rfl
 have r:∀k<m,(L k||c3 k i)=bj->jZ k i=aj:=λk c h=>by
  cases a:jZ k i with
  |false=>rfl
  |true=>
   rw[ap6,apZ]at h;obtain h|h:=h
   ·have:=q k c h i a;rw[w]at this;cases this
   ·have:=d k i c a;omega
 have g:=Vg (n:=n) ok d o (S:=L) (S':=λj=>L j||c3 j i) (λj h=>by simp[h]) q v (λk c p e=>⟨(by
  cases a:jZ i k with
  |false=>rfl
  |true=>have:=x k a;rw[e]at this;cases this),r k c p⟩)
 have f:=Vg (n:=n) ok d o (S:=λj=>c3 j i) (S':=λj=>L j||c3 j i) (λj h=>by simp[h]) (λj y h k c=>by
  rw[apZ]at h⊢;have:=d j k y c;omega) v (λk c p e=>⟨(by
  cases a:jZ i k with
  |false=>rfl
  |true=>
   have:=d i k o a;have z:c3 k i=bj:=by rw[apZ];exact this
   rw[z]at e;cases e),r k c p⟩)
 exact⟨λt s=>(f.1 t s).symm.trans (g.1 t s),λb u=>(f.2.1 b u).symm.trans (g.2.1 b u),λh=>(f.2.2 h).symm.trans (g.2.2 h)⟩
def Qp(ok:vw s0 m dst reads R acc jZ lt gs){L:aw->b5}{i b:aw}(q:i<m)(s:L i=aj)(r:(R i).dy b=bj)(t:∀j<m,L j=bj->∀k,jZ j k=bj->L k=bj):∀m',m'<=m->(gL s0 n dst R L m').blk b=bk
 |0,_=>ok.agF i b q r
 |m'+1,hm=>by
  rw[xV];have l:=Qp ok q s r t m' za
  split
  ·rename_i g
   have x:i≠m':=λe=>by rw[<-e,s]at g;cases g
   obtain⟨u,w⟩:=ok.amX i m' b q za x r
   have p:¬((R m').cR b=bj\/(R m').Nw b=bj):=λh=>by have:=t m' za g i (w h);rw[s]at this;cases this
   have c:=ok.Jz m' za
   cases f:R m' with
   |val d=>exact l
   |new a cs d v=>
    rw[f]at u;have o:a≠b:=by simpa [Rec.dy]using u
    show(if b=a then a6 cs else _)=bk
    rw[ape (aqZ o)];exact l
   |store a off y d v=>
    rw[f]at p;have o:a≠b:=λe=>p (.inl (by simp[Rec.cR,e]))
    show(if b=a then _ else(gL s0 n dst R L m').blk b)=bk
    rw[ape (aqZ o)];exact l
   |grow a cs d=>
    rw[f]at p;have o:a≠b:=λe=>p (y2 (by simp[Rec.Nw,e]))
    show(if b=a then a6 cs else if(gL s0 n dst R L m').bu b then((gL s0 n dst R L m').blk b).map (m4 (D.clear a))else(gL s0 n dst R L m').blk b)=bk
    rw[ape (aqZ o),l];simp
   |own d=>
    obtain c|⟨_,_,_,e,_⟩:=c
    ·rw[f]at c;cases c
    ·rw[f]at e;cases e
   |inl bl nl d=>
    obtain c|⟨_,_,_,e,_⟩:=c
    ·rw[f]at c;cases c
    ·rw[f]at e;cases e
  ·exact l
end stepG
def Info.aco(x:Info):ai aw:=match x.rc with
 |.grow b _ _=>[b]
 |_=>[]
def Info.Dj(gs:ai aw)(x:Info):b5:=match x.rc with
 |.val d=>d.refs.all λb=>!gs.contains b
 |.new b cs d a=>!a&&(cs.all (λc=>c.refs.isEmpty)&&((d.refs.all λb=>!gs.contains b)&& !gs.contains b))
 |_=>aj
def Info.aaU(gs:ai aw)(x y:Info):b5:=
 (x.ix==y.ix||(x.jZ.testBit y.ix||y.jZ.testBit x.ix))||
  ((x.Dj gs||y.Dj gs)&&
  ((match x.dst with|some t=>!(y.dst==a6 t)|none=>bj)&&
  ((match x.rc with|.new b _ _ _=>!(y.rc.dy b)&& !(y.rc.cR b)|_=>bj)&&
  ((match y.dst with|some t=>!(x.reads.contains t)|none=>bj)&&
  (match x.acc with|some b=>!(y.rc.dy b)&&(!(y.rc.cR b)&& !y.rc.IX)|none=>bj)))))
def Info.Lg(gs:ai aw)(x y:Info):b5:=
 x.ix==y.ix||((!(x.Dj gs)||(match y.dst with|some t=>!(x.reads.contains t)||y.Dj gs|none=>bj))&&
  (match x.rc with|.new b _ _ _=>!(y.rc.dy b)&&((!(y.rc.cR b)&& !(y.rc.Nw b))||y.jZ.testBit x.ix)|_=>bj))
def Info.PK(gs:ai aw)(tmps:ai D)(a:aw)(x:Info):b5:=
 (x.rc.plain||x.rc.IX)&&((!(x.Dj gs)||x.reads.all λt=>(y7 tmps t .any).refs.all λb=>!gs.contains b)&&
  (match x.rc with|.new b _ _ _=>hM a b|_=>bj))
def Ca(ops:eY e9)(s:St)(l:ai e9)(a:ai (Rec×bF aw)):b5:=
 let xs:=infos ops 0 l a (KC l [])
 let gs:=xs.flatMap Info.aco
 V7 0 l&&(xs.all (Info.PK gs s.tmps (y6 s.blks))&&xs.all λx=>xs.all λy=>x.aaU gs y&&x.Lg gs y)
def Qs{dr:b5}{c:Ctx}{Q:sx->Act->bn->Prop}{inl:Inline P Good}(oQ:z9 P Good inl){gb:aw}(qj:c.gb<=gb)(hP:c.P=P)(GC:c.Good=Good)(hG:aa Good)(h0:c.Good c.w0)(hm:P.follows .mixedOrders=bj){id:aw}{ops:eY e9}{ro:ai aw}
  {s s':St} {tr tr':ai (Item P Good)} {eqs:ai (cY×cY)} {F:ai (Rec×bF aw)} {a:Act} {w:bn}
  (hr:me P inl dr ops ro gb ops.toList s tr=a6 (s',tr',eqs,F)) (he:jU eqs) (GB:Ca ops s ops.toList F=bj)
  (h:Rel c s.tmps.length s.fs a w) (hQ:∀T w',Rel c s.tmps.length s'.fs T w'->Q .normal T w'):(Code.region id ops bj).wpIn (Fw c.rd) 0 P Q a w:=by
 obtain⟨V,S8,Ga⟩:=u_ _ _ _ _ _ _ _ hr he;generalize hl:ops.toList=l at*;have GA:∀i:aw,ops[i]? =l[i]? :=λi=>by rw[<-hl];simp
 simp only[Ca,zLq,gv]at GB;obtain⟨ht,Qd,P_⟩:=GB;have qf:∀i(h:i<l.length),∀d∈dG l[i],d<i:=λi h d W=>by have:=GK 0 l ht i h d W;omega
 obtain⟨jw,X⟩:=Hj l l [] [] rfl rfl ⟨by simp,λi h=>api h zb⟩ qf
 generalize hA:KC l []=A at*;have Y3:=Du (ops:=ops) 0 l F A V X;simp only[qq]at Y3;have B3:∀j(G:j<l.length),⟨j,l[j].dst,dI ops l[j],(F.getD j (.val .any,bk)).1,(F.getD j (.val .any,bk)).2,A.getD j 0⟩∈infos ops 0 l F A:=λj G=>
  arD.2 ⟨j,Y3 j G⟩
 generalize hgs:(infos ops 0 l F A).flatMap Info.aco=gs at*;generalize S_:(λj:aw=>(l[j]?).bind (λx:e9=>x.dst))=dst at*
 generalize hRR:(λj:aw=>(F.getD j (.val .any,bk)).1)=R at*
 generalize hAC:(λj:aw=>(F.getD j ((.val .any,bk):Rec×bF aw)).2)=acc
 have vj:∀i(h:i<l.length),l[i].dst=dst i:=λi h=>by rw[<-S_];simp[h]
 have DD:∀i,(F.getD i (.val .any,bk)).1=R i:=λi=>by rw[<-hRR]
 have Td:∀i,(F.getD i (.val .any,bk)).2=acc i:=λi=>by rw[<-hAC]
 have uz:∀i j,i<l.length->(A.getD i 0).testBit j=bj->j<i:=by
  intro i;induction i using p0 with
  |_ i ih=>
   intro j p q;obtain⟨d,W,E⟩:=jw.2 i za p j q
   have hdi:=qf i p d W;obtain E|⟨_,D⟩:=E
   ·omega
   ·have:=ih d hdi j za D;omega
 let mk:∀i(h:i<l.length),Info:=λi h=>⟨i,dst i,dI ops l[i],R i,acc i,A.getD i 0⟩
 have P2:∀i j(p:i<l.length)(q:j<l.length),Info.aaU gs (mk i p) (mk j q)=bj/\Info.Lg gs (mk i p) (mk j q)=bj:=by
  intro i j p q;have:=P_ _ (B3 i p) _ (B3 j q);simpa only[vj,DD,Td]using this
 have P1:∀i(p:i<l.length),Info.PK gs s.tmps s.blks.length (mk i p)=bj:=by
  intro i p;have:=Qd _ (B3 i p);simpa only[vj,DD,Td]using this
 have amE:∀i b cs d,i<l.length->R i=.grow b cs d->gs.contains b=bj:=by
  intro i b cs d p e;have:b∈gs:=by
   rw[<-hgs];refine aq9.2 ⟨_,B3 i p,?_⟩;simp only[Info.aco,DD,e,dc]
  simpa using this
 let lt:aw->Prop:=λi=>∃h:i<l.length,Info.Dj gs (mk i h)=bj
 have Y:∀i j(p:i<l.length)(q:j<l.length),i≠j->(A.getD i 0).testBit j=aj->(A.getD j 0).testBit i=aj->
   (Info.Dj gs (mk i p)=bj\/Info.Dj gs (mk j q)=bj)/\(match dst i with|some t=>!(dst j==a6 t)|none=>bj)=bj/\
   (match R i with|.new b _ _ _=>!((R j).dy b)&& !((R j).cR b)|_=>bj)=bj/\
   (match dst j with|some t=>!((dI ops l[i]).contains t)|none=>bj)=bj/\
   (match acc i with|some b=>!((R j).dy b)&&(!((R j).cR b)&& !(R j).IX)|none=>bj)=bj:=by
  intro i j p q C E D;have:=(P2 i j p q).1;have y:(i==j)=aj:=by simpa using C
  simp only[Info.aaU,mk,y,E,D,Bool.or_self,pT,zLq,hO]at this;exact⟨this.1,this.2.1,this.2.2.1,this.2.2.2.1,this.2.2.2.2⟩
 have ok:vw s.fs l.length dst (λi t=>((l[i]?).map λo=>(dI ops o).contains t)==a6 bj) R acc (λi j=>(A.getD i 0).testBit j) lt (λb=>gs.contains b):=by
  refine⟨λi j p q C E D=>?_,λi j t p q C E D B I=>?_,λi j b p q C E D B=>?_,λi j t p q C E D B I=>?_,λi j b p q C E D B=>?_,λi p u=>?_,λi p=>?_,λi t p u B b y=>?_,λi j t p q C u B I=>?_,λi b p B=>?_,λi j b p q C B=>?_⟩
  ·exact(Y i j p q C E D).1.imp (λh=>⟨p,h⟩) (λh=>⟨q,h⟩)
  ·have:=(Y i j p q C E D).2.1
   rw[B,I]at this;simp at this
  ·have:=(Y i j p q C E D).2.2.1
   cases z:R i<;>simp only[z,Rec.dy,cy]at B
   simp only[ec]at B;subst B;rw[z]at this;simpa using this
  ·have:=(Y i j p q C E D).2.2.2.1
   have Z:(dI ops l[i]).contains t=bj:=by simpa [p]using B
   rw[I]at this;simp only[Z,kn,cy]at this
  ·have:=(Y i j p q C E D).2.2.2.2
   rw[B]at this;simpa using this
  ·obtain⟨h,u⟩:=u
   simp only[Info.Dj,mk]at u;cases z:R i with
   |val d=>
    rw[z]at u;refine .inl ⟨d,rfl,λb y=>?_⟩
    have:=apH.1 u b y;simpa using this
   |new b cs d nf=>
    rw[z]at u;simp only[zLq,fV,gv,na]at u;obtain⟨rfl,D,h3,h4⟩:=u;exact .inr ⟨b,cs,d,rfl,D,h3,h4⟩
   |store=>rw[z]at u;cases u
   |grow=>rw[z]at u;cases u
   |own=>rw[z]at u;cases u
   |inl=>rw[z]at u;cases u
  ·have:=P1 i p
   simp only[Info.PK,mk,zLq,hO]at this;obtain h|h:=this.1
   ·exact .inl h
   ·cases z:R i with
    |grow b cs d=>exact .inr ⟨b,cs,d,rfl,amE i b cs d p z⟩
    |val=>rw[z]at h;cases h
    |new=>rw[z]at h;cases h
    |store=>rw[z]at h;cases h
    |own=>rw[z]at h;cases h
    |inl=>rw[z]at h;cases h
  ·obtain⟨h,u⟩:=u
   have:=P1 i p;simp only[Info.PK,zLq,hO,u,kn,cy,false_or,gv]at this;have Z:t∈dI ops l[i]:=by simpa [p]using B
   have:=this.2.1 t Z b y;simpa using this
  ·obtain⟨h,u⟩:=u
   have:=(P2 i j p q).2;have y:(i==j)=aj:=by simpa using aqZ C
   have Z:(dI ops l[i]).contains t=bj:=by simpa [p]using B
   simp only[Info.Lg,u,kn,pT,zLq,hO]at this;obtain J|⟨J,_⟩:=this
   ·exact api (by simpa [mk]using J) (aqZ C)
   ·simp only[mk,I,Z,kn,pT]at J
    exact⟨q,J⟩
  ·have:=P1 i p
   cases z:R i<;>simp only[z,Rec.dy,cy]at B
   simp only[ec]at B;subst B;simp only[Info.PK,mk,z,zLq,qc]at this;simp only[St.fs,bP];rw[apL za];rfl
  ·have:=(P2 i j p q).2
   cases z:R i<;>simp only[z,Rec.dy,cy]at B
   simp only[ec]at B;subst B;simp only[Info.Lg,mk,z,hO,zLq,ec,fV]at this;obtain J|⟨_,J,h10⟩:=this
   ·exact api J C
   ·refine⟨J,λh=>?_⟩
    rcases h10 with⟨O,h12⟩|O
    ·obtain h|h:=h
     ·rw[O]at h;cases h
     ·rw[h12]at h;cases h
    ·exact O
 have uB:∀(L:aw->b5),(∀j(h:j<l.length),L j=bj->∀d∈dG l[j],L d=bj)->∀i(h:i<l.length),(∀d∈dG l[i],L d=bj)->∀k,(A.getD i 0).testBit k=bj->L k=bj:=
  λL U=>Ci jw X U
 subst hP;refine E_ (ops:=ops) (A:=A) hl (apc _) hm qf uB (λj h G=>api G za) (λL=>gL s.fs s.tmps.length dst R L l.length) (λL L' y=>zx y) (λi p=>(Nz p).symm) S8 ?_ ?_ h hQ
 ·intro L i Kr p hL U hrd a w aF K hK
  obtain⟨M,Gm,Gl,XQ,H,q2,q3,S,q5⟩:=Ga i p;rw[DD]at H;rw[Td]at q3;rw[<-Nz (m:=l.length) (by omega:i<=l.length)]at S
  have a1:=uB L U i p hrd;have c1:∀j<l.length,L j=bj->∀k,(A.getD j 0).testBit k=bj->L k=bj:=λj q hLj=>uB L U j q (U j q hLj)
  obtain⟨k1,k2,k3⟩:=acw (n:=s.tmps.length) ok (λi j=>uz i j) p hL c1 a1
  have rd:∀t,t∈dI ops l[i]->(gL s.fs s.tmps.length dst R (λj=>c3 j i) l.length).tmp t=(gL s.fs s.tmps.length dst R L l.length).tmp t:=λt ht=>k1 t (by simp[p,ht])
  have q1':pQ c.P inl ops l[i] ro gb (mxA dr gb M) (gL s.fs s.tmps.length dst R L l.length) M.blks M.bu Gm=a6 (R i,Gl,XQ):=by
   rw[S]at H;have hg:∀j want t,l[i].guard=a6 (j,want)->(ops[j]?).bind (·.dst)=a6 t->(gL s.fs s.tmps.length dst R (λj=>c3 j i) l.length).tmp t=(gL s.fs s.tmps.length dst R L l.length).tmp t:=λj want t hg W=>rd t (by simp[dI,hg,W])
   have hρ:∀x∈l[i].op.operands.toList,(gL s.fs s.tmps.length dst R (λj=>c3 j i) l.length).ev x=(gL s.fs s.tmps.length dst R L l.length).ev x:=λx hx=>by
    cases x with
    |tmp t=>exact rd t (by simp only[dI,p5,kN];exact .inl ⟨.tmp t,hx,rfl⟩)
    |const v=>rfl
    |global g=>rfl
    |func f=>rfl
   have y:∀b,ta l[i] (gL s.fs s.tmps.length dst R (λj=>c3 j i) l.length).ev=a6 b->(gL s.fs s.tmps.length dst R (λj=>c3 j i) l.length).blk b=(gL s.fs s.tmps.length dst R L l.length).blk b:=λb y=>by
    rw[<-S,<-q3]at y;exact k2 b y
   obtain hp|⟨b,cs,d,e,Kt⟩:=ok.Jz i p
   ·exact FW hg hρ y H hp
   ·rw[e]at H⊢
    refine MZ hg hρ y (k3 λu=>?_) H
    rcases ok.cLV i p u with⟨d',I,-⟩|⟨b',cs',d',I,-⟩<;>(rw[e]at I;cases I)
  have N:ops[i]? =a6 l[i]:=by rw[GA];simp[p]
  unfold wpOpIn;simp only[N];have:=h_ (r:=c.rd) oQ rfl GC hG h0 qj aF q1' q2 (λb cs d nf y=>Qp ok p hL (by rw[y];simp[Rec.dy]) c1 _ (apc _)) (λy=>by
    obtain hp|⟨b,cs,d,e,_⟩:=ok.Jz i p
    ·cases hRi:R i<;>rw[hRi]at hp y<;>first|(cases y;done)|(cases hp;done)
    ·rw[e]at y;cases y) (Q:=Q) (K:=K) (λT w' G=>hK T w' (by
   rw[vj i p,aj5 ok (λi j=>uz i j) p hL c1]at G;exact G))
  exact this
 ·intro i p a w aF K hK
  obtain⟨M,Gm,Gl,XQ,H,q2,q3,S,q5⟩:=Ga i p;rw[DD]at H;have N:ops[i]? =a6 l[i]:=by rw[GA];simp[p]
  unfold wpOpIn;simp only[N];rw[<-S]at aF;have:=h_ (r:=c.rd) oQ rfl GC hG h0 qj aF H q2 (λb cs d nf y=>by rw[(qR H).1 b cs d nf y];exact nu M) (λ_=>⟨λb=>rfl,λb=>rfl,by rw[<-q5];exact xm M,EM _ M qj⟩) (Q:=Q) (K:=K) (λT w' G=>hK T w' (by
   rw[vj i p,S]at G;exact G))
  exact this
def Dn{α:Type}(a:α)(kC:ai aw):aw->ai α->ai α
 |_,[]=>[]
 |i,x::l=>(if kC.contains i then x else a)::Dn a kC (i+1) l
def St.mask(keepT keepB:ai aw)(ns:ai aw)(s:St):St where
 tmps:=Dn .any keepT 0 s.tmps
 blks:=Dn bk keepB 0 (s.blks.take (tW keepB))
 bu:=ns
def xM(gb:aw)(keepT keepB:ai aw)(ns:ai aw)(s:St):b5:=
 ((keepT.all λt=>(y7 s.tmps t .any).refs.all λb=>keepB.contains b&&(y7 s.blks b bk).isSome)&&(ch gb).all λb=>keepB.contains b)&&
  (s.bu.all (λb=>ns.contains b)&&s.bu.all λb=>!keepB.contains b||match y7 s.blks b bk with|some cs=>cs.all (λd=>match d.ref with|some a=>keepB.contains a&&(y7 s.blks a bk).isSome|none=>bj)|none=>bj)
def BZ{α:Type}(z d:α)(kC:ai aw):∀(i:aw)(l:ai α)(t:aw),(Dn z kC i l).getD t d=if t<y6 l then(if kC.contains (i+t)then y7 l t d else z)else d
 |i,[],t=>by simp[Dn]
 |i,x::l,t=>by
  cases t with
  |zero=>simp[Dn]
  |succ t=>
   have:=BZ z d kC (i+1) l t;simp only[Dn,iz,ey,this,Nat.add_assoc,vT 1 t,Nat.add_lt_add_iff_right]
def Hz{kC:ai aw}{b:aw}(h:kC.contains b=bj):b<tW kC:=by
 induction kC with
 |nil=>simp at h
 |cons x kC c=>
  have:x<tW (x::kC)/\tW kC<=tW (x::kC):=by show x<(if c3 x (tW kC)then tW kC else x+1)/\tW kC<=(if c3 x (tW kC)then tW kC else x+1);split;rename_i h;rw[apZ]at h;exact⟨h,apc _⟩;rename_i h;rw[apZ]at h;exact⟨by omega,by omega⟩
  by_cases a:b=x;rw[a];exact this.1;have:=c (by simpa [a]using h);omega
def UU(s:St)(keepT keepB ns:ai aw):
  (∀t,(s.mask keepT keepB ns).fs.tmp t=if keepT.contains t then s.fs.tmp t else .any)/\(∀b,(s.mask keepT keepB ns).fs.blk b=if keepB.contains b then s.fs.blk b else bk):=by
 refine⟨λt=>?_,λb=>?_⟩
 ·show(Dn .any keepT 0 s.tmps).getD t .any=_
  rw[BZ,aqa];by_cases h:t<y6 s.tmps
  ·rw[aph h];rfl
  ·rw[ape h]
   split
   ·simp[St.fs,bP,jy (Nat.le_of_not_lt h)]
   ·rfl
 ·show(Dn bk keepB 0 (s.blks.take (tW keepB))).getD b bk=_
  rw[BZ,aqa];by_cases a:keepB.contains b=bj
  ·have c:=Hz a
   rw[aph a,aph a];by_cases h:b<y6 (s.blks.take (tW keepB))
   ·rw[aph h]
    simp[St.fs,bP,c]
   ·rw[ape h]
    have:y6 s.blks<=b:=by simp at h;omega
    simp[St.fs,bP,jy this]
  ·rw[ape a,ape a];split<;>rfl
def Rel.mask{c:Ctx}{n:aw}{s:St}{a:Act}{w:bn}{gb:aw}{keepT keepB ns:ai aw}(h:Rel c n s.fs a w)(v:c.gb<=gb)(i:xM gb keepT keepB ns s=bj):Rel c n (s.mask keepT keepB ns).fs a w:=by obtain⟨o,g⟩:=UU s keepT keepB ns;unfold xM at i;rw[zLq,zLq,zLq]at i;obtain⟨⟨k1,k2⟩,k3,k4⟩:=i;rw[apH]at k1 k2 k3 k4;refine h.weaken (λt=>?_) (λb=>?_) (λb e=>?_) (λt b e=>?_) (λb cs f p d q r u=>?_) (λb e=>?_);rw[o t];split;exact y2 rfl;exact .inl rfl;rw[g b];split;exact y2 rfl;exact .inl rfl;exact k3 b (by simpa [St.fs]using e);rw[o t]at e;by_cases j:keepT.contains t=bj;rw[aph j]at e;have:=k1 t (by simpa using j);rw[apH]at this;have:=this b e;rw[zLq]at this;rw[g b,aph this.1];exact this.2;rw[ape j]at e;simp[D.refs]at e;rw[g b]at f;by_cases l:keepB.contains b=bj;rw[aph l]at f;have:=k4 b (by simpa [St.fs]using p);have k:y7 s.blks b bk=a6 cs:=f;rw[l,k]at this;simp only[kn,pT,gv]at this;have:=this d q;rw[u]at this;simp only[zLq]at this;rw[g r,aph this.1];exact this.2;rw[ape l]at f;cases f;rw[g b,aph (k2 b zT)]
def St.freeze(s:St)(b:aw)(cs:ai D):St:=⟨s.tmps.map (D.BD b cs),(xO s.bu (D.dD b cs) 0 s.blks).set b bk,s.bu⟩
variable {B:cA} {J:ai b3} {L:Type} {a e:aw} {b:ai aw} (i:aa Good) {j:St} {l:Code} {o:kf} {q:Ctx} {s:Act} {t:iw} {w:c7}
def LJ{b:aw}(s:y7 j.blks b bk=a6 h):(j.freeze b h).fs=j.fs.freeze b h:=by
 simp only[St.freeze,St.fs,as0.freeze];congr 1
 funext t
 simp only[bP,qW];cases j.tmps[t]?with
 |none=>rfl
 |some d=>rfl
 funext k
 rw[xU _ b k _ (by rw[BU];exact BW s),zh,aqa];by_cases a:k=b;rw[aph a,aph a];rw[ape a,ape a];rfl
def aO(n:aw)(l:ai (aw×D))(bl:ai (aw×ai D))(ns:ai aw:=[]):(lay n l bl ns).tmps.length=n:=by simp[lay]
def aB(n:aw)(l:ai (aw×D))(bl:ai (aw×ai D))(ns:ai aw):(lay n l bl ns).tmps.length=n:=by simp[lay]
def Gd(f:aw->L)(l:ai (aw×L))(h:l.map (λp=>f p.1)=l.map (·.2))(t:aw):(l.find? λp=>p.1==t).map (·.2)=if(l.map (·.1)).contains t then a6 (f t)else bk:=by
 induction l with
 |nil=>simp
 |cons p l b=>
  simp only[eZ,en]at h;by_cases a:p.1=t;rw[arx (by simpa using a)];simp[a,<-h.1];rw[aq4 (by simpa using a),b h.2];have:(t==p.1)=aj:=by simpa using aqZ a
  simp only[eZ,List.contains_cons,this,pT]
def ct(n:aw)(l:ai (aw×D))(bl:ai (aw×ai D))(ns:ai aw)(t:aw):(lay n l bl ns).fs.tmp t=if t<n then((l.find? λp=>p.1==t).map (·.2)).getD .any else .any:=by show((ch n).map λt=>((l.find? λp=>p.1==t).map (·.2)).getD D.any).getD t .any=_;rw[apf,aqz];split;rw[apj (by simpa)];simp;rw[apL zT];rfl
def xQ(n:aw)(l:ai (aw×D))(bl:ai (aw×ai D))(ns:ai aw)(b:aw):(lay n l bl ns).fs.blk b=if b<tW (bl.map (·.1))then(bl.find? λp=>p.1==b).map (·.2)else bk:=by show((ch (tW (bl.map (·.1)))).map λb=>(bl.find? λp=>p.1==b).map (·.2)).getD b bk=_;rw[apf,aqz];split;rw[apj (by simpa)];simp;rw[apL zT];rfl
def rT{n:aw}{l:ai (aw×D)}{bl:ai (aw×ai D)}{ns:ai aw}(o:y6 j.tmps=n)(f:(l.map λp=>y7 j.tmps p.1 .any)=l.map (·.2))(e:(bl.map λp=>y7 j.blks p.1 bk)=bl.map λp=>a6 p.2):
  (j.mask (l.map (·.1)) (bl.map (·.1)) ns).fs=(lay n l bl ns).fs:=by
 obtain⟨s,i⟩:=UU j (l.map (·.1)) (bl.map (·.1)) ns;have f1:∀t,(j.mask (l.map (·.1)) (bl.map (·.1)) ns).fs.tmp t=(lay n l bl ns).fs.tmp t:=by intro t;rw[s,ct,Gd (λt=>y7 j.tmps t .any) l f t];by_cases a:(l.map (·.1)).contains t=bj;rw[aph a,aph a];by_cases d:t<n;rw[aph d];rfl;rw[ape d];show y7 j.tmps t .any=.any;rw[apf,apL za];rfl;rw[ape a,ape a];split<;>rfl
 have f2:∀b,(j.mask (l.map (·.1)) (bl.map (·.1)) ns).fs.blk b=(lay n l bl ns).fs.blk b:=by
  intro b;rw[i];have k:(bl.map λp=>(p.1,a6 p.2)).map (λp=>y7 j.blks p.1 bk)=(bl.map λp=>(p.1,a6 p.2)).map (·.2):=by simpa [aqG,Function.comp]using e
  have:=Gd (λb=>y7 j.blks b bk) (bl.map λp=>(p.1,a6 p.2)) k b;rw[asH]at this;simp only[sj]at this;have h:((λx:aw×bF (ai D)=>x.1)∘λp:aw×ai D=>(p.1,a6 p.2))=λp=>p.1:=rfl
  have g:((λp:aw×bF (ai D)=>p.1==b)∘λp:aw×ai D=>(p.1,a6 p.2))=λp=>p.1==b:=rfl
  rw[h,g]at this;rw[xQ];by_cases a:(bl.map (·.1)).contains b=bj;rw[aph a]at this⊢;rw[aph (Hz a)];cases c:bl.find? (λp=>p.1==b)with
  |none=>rw[c]at this;simp at this
  |some p=>rw[c]at this;simp at this⊢;exact this.symm
  rw[ape a]at this⊢;cases c:bl.find? (λp=>p.1==b)with
  |some p=>rw[c]at this;simp at this
  |none=>split<;>rfl
 show(⟨(j.mask (l.map (·.1)) (bl.map (·.1)) ns).fs.tmp,(j.mask (l.map (·.1)) (bl.map (·.1)) ns).fs.blk,λb=>ns.contains b⟩:as0)=⟨(lay n l bl ns).fs.tmp,(lay n l bl ns).fs.blk,λb=>ns.contains b⟩;rw[funext f1,funext f2]
abbrev Out(P:cp)(Good:bn->Prop):=iw×St×ai (Item P Good)×ai (cY×cY)
def iter(g:St->ai (Item P Good)->bF (Out P Good)):aw->St->ai (Item P Good)->bF (Out P Good)
 |0,_,_=>bk
 |m+1,s,b=>match g s b with
  |some (y3,s1,a,f)=>match iter g m s1 a with
   |some (e,s2,c,d)=>a6 (e,s2,c,f++d)
   |none=>bk
  |r=>r
def GV(gb:aw)(k:Code)(g:St->ai (Item P Good)->bF (Out P Good))(m:aw)(s:St)(c:ai (Item P Good)):bF (Out P Good):=
 match c with
 |.code (n:=n) (gb:=b) (k:=a) (l:=l) (bl:=bl) (ns:=ns) (e:=e) (s':=s') _::tr'=>
  if xM gb (l.map (·.1)) (bl.map (·.1)) ns s&&y6 s'.tmps==y6 s.tmps then
   a6 (e,s',tr',[(.code k (y6 s.tmps) gb (l.map λp=>y7 s.tmps p.1 .any) (bl.map λp=>y7 s.blks p.1 bk),.code a n b (l.map (·.2)) (bl.map λp=>a6 p.2))])else bk
 |.auto A:: .code (n:=n) (gb:=b) (k:=a) (l:=l) (bl:=bl) (ns:=ns) (e:=e) (s':=s') _::tr'=>
  if xM gb (l.map (·.1)) (bl.map (·.1)) ns s&&y6 s'.tmps==y6 s.tmps then
   a6 (e,s',.auto A::tr',[(.code k (y6 s.tmps) gb (l.map λp=>y7 s.tmps p.1 .any) (bl.map λp=>y7 s.blks p.1 bk),.code a n b (l.map (·.2)) (bl.map λp=>a6 p.2))])else bk
 |_=>iter g m s c
def resultD(P:cp)(s:St):ResultVar->bF D
 |.tmp t=>a6 (y7 s.tmps t .any)
 |.cell x t=>match cu P t,tU P t,y7 s.tmps x .any with
  |some sz,a6 a,y0 b off=>match y7 s.blks b bk with
   |some cs=>if c3 0 sz&&hM (off+sz) (y6 cs) then a6 (if a then y4 ((cs.drop off).take sz)else(cs.drop off).headD .any)else bk
   |none=>bk
  |some sz,a6 a,.aJ cs=>if c3 0 sz&&hM sz (y6 cs) then a6 (if a then y4 (cs.take sz)else cs.headD .any)else bk
  |_,_,_=>bk
def gw(P:cp)(s:St):ai ResultVar->bF (ai D)
 |[]=>a6 []
 |r::rs=>match resultD P s r,gw P s rs with
  |some d,a6 ds=>a6 (d::ds)
  |_,_=>bk
def o9:ai D->D
 |[d]=>d
 |ds=>.aP ds
def sY:ai b3->b3
 |[v]=>v
 |vs=>.tuple vs.toArray
def dA(n:aw)(args:ai D)(blks:ai (bF (ai D)))(ns:ai aw:=[]):St:=⟨args++cd (n-y6 args) (yT fg),blks,ns⟩
abbrev Runner(P:cp)(Good:bn->Prop):=ai aw->aw->Code->St->ai (Item P Good)->bF (Out P Good)
def D.single(d:D):b5:=d.refs.isEmpty||d.ref.isSome
def Tg(gb:aw):aw->ai aw->St->bF St
 |0,_,s=>a6 s
 |_+1,[],s=>a6 s
 |n+1,b::l,s=>match y7 s.blks b bk with
  |none=>Tg gb n l s
  |some cs=>match cs.filterMap D.ref with
   |[]=>match hM gb b with
    |true=>Tg gb n l (s.freeze b cs)
    |false=>bk
   |r::rs=>Tg gb n (r::rs++b::l) s
def agd(P:cp)(fn:kf)(gb:aw)(s:St):bF St:=match gw P s fn.results.toList with
 |some a=>Tg gb 64 (a.flatMap D.refs) s
 |none=>bk
def wK(P:cp){Good:bn->Prop}(g:Runner P Good):Inline P Good:=λb ro fn a blks f e=>NC b λd=>
 match fn.body with
 |some k=>if hM (y6 a) fn.ntmps then
   match g ro d k (dA fn.ntmps a blks f) e with
   |some (y3,s0,tr',eqs)|some (.ret,s0,tr',eqs)=>match(if ro.contains 998 then agd P fn d s0 else a6 s0)with
    |some s=>match gw P s fn.results.toList with
     |some c=>if y6 c==1||c.all D.single then a6 (o9 c,s.blks,s.bu,tr',eqs)else bk
     |none=>bk
    |none=>bk
   |_=>bk
  else bk
 |none=>bk
def Mz(s t:St):b5:=oG (yr 8) s.tmps t.tmps&&uK s.blks t.blks&&decide (s.bu=t.bu)
def KZ{t:St}(h:Mz j t=bj):j=t:=by cases j;cases t;simp only[Mz,zLq,cm]at h;rw[j4 (λa=>pZ 8 a) h.1.1,se h.1.2,h.2]
def L7(P:cp){Good:bn->Prop}(inl:Inline P Good)(ops:eY e9)(ro:ai aw)(gb:aw)(a:ai (Item P Good))(fin:St):aw->eY b5->St->b5
 |0,listed,s=>match oB .any ops listed with
  |[]=>Mz s fin
  |_::_=>aj
 |fuel+1,listed,s=>match oB .any ops listed with
  |[]=>Mz s fin
  |j::rd=>(j::rd).all λi=>match ops[i]?with
   |some o=>match pQ P inl ops o ro gb (mxA aj gb s) s.fs s.blks s.bu a with
    |some (R,_,[])=>L7 P inl ops ro gb a fin fuel (listed.setIfInBounds i bj) (s.app o.dst R)
    |_=>aj
   |none=>aj
def Gi{c:Ctx}{Q:sx->Act->bn->Prop}{inl:Inline P Good}(t:z9 P Good inl)(u:c.P=P)(A:c.Good=Good)(v:aa Good)(x:c.Good c.w0){gb:aw}(p:c.gb<=gb){ops:eY e9}{ro:ai aw}{B:ai (Item P Good)}{fin:St}
  (q:∀l w',Rel c fin.tmps.length fin.fs l w'->Q .normal l w'):
  ∀(fuel:aw)(listed:eY b5)(s:St)(a:Act)(w:bn),L7 P inl ops ro gb B fin fuel listed s=bj->Rel c s.tmps.length s.fs a w->wpAnyIn (Fw c.rd) 0 P .any ops Q fuel listed a w
 |0,listed,s,a,w,h,k=>by unfold L7 at h;split at h;rename_i e;obtain rfl:=KZ h;exact⟨e,q a w k⟩;cases h
 |fuel+1,listed,s,a,w,h,k=>by
  unfold L7 at h;split at h;rename_i e;obtain rfl:=KZ h;exact⟨λ_=>q a w k,λi f=>by rw[e]at f;cases f⟩;rename_i j rd e;refine⟨λz=>(by rw[e]at z;cases z),λi f=>?_⟩;rw[e]at f;have g:=apH.1 h i f;split at g;rename_i o D;split at g;rename_i R I r;obtain⟨H,G⟩:=wA r;unfold wpOpIn;simp only[D];refine h_ t u A v x p k r (λe E=>by cases E) (λb cs d C F=>by rw[(qR r).1 b cs d C F];exact nu s) (λ_=>⟨λb=>rfl,λb=>rfl,xm s,EM _ s p⟩) λl w' y=>?_
  rw[<-H,<-G]at y;exact Gi t u A v x p q fuel _ _ l w' g y;cases g;cases g
def N4{c:Ctx}{Q:sx->Act->bn->Prop}{inl:Inline P Good}(f:z9 P Good inl)(k:c.P=P)(q:c.Good=Good)(l:aa Good)(p:c.Good c.w0){gb:aw}(e:c.gb<=gb)(h:P.follows .mixedOrders=bj){id:aw}{ops:eY e9}{ro:ai aw}{d:ai (Item P Good)}{s fin:St}{a:Act}{w:bn}
  (i:L7 P inl ops ro gb d fin ops.size (jj ops.size aj) s=bj) (g:Rel c s.tmps.length s.fs a w)
  (j:∀b w',Rel c fin.tmps.length fin.fs b w'->Q .normal b w'):(Code.region id ops bj).wpIn (Fw c.rd) 0 P Q a w:=by
 refine wpIn_region_any h ?_;obtain⟨β,X,o⟩:=g;exact Gi f k q l p e j _ _ s a _ i ⟨β,X,o.grow ((Below.refl _ _).drew)⟩
def aj6(gb t:aw)(s:St):bF St:=match y7 s.tmps t .any with
 |y0 b _=>match y7 s.blks b bk with
  |some cs=>Tg gb 64 (cs.filterMap D.ref) s
  |none=>a6 s
 |d=>Tg gb 64 d.refs s
def Ja(gb id:aw):ai aw->St->bF St
 |[],s=>a6 s
 |m::ro,s=>match ml (m/1000) (1000+id)with
  |true=>match aj6 gb (m%1000) s with
   |some s'=>Ja gb id ro s'
   |none=>bk
  |false=>match ml (m/1000) (2000+id)with
   |true=>match Tg gb 64 (y7 s.tmps (m%1000) .any).refs s with
    |some s'=>Ja gb id ro s'
    |none=>bk
   |false=>Ja gb id ro s
def mX(P:cp){Good:bn->Prop}:aw->Runner P Good
  |0,_,_,_,_,_=>bk
  |m+1,ro,gb,k,s,c=>match c with
    |.freeze b::d=>match s.blks.getD b bk with
      |some cs=>if hM gb b&&(!s.bu.contains b|| !dX cs)then match mX P m ro gb k (s.freeze b cs) d with
          |some (e,s',tr',eqs)=>a6 (e,s',tr',(.p True,.p True)::eqs)
          |none=>bk
        else bk
      |none=>bk
    |c=>match k with
      |.skip=>a6 (.normal,s,c,[])
      |.ret=>a6 (.ret,s,c,[])
      |.exit id=>a6 (.exit id,s,c,[])
      |.seq x y=>match mX P m ro gb x s c with
        |some (.normal,s1,d,h)=>match mX P m ro gb y s1 d with
          |some (e,s2,l,o)=>a6 (e,s2,l,h++o)
          |none=>bk
        |r=>r
      |.cond x a b=>match s.fs.ev x with
        |.lit (.bool bj)=>mX P m ro gb a s c
        |.lit (.bool aj)=>mX P m ro gb b s c
        |_=>bk
      |.block id x=>match mX P m ro gb x s c with
        |some (.exit f,s1,d,h)=>if f==id then a6 (.normal,s1,d,h)else a6 (.exit f,s1,d,h)
        |r=>r
      |.region id ops draw=>match Ja gb id ro s with
       |none=>bk
       |some s=>match me P (wK P (mX P m)) (draw&& !ro.contains (3000000+id)) ops ro gb ops.toList s c with
        |some (s',tr',eqs,i)=>if draw then(if P.follows .mixedOrders&&E' ops s.blks.length ops.toList i then a6 (.normal,s',tr',eqs)else if P.follows .mixedOrders&&(!ro.contains (3000000+id)&&Hw ops ops.toList i)then a6 (.normal,s',tr',eqs)else if P.follows .mixedOrders&&Ca ops s ops.toList i then a6 (.normal,s',tr',eqs)else if P.follows .mixedOrders&&L7 P (wK P (mX P m)) ops ro gb c s' ops.size (jj ops.size aj) s then a6 (.normal,s',tr',eqs)else bk)else a6 (.normal,s',tr',eqs)
        |none=>bk
      |.loop x=>GV gb (.loop x) (mX P m ro gb x) m s c
      |.rangeFunc g j x y=>GV gb (.rangeFunc g j x y) (λ_ _=>bk) m s c
      |_=>bk
def iw.BA:iw->sx
 |.normal=>.normal
 |.exit id=>.exit id
 |.ret=>.ret
def nK(P:cp)(Good:bn->Prop)(gb:aw)(k:Code)(s:St)(e:iw)(s':St):Prop:=
 y6 s'.tmps=y6 s.tmps/\∀(c:Ctx)(Q:sx->Act->bn->Prop)(a:Act)(w:bn),c.P=P->c.Good=Good->c.Good c.w0->c.gb<=gb->Rel c (y6 s.tmps) s.fs a w->
  (∀d b,Rel c (y6 s.tmps) s'.fs d b->Q e.BA d b)->k.wpIn (Fw c.rd) 0 P Q a w
def YB{n gb:aw}{k:Code}{s s':St}{e:iw}(h:aI P Good n gb k s e s')(f:s.tmps.length=n)(d:s'.tmps.length=n):nK P Good gb k s e s':=by
 refine⟨by omega,λc Q a w p o l g j i=>?_⟩;subst f;refine h c Q a w p o l g j λr b q=>?_
 have:=i r b q;cases e<;>exact this
def Wn{gb:aw}{k:Code}{s s':St}{e:iw}(h:nK P Good gb k s e s'):aI P Good s.tmps.length gb k s e s':=by
 intro c Q a w l j i d g f;refine h.2 c Q a w l j i d g λp b o=>?_
 have:=f p b o;cases e<;>exact this
def IW{gb:aw}{body:Code}{g:St->ai (Item P Good)->bF (Out P Good)}
  (t:∀s d e s' tr' eqs,g s d=a6 (e,s',tr',eqs)->jU eqs->nK P Good gb body s e s'):
  ∀(m:aw)(s:St)(d:ai (Item P Good))(e:iw)(s':St)(tr':ai (Item P Good))(eqs:ai (cY×cY)),iter g m s d=a6 (e,s',tr',eqs)->jU eqs->
   s'.tmps.length=s.tmps.length/\e≠.normal/\∀(c:Ctx)(Q:sx->Act->bn->Prop)(a:Act)(w:bn),c.P=P->c.Good=Good->c.Good c.w0->c.gb<=gb->Rel c s.tmps.length s.fs a w->
    (∀b w',Rel c s.tmps.length s'.fs b w'->Q e.BA b w')->Code.roundsIn (Fw c.rd) 0 P body Q m a w
 |0,s,d,e,s',tr',eqs,h,_=>by simp[iter]at h
 |m+1,s,d,e,s',tr',eqs,h,he=>by
  simp only[iter]at h;split at h
  ·rename_i s1 E I A
   split at h
   ·rename_i B s2 F H z
    simp only[zIq,zJq]at h;obtain⟨rfl,rfl,rfl,rfl⟩:=h;obtain⟨C,D⟩:=he.append;obtain⟨o,p⟩:=t _ _ _ _ _ _ A C;obtain⟨G,x,v⟩:=IW t m _ _ _ _ _ _ z D;refine⟨by omega,x,λc Q a w l k j i r q=>?_⟩
    rw[roundsIn_succ];exact p c _ a w l k j i r λb w' u=>v c Q b w' l k j i (by rw[o];exact u) (by rw[o];exact q)
   ·cases h
  ·rename_i y
   obtain⟨o,p⟩:=t _ _ _ _ _ _ h he;have f:e≠.normal:=by rintro rfl;exact y _ _ _ h
   refine⟨o,f,λc Q a w l k j i r q=>?_⟩
   rw[roundsIn_succ];refine p c _ a w l k j i r λb w' u=>?_
   have:=q b w' u;cases e with
   |normal=>exact api rfl f
   |exit id=>exact this
   |ret=>exact this
def J9{c:Ctx}{n:aw}{s:St}{a:Act}{w:bn}{β:aw->aw}{X:aw->Prop}(h:df c n s.fs a w β X){r:ResultVar}{d:D}(e:resultD c.P s r=a6 d):
  ∃v,((match r with|.tmp t=>pure (a.tmps.getD t fg)|.cell x t=>do loadVar t (<-asAddr (a.tmps.getD x fg))):Sem b3).run c.P w=.ok v w/\bU β w X v d/\∀b∈d.refs,(s.fs.blk b).isSome=bj:=by
 unfold resultD at e;split at e;rename_i t;simp only[zIq]at e;subst e;exact⟨_,rfl,h.tmp t,h.nd t⟩;rename_i x t;have l:=h.tmp x;split at e;rename_i sz I b off p q o;split at e;rename_i cs j;split at e;rename_i g;simp only[zLq,n4,qc]at g;simp only[zIq]at e;subst e;have f:s.fs.tmp x=.ptr b off:=o;rw[f]at l;obtain⟨B,y,u⟩:=Lh h (off:=off) j;obtain⟨v,z,k⟩:=Lv p q y u g.1 zT;obtain⟨_,_,A,_,_,_,F⟩:=h.blk b cs j;exact⟨v,by simp[Ah l,asAddr,z],k,Aj za (λd E H J=>(h.qS b cs j d E H J).2) λ_=>AO F⟩;cases e;cases e;rename_i sz I cs p q o;split at e;rename_i g;simp only[zLq,n4,qc]at g;simp only[zIq]at e;subst e;have f:s.fs.tmp x=.aJ cs:=o;rw[f]at l;obtain⟨K,B,G,y,u⟩:=qM (l.pure rfl);obtain⟨v,z,k⟩:=PL p q y (λi C=>(u i C).2) g.1 g.2;exact⟨v,by simp[G,asAddr,z],.c (.p k),λb j=>by rw[eV k]at j;cases j⟩;cases e;cases e
def yS{c:Ctx}{n:aw}{s:St}{a:Act}{w:bn}{β:aw->aw}{X:aw->Prop}(h:df c n s.fs a w β X):
  ∀(rs:ai ResultVar)(ds:ai D),gw c.P s rs=a6 ds->
   ∃vs,(rs.mapM λr=>((match r with|.tmp t=>pure (a.tmps.getD t fg)|.cell x t=>do loadVar t (<-asAddr (a.tmps.getD x fg))):Sem b3)).run c.P w=.ok vs w/\
    vs.length=ds.length/\(∀i(h:i<vs.length)(F:i<ds.length),bU β w X vs[i] ds[i])/\∀d∈ds,∀b∈d.refs,(s.fs.blk b).isSome=bj
 |[],ds,e=>by simp only[gw,zIq]at e;subst e;exact⟨[],by simp,rfl,λi h=>api h zb,λd h=>by simp at h⟩
 |r::rs,ds,e=>by
  simp only[gw]at e;split at e;rename_i d f C B;simp only[zIq]at e;subst e;obtain⟨v,A,z,l⟩:=J9 h C;obtain⟨vs,y,u,q,p⟩:=yS h rs f B;refine⟨v::vs,by simp only[List.mapM_cons,kl,A,y,ie,n3],by simp[u],λi o k=>?_,λE g b j=>?_⟩;cases i with
  |zero=>exact z
  |succ i=>simpa using q i (by simpa using o) (by simpa using k)
  obtain rfl|g:=apo.1 g
  exact l b j;exact p E g b j;cases e
def wu{w:bn}{F:aw->Prop}(ds:aR w F J h):b9 w F (sY J) (o9 h):=by
 match J,h,ds with
 |[v],[d],a=>exact a.head
 |[],[],a=>exact .aP [] [] a.1 a.2
 |v::b::J,d::c::h,a=>exact .aP _ _ a.1 a.2
 |[],d::h,a=>have:=a.1;simp at this
 |v::J,[],a=>have:=a.1;simp at this
 |[v],d::c::h,a=>have:=a.1;simp at this
 |v::b::J,[d],a=>have:=a.1;simp at this
def kV{n:aw}{w:bn}{β:aw->aw}{X:aw->Prop}(c:df q n j.fs s w β X)(e:gw q.P j o.results.toList=a6 h):
  ∃vs,(results o s.tmps).run q.P w=.ok (sY vs) w/\
   vs.length=h.length/\(∀i(c:i<vs.length)(fn:i<h.length),bU β w X vs[i] h[i])/\∀d∈h,∀b∈d.refs,(j.fs.blk b).isSome=bj:=by
 obtain⟨vs,l,k,a,g⟩:=yS c _ _ e;have hm:(o.results.mapM λr=>((match r with|.tmp t=>pure (s.tmps.getD t fg)|.cell x t=>do loadVar t (<-asAddr (s.tmps.getD x fg))):Sem b3)).run q.P w=.ok vs.toArray w:=by rw[Array.mapM_eq_mapM_toList,Sem.run_map,l];rfl
 refine⟨vs,?_,k,a,g⟩;have ds:sY vs=if c:vs.toArray.size=1 then vs.toArray[0]else .tuple vs.toArray:=by
  match vs with
  |[]=>rfl
  |[v]=>rfl
  |v::p::vs=>
   rw[dif_neg zb];rfl
 rw[ds];unfold results;rw[kl];exact aql (λr=>Result.andThen r λ(s:eY b3) f=>Result.ok (if c:s.size=1 then s[0]else Value.tuple s) f) hm
def qE{Q':b3->D->Prop}{n:aw}{blks:ai (bF (ai D))}{ns:ai aw}(j:y6 J=y6 h)(g:y6 h<=n)
  (f:∀i(vals:i<y6 J)(k:i<y6 h),Q' J[i] h[i]) (e:Q' fg (yT fg)) (d:Q' fg .any) (t:aw):
  Q' ((J.toArray++jj (n-J.toArray.size) fg).getD t fg) ((dA n h blks ns).fs.tmp t):=by
 show Q' _ ((h++cd (n-y6 h) (D.lit fg)).getD t .any);by_cases b:t<y6 h;have a:(h++cd (n-y6 h) (D.lit fg)).getD t .any=h[t]:=by simp[bP,g6 b,b]
 have c:(J.toArray++jj (n-J.toArray.size) fg).getD t fg=J[t]:=by
  have:t<y6 J:=za
  simp[hZ,Array.getElem?_append,this]
 rw[a,c];exact f t za b;have c:(J.toArray++jj (n-J.toArray.size) fg).getD t fg=fg:=by
  have:¬t<y6 J:=za
  simp[hZ,Array.getElem?_append,this,Array.getElem?_replicate];split<;>rfl
 rw[c];by_cases l:t<n;have a:(h++cd (n-y6 h) (D.lit fg)).getD t .any=yT fg:=by rw[apf,apS za,aqy,aph za];rfl
 rw[a];exact e;have a:(h++cd (n-y6 h) (D.lit fg)).getD t .any=.any:=by rw[apf,apS za,aqy,ape za];rfl
 rw[a];exact d
def qG{n:aw}{blks:ai (bF (ai D))}{ns:ai aw}{p:aw->Prop}(args:∀d∈h,∀b∈d.refs,p b):∀t b,b∈((dA n h blks ns).fs.tmp t).refs->p b:=by
 intro t b e;have a:b∈((h++cd (n-y6 h) (D.lit fg)).getD t .any).refs:=e;by_cases c:t<y6 h;have f:(h++cd (n-y6 h) (D.lit fg)).getD t .any=h[t]:=by simp[bP,g6 c,c]
 rw[f]at a;exact args _ (apD _) b a;rw[apf,apS za,aqy]at a;split at a<;>simp[D.refs]at a
def o5{n:aw}{blks:ai (bF (ai D))}{ns:ai aw}(args:y6 h<=n):(dA n h blks ns).tmps.length=n:=by simp[dA];omega
def B_{c:Ctx}{n gb:aw}{a:Act}{w:bn}(e:c.gb<=gb):∀(m:aw)(l:ai aw)(s s':St),Tg gb m l s=a6 s'->Rel c n s.fs a w->Rel c n s'.fs a w
 |0,l,s,s',h,d=>by simp only[Tg,zIq]at h;subst h;exact d
 |m+1,[],s,s',h,d=>by simp only[Tg,zIq]at h;subst h;exact d
 |m+1,b::l,s,s',h,d=>by simp only[Tg]at h;split at h;exact B_ e m l s s' h d;rename_i cs g;split at h;rename_i f;split at h;rename_i hle;rw[aqB]at hle;refine B_ e m l _ s' h ?_;rw[LJ g];obtain⟨β,X,i⟩:=d;exact⟨β,_,i.freeze (b:=b) g (filterMap_nil f) za⟩;cases h;exact B_ e m _ s s' h d
def agc{n gb:aw}{w:bn}{ro:ai aw}{s':St}(d:q.gb<=gb)(h:(if ro.contains 998 then agd P o gb j else a6 j)=a6 s')(b:Rel q n j.fs s w):Rel q n s'.fs s w:=by split at h;unfold agd at h;split at h;exact B_ d _ _ _ _ h b;cases h;cases h;exact b
def AE{gb:aw}:∀(m:aw)(l:ai aw)(s s':St),Tg gb m l s=a6 s'->y6 s'.tmps=y6 s.tmps
 |0,l,s,s',h=>by simp only[Tg,zIq]at h;subst h;rfl
 |m+1,[],s,s',h=>by simp only[Tg,zIq]at h;subst h;rfl
 |m+1,b::l,s,s',h=>by simp only[Tg]at h;split at h;exact AE m l s s' h;split at h;split at h;rw[AE m l _ s' h];simp[St.freeze];cases h;exact AE m _ s s' h
def age{gb t:aw}{s':St}(h:aj6 gb t j=a6 s'):y6 s'.tmps=y6 j.tmps/\∀(c:Ctx)(n:aw)(a:Act)(w:bn),c.gb<=gb->Rel c n j.fs a w->Rel c n s'.fs a w:=by unfold aj6 at h;split at h;split at h;exact⟨AE _ _ _ _ h,λc n a w d b=>B_ d _ _ _ _ h b⟩;cases h;exact⟨rfl,λ_ _ _ _ _ b=>b⟩;exact⟨AE _ _ _ _ h,λc n a w d b=>B_ d _ _ _ _ h b⟩
def DF{gb id:aw}:∀(ro:ai aw)(s s':St),Ja gb id ro s=a6 s'->y6 s'.tmps=y6 s.tmps/\∀(c:Ctx)(n:aw)(a:Act)(w:bn),c.gb<=gb->Rel c n s.fs a w->Rel c n s'.fs a w
 |[],s,s',h=>by simp only[Ja,zIq]at h;subst h;exact⟨rfl,λ_ _ _ _ _ b=>b⟩
 |m::ro,s,s',h=>by simp only[Ja]at h;split at h;split at h;rename_i s1 e;obtain⟨a1,i⟩:=age e;obtain⟨g,f⟩:=DF ro s1 s' h;exact⟨g.trans a1,λc n a w d b=>f c n a w d (i c n a w d b)⟩;cases h;split at h;split at h;rename_i s1 e;obtain⟨g,f⟩:=DF ro s1 s' h;exact⟨g.trans (AE _ _ _ _ e),λc n a w d b=>f c n a w d (B_ d _ _ _ _ e b)⟩;cases h;exact DF ro s s' h
def n_{g:Runner P Good}(hg:∀ro gb k s E e s' tr' eqs,g ro gb k s E=a6 (e,s',tr',eqs)->jU eqs->nK P Good gb k s e s'):z9 P Good (wK P g):=by
 intro F ro fn q blks ns E d blks' ns' tr' eqs h he;unfold wK at h;rw[oR]at h;split at h
 ·rename_i k hk
  split at h
  ·rename_i hle
   rw[aqB]at hle;have key:∀e s0 s a,g ro F k (dA fn.ntmps q blks ns) E=a6 (e,s0,tr',eqs)->(e=.normal\/e=.ret)->(if ro.contains 998 then agd P fn F s0 else a6 s0)=a6 s->gw P s fn.results.toList=a6 a->
     (a.length==1||a.all D.single)=bj->kh P Good fn F q blks ns (o9 a) s.blks s.bu:=by
    intro e s0 s a y eh o A O f hf c w β X vals q1 q2 q3 N qr qd l Z ff U;subst q1;have hs:=hg _ _ _ _ _ _ _ _ _ y he;have hlen:=o5 (blks:=blks) (ns:=ns) hle;have hF:Fw c.rd=eD:=by rw[qr];rfl
    refine(n2 (n:=0)).1 (oi hf hk trivial ?_);rw[<-hF];refine hs.2 c _ _ w rfl q2 q3 N ⟨β,X,qd.symm,?_,λt=>?_,?_,l.blk,l.qS,l.inj,l.F,l.uZ,l.oH,l.below,l.gh,l.i_,⟨l.kp.obj,l.kp.x,l.kp.lt,l.kp.off⟩⟩ λT x h'=>?_
    ·rw[hlen];simp;omega
    ·exact qE (Q':=λv d=>bU β w X v d) Z hle ff (.c (.p (.lit _))) (.c (.p (.any _))) t
    ·exact qG (p:=λb=>(((dA fn.ntmps q blks ns).fs).blk b).isSome=bj) U
    ·obtain⟨u,z,j⟩:=agc N o h'
     obtain⟨r,h1,L,K,S⟩:=kV j A;have V:T.defers=[]/\∃v,(results fn T.tmps).run c.P x=.ok v x/\(∃C u z,og v=.returned C/\df c 0 ⟨λ_=>.any,λb=>s.blks.getD b bk,λb=>s.bu.contains b⟩ ⟨#[],[]⟩ x u z/\bU u x z C (o9 a)/\
       ∀b∈(o9 a).refs,(s.blks.getD b bk).isSome=bj):=by
      refine⟨j.defers.trans qd,sY r,h1,sY r,u,z,rfl,⟨qd.symm,rfl,λt=>.c (.p (.any _)),λt b J=>by simp[D.refs]at J,j.blk,j.qS,j.inj,j.F,j.uZ,j.oH,j.below,j.gh,j.i_,⟨j.kp.obj,j.kp.x,j.kp.lt,j.kp.off⟩⟩,?_⟩
      by_cases B:a.length=1
      ·obtain⟨d,rfl⟩:=ap_.1 B
       obtain⟨v,rfl⟩:=ap_.1 (L.trans B);exact⟨K 0 zb zb,S d zb⟩
      ·have od:∀d∈a,d.refs=[]\/∃b,d.ref=a6 b:=by
        simp only[hO,ec,B,false_or,gv]at O;intro d I;have:=O d I;unfold D.single at this;rw[ap6,asR]at this;exact this.imp id apn.1
       have hl:LQ (aX u x z) r a:=⟨L,λi Q G=>by
        rcases od a[i] (apD G)with e|⟨b,e⟩
        ·exact .p ((K i Q G).pure e)
        ·exact(K i Q G).cell (λW M=>by rw[M]at e;cases e) (λW M=>by rw[M]at e;cases e)⟩
       have ep:o9 a=.aP a:=by
        match a,B with
        |[],_=>rfl
        |[d],h=>exact api rfl h
        |d::d'::a,_=>rfl
       have ev:sY r=.tuple r.toArray:=by
        match r,(L▸B:r.length≠1)with
        |[],_=>rfl
        |[v],h=>exact api rfl h
        |v::C::r,_=>rfl
       rw[ep,ev];refine⟨.aP r a hl,λb J=>?_⟩
       obtain⟨d,I,e⟩:=apM.1 J;exact S d I b (pN e)
     obtain rfl|rfl:=eh<;>exact V
   split at h
   ·rename_i s0 ox Y y
    split at h
    ·rename_i s o
     split at h
     ·rename_i a A
      split at h
      ·rename_i H
       simp only[zIq,zJq]at h;obtain⟨rfl,rfl,rfl,rfl,rfl⟩:=h;exact key _ _ _ _ y (.inl rfl) o A H
      ·cases h
     ·cases h
    ·cases h
   ·rename_i s0 ox Y y
    split at h
    ·rename_i s o
     split at h
     ·rename_i a A
      split at h
      ·rename_i H
       simp only[zIq,zJq]at h;obtain⟨rfl,rfl,rfl,rfl,rfl⟩:=h;exact key _ _ _ _ y (.inr rfl) o A H
      ·cases h
     ·cases h
    ·cases h
   ·cases h
  ·cases h
 ·cases h
def iK(N:aa Good):∀(m:aw)(ro:ai aw)(gb:aw)(k:Code)(s:St)(L:ai (Item P Good))(e:iw)(s':St)(tr':ai (Item P Good))(eqs:ai (cY×cY)),
  mX P m ro gb k s L=a6 (e,s',tr',eqs)->jU eqs->nK P Good gb k s e s'
 |0,ro,gb,k,s,L,e,s',tr',eqs,h,_=>by simp[mX]at h
 |m+1,ro,gb,k,s,L,e,s',tr',eqs,h,he=>by
  have B:=iK N m;unfold mX at h;split at h;rename_i b yz;split at h;rename_i cs jz;split at h;rename_i hle;rw[zLq,aqB]at hle;obtain⟨hle,V⟩:=hle;split at h;rename_i e2 s2 S sM h2;simp only[zIq,zJq]at h;obtain⟨rfl,rfl,rfl,rfl⟩:=h;obtain⟨r,t⟩:=B _ _ _ _ _ _ _ _ _ h2 (λx U=>he x (apX _ U));have hl:(s.freeze b cs).tmps.length=s.tmps.length:=by simp[St.freeze]
  rw[hl]at r t;refine⟨r,λc Q a w j i g d f o=>t c Q a w j i g d ?_ o⟩;obtain⟨β,X,O⟩:=f;rw[LJ jz];refine⟨β,_,O.freeze (b:=b) jz ?_ za⟩;rw[ap6,fV,fV]at V;obtain hn|hn:=V
  exact l_ O jz hn;exact je hn;cases h;cases h;cases h;split at h;simp only[zIq,zJq]at h;obtain⟨rfl,rfl,rfl,rfl⟩:=h;exact⟨rfl,λc Q a w _ _ _ _ Y W=>wpIn_skip (W a w Y)⟩;simp only[zIq,zJq]at h;obtain⟨rfl,rfl,rfl,rfl⟩:=h;exact⟨rfl,λc Q a w _ _ _ _ Y W=>wpIn_ret (W a w Y)⟩;simp only[zIq,zJq]at h;obtain⟨rfl,rfl,rfl,rfl⟩:=h;exact⟨rfl,λc Q a w _ _ _ _ Y W=>wpIn_exit (W a w Y)⟩;rename_i x y;split at h;rename_i s1 yz e1 C;split at h;rename_i e2' s2 S e2 h2;simp only[zIq,zJq]at h;obtain⟨rfl,rfl,rfl,rfl⟩:=h;obtain⟨XB,Ef⟩:=he.append;obtain⟨r,t⟩:=B _ _ _ _ _ _ _ _ _ C XB;obtain⟨l2,w2⟩:=B _ _ _ _ _ _ _ _ _ h2 Ef;refine⟨by omega,λc Q a w j i g d f o=>wpIn_seq ?_⟩;exact t c _ a w j i g d f λq p u=>w2 c Q q p j i g d (by rw[r];exact u) (by rw[r];exact o)
  cases h;rename_i iA;obtain⟨r,t⟩:=B _ _ _ _ _ _ _ _ _ h he;refine⟨r,λc Q a w j i g d f o=>wpIn_seq ?_⟩;refine t c _ a w j i g d f λq p u=>?_
  have:=o q p u;cases e with
  |normal=>exact api h (iA _ _ _)
  |exit id=>exact this
  |ret=>exact this
  rename_i x k1 k2;split at h;rename_i U;obtain⟨r,t⟩:=B _ _ _ _ _ _ _ _ _ h he;refine⟨r,λc Q a w j i g d f o=>wpIn_cond_true ?_ (t c Q a w j i g d f o)⟩;obtain⟨β,X,O⟩:=f;exact bY O (by rw[U];rfl);rename_i U;obtain⟨r,t⟩:=B _ _ _ _ _ _ _ _ _ h he;refine⟨r,λc Q a w j i g d f o=>wpIn_cond_false ?_ (t c Q a w j i g d f o)⟩;obtain⟨β,X,O⟩:=f;exact bY O (by rw[U];rfl);cases h;rename_i id x;split at h;rename_i E s1 yz e1 C;split at h;rename_i Z;simp only[ec]at Z;subst Z;simp only[zIq,zJq]at h;obtain⟨rfl,rfl,rfl,rfl⟩:=h;obtain⟨r,t⟩:=B _ _ _ _ _ _ _ _ _ C he;refine⟨r,λc Q a w j i g d f o=>wpIn_block ?_⟩;refine t c _ a w j i g d f λq p u=>?_
  show(if E=E then Q .normal q p else Q (.exit E) q p);rw[aph rfl];exact o q p u;rename_i Z;simp only[zIq,zJq]at h;obtain⟨rfl,rfl,rfl,rfl⟩:=h;obtain⟨r,t⟩:=B _ _ _ _ _ _ _ _ _ C he;refine⟨r,λc Q a w j i g d f o=>wpIn_block ?_⟩;refine t c _ a w j i g d f λq p u=>?_
  show(if E=id then Q .normal q p else Q (.exit E) q p);rw[ape (by simpa using Z)];exact o q p u;rename_i iA;obtain⟨r,t⟩:=B _ _ _ _ _ _ _ _ _ h he;refine⟨r,λc Q a w j i g d f o=>wpIn_block ?_⟩;refine t c _ a w j i g d f λq p u=>?_
  have:=o q p u;cases e with
  |normal=>exact this
  |exit id=>exact api h (iA _ _ _ _)
  |ret=>exact this
  rename_i id T draw;split at h;cases h;rename_i sF hfr;obtain⟨G,hfk⟩:=DF _ _ _ hfr;have back:nK P Good gb (.region id T draw) sF e s'->nK P Good gb (.region id T draw) s e s':=λsh=>⟨sh.1.trans G,λc Q a w j i g d f o=>sh.2 c Q a w j i g d (by rw[G];exact hfk c _ a w d f) (by rw[G];exact o)⟩
  refine back ?_;split at h;rename_i s1 yz x5 dB C;split at h;rename_i M;split at h;rename_i v;simp only[zLq]at v;simp only[zIq,zJq]at h;obtain⟨rfl,rfl,rfl,rfl⟩:=h;refine⟨qK _ _ _ _ _ _ _ C,λc Q a w j i g d f o=>?_⟩;subst M;exact To (n_ B) d j i N g v.1 C he v.2 f o;split at h;rename_i v;simp only[zLq]at v;simp only[zIq,zJq]at h;obtain⟨rfl,rfl,rfl,rfl⟩:=h;refine⟨qK _ _ _ _ _ _ _ C,λc Q a w j i g d f o=>?_⟩;subst M;exact V4 (n_ B) d j i N g v.1 (by rw[v.2.1]at C;exact C) he v.2.2 f o;split at h;rename_i v;simp only[zLq]at v;simp only[zIq,zJq]at h;obtain⟨rfl,rfl,rfl,rfl⟩:=h;refine⟨qK _ _ _ _ _ _ _ C,λc Q a w j i g d f o=>?_⟩;subst M;exact Qs (n_ B) d j i N g v.1 C he v.2 f o;split at h;rename_i v;simp only[zLq]at v;simp only[zIq,zJq]at h;obtain⟨rfl,rfl,rfl,rfl⟩:=h;have hlen:=qK _ _ _ _ _ _ _ C;refine⟨hlen,λc Q a w j i g d f o=>?_⟩;subst M;exact N4 (n_ B) j i N g d v.1 v.2 f (by rw[hlen];exact o);cases h;rename_i M;have Ax:draw=aj:=by simpa using M
  subst Ax;simp only[zIq,zJq]at h;obtain⟨rfl,rfl,rfl,rfl⟩:=h;exact⟨qK _ _ _ _ _ _ _ C,λc Q a w j i g d f o=>wpIn_region_list (CS (n_ B) j i N g d _ _ _ _ _ _ _ a w C he f o)⟩;cases h;rename_i x;unfold GV at h;split at h;rename_i n Y7 k' l bl ns J s2 K S _;split at h;rename_i z;simp only[zLq,ec]at z;simp only[zIq,zJq]at h;obtain⟨rfl,rfl,rfl,rfl⟩:=h;have F:=he _ (apw ..);simp only[cY.code.injEq]at F;obtain⟨rfl,rfl,rfl,I,H⟩:=F;refine⟨z.2,λc Q a w j i g d f o=>?_⟩;have D:=f.mask d z.1;rw[rT rfl I H]at D;refine K c Q a w j i g d D λq p u=>?_
  have:=o q p u;cases J<;>exact this;cases h;rename_i A n Y7 k' l bl ns J s2 K S _;split at h;rename_i z;simp only[zLq,ec]at z;simp only[zIq,zJq]at h;obtain⟨rfl,rfl,rfl,rfl⟩:=h;have F:=he _ (apw ..);simp only[cY.code.injEq]at F;obtain⟨rfl,rfl,rfl,I,H⟩:=F;refine⟨z.2,λc Q a w j i g d f o=>?_⟩;have D:=f.mask d z.1;rw[rT rfl I H]at D;refine K c Q a w j i g d D λq p u=>?_
  have:=o q p u;cases J<;>exact this;cases h;obtain⟨r,n1,t⟩:=IW (λs L e s' tr' eqs hh ha=>B ro gb x s L e s' tr' eqs hh ha) m s L e s' tr' eqs h he;exact⟨r,λc Q a w j i g d f o=>wpIn_loop_rounds m (t c Q a w j i g d f o)⟩;unfold GV at h;split at h;rename_i n Y7 k' l bl ns J s2 K S _;split at h;rename_i z;simp only[zLq,ec]at z;simp only[zIq,zJq]at h;obtain⟨rfl,rfl,rfl,rfl⟩:=h;have F:=he _ (apw ..);simp only[cY.code.injEq]at F;obtain⟨rfl,rfl,rfl,I,H⟩:=F;refine⟨z.2,λc Q a w j i g d f o=>?_⟩;have D:=f.mask d z.1;rw[rT rfl I H]at D;refine K c Q a w j i g d D λq p u=>?_
  have:=o q p u;cases J<;>exact this;cases h;rename_i A n Y7 k' l bl ns J s2 K S _;split at h;rename_i z;simp only[zLq,ec]at z;simp only[zIq,zJq]at h;obtain⟨rfl,rfl,rfl,rfl⟩:=h;have F:=he _ (apw ..);simp only[cY.code.injEq]at F;obtain⟨rfl,rfl,rfl,I,H⟩:=F;refine⟨z.2,λc Q a w j i g d f o=>?_⟩;have D:=f.mask d z.1;rw[rT rfl I H]at D;refine K c Q a w j i g d D λq p u=>?_
  have:=o q p u;cases J<;>exact this;cases h;exfalso;cases m<;>simp[iter]at h;cases h
def Item.alx:Item P Good->cY
 |.call (f:=f) (args:=args) _=>.call f args
 |.eq _ (d:=d) _=>.d d
 |.prop (p:=p) _=>.p p
 |.code (n:=n) (gb:=gb) (k:=k) (l:=l) (bl:=bl) _=>.code k n gb (l.map (·.2)) (bl.map λp=>a6 p.2)
 |.VD (f:=f) (args:=args) _=>.call f args
 |.dW (f:=f) (args:=args) _=>.call f args
 |.inl _ (f:=f) _=>.call f []
 |.freeze _=>.p True
 |.auto _=>.p True
 |.a9 (f:=f) (args:=args) (cs:=cs) _ _=>.m f args cs
 |.Js (f:=f) (args:=args) (cs:=cs) _ _=>.m f args cs
 |.vr (f:=f) (mx:=mx) (args:=args) (blks:=blks) (ns:=ns) _ _=>L6 f mx args blks ns
def said(a:ai (Item P Good)):ai (cY×cY):=a.map λi=>(i.alx,i.alx)
def oW(b:ai (Item P Good)):jU (said b):=by intro e a;simp only[said,ky]at a;obtain⟨i,_,rfl⟩:=a;rfl
def nK.br(b:aa Good){ro:ai aw}{gb m:aw}{k:Code}{s':St}{e:iw}(a:ai (Item P Good))(h:mX P m ro gb k j a=a6 (e,s',[],said a)):
  nK P Good gb k j e s':=iK b m ro gb k j a e s' [] _ h (oW a)
def vZ(P:cp){Good:bn->Prop}(ro:ai aw)(m:aw)(fn:kf)(args:ai D)(a:ai (Item P Good)):bF (D×ai (Item P Good)×ai (cY×cY)):=
 match fn.body with
 |some k=>if hM (y6 args) fn.ntmps then
   match mX P m ro 0 k (dA fn.ntmps args []) a with
   |some (y3,s,tr',eqs)|some (.ret,s,tr',eqs)=>match gw P s fn.results.toList with
    |some b=>a6 (o9 (b.map (D.rowOf s.fs.blk s.fs.bu)),tr',eqs)
    |none=>bk
   |_=>bk
  else bk
 |none=>bk
def Spec.C9(N:aa Good){f:c7}{fn:kf}(V:P.funcs[f]? =a6 fn){ro:ai aw}{m:aw}{args:ai D}{r:D}(E G:ai (Item P Good)){eqs:ai (cY×cY)}(LF:jU eqs)
  (h:vZ P ro m fn args E=a6 (r,G,eqs)):Spec P Good f args r:=by
 intro w F q L z O;unfold vZ at h;split at h
 ·rename_i k x
  split at h
  ·rename_i hle
   rw[aqB]at hle;have key:∀e s,mX P m ro 0 k (dA fn.ntmps args []) E=a6 (e,s,G,eqs)->(e=.normal\/e=.ret)->(∃j,gw P s fn.results.toList=a6 j/\o9 (j.map (D.rowOf s.fs.blk s.fs.bu))=r)->
     vx P f q.toArray w λe g=>∃v,e=.returned v/\b9 g F v r/\Below w.heap.size w g/\Good g:=by
    intro e s u M Nr;obtain⟨j,A,rfl⟩:=Nr;have U:=iK N m ro 0 k _ E e s G _ u LF;have hlen:=o5 (blks:=[]) (ns:=[]) hle;refine(n2 (n:=0)).1 (oi V x trivial ?_);show Code.wpIn (Fw bk) 0 _ _ _ _ _
    let c:Ctx:=⟨P,Good,F,w,[],0,bk,[],λ_=>bk,0,λ_=>bk,λ_=>False⟩
    have H:∀b,(dA fn.ntmps args []).fs.blk b=bk:=λb=>by simp[dA,St.fs]
    refine U.2 c _ _ w rfl rfl L (apc _) ⟨λ_=>0,F,rfl,?_,λt=>?_,?_,λb cs a=>?_,λb cs a=>?_,λb b' a=>?_,λ_ h=>h,O,O,⟨Below.refl _ _,λk o x=>(by cases x),apJ _⟩,λp I=>?_,λp I=>?_,ou.none rfl rfl⟩ λQ g aF=>?_
    ·rw[hlen];have:=z.1;simp;omega
    ·exact qE (Q':=λv d=>bU (λ_=>0) w F v d) z.1 hle (λi J B=>.c (.p (z.2 i J B))) (.c (.p (.lit _))) (.c (.p (.any _))) t
    ·refine qG λd W b a=>?_
     obtain⟨i,y,rfl⟩:=apF.1 W;rw[eV (z.2 i (by rw[z.1];exact y) y)]at a;cases a
    ·rw[H]at a;cases a
    ·rw[H]at a;cases a
    ·rw[H]at a;cases a
    ·cases I
    ·cases I
    ·obtain⟨β,X,l⟩:=aF
     obtain⟨C,J,B,Y,h4⟩:=kV (q:=c) l A;have Z:aR g F C (j.map (D.rowOf s.fs.blk s.fs.bu)):=by
      refine⟨by simpa using B,λi y mw=>?_⟩
      rw[ap2];have DB:i<j.length:=by rw[<-B];exact y
      refine qN l (Y i y DB) l.F λb cs T k x M=>?_
      have h5:=(l.blk b cs T).1;have h6:=l.uZ k x;omega
     have S:Q.defers=[]/\∃v,(results fn Q.tmps).run P g=.ok v g/\(∃K,og v=.returned K/\b9 g F K (o9 (j.map (D.rowOf s.fs.blk s.fs.bu)))/\Below w.heap.size w g/\Good g):=
      ⟨l.defers,sY C,J,sY C,rfl,wu Z,l.below.uX,l.mz N L⟩
     obtain rfl|rfl:=M<;>exact S
   split at h
   ·rename_i s tr' eqs u
    split at h
    ·rename_i j A
     simp only[zIq,zJq]at h;obtain⟨rfl,rfl,rfl⟩:=h;exact key _ _ u (.inl rfl) ⟨j,A,rfl⟩
    ·cases h
   ·rename_i s tr' eqs u
    split at h
    ·rename_i j A
     simp only[zIq,zJq]at h;obtain⟨rfl,rfl,rfl⟩:=h;exact key _ _ u (.inr rfl) ⟨j,A,rfl⟩
    ·cases h
   ·cases h
  ·cases h
 ·cases h
def Spec.br(b:P.funcs[w]? =a6 o){ro:ai aw}{m:aw}(a:ai (Item P Good))
  (c:vZ P ro m o h a=a6 (u,[],said a):=by kernel_rfl):Spec P Good w h u:=Spec.C9 i b a [] (oW a) c
def Spec.r(c:aa Good){f:c7}{fn:kf}(b:P.funcs[f]? =a6 fn)(ro:ai aw){args:ai D}{r:D}(a:ai (Item P Good))(h:vZ P ro 60 fn args a=a6 (r,[],said a):=by kernel_rfl):Spec P Good f args r:=Spec.br c b a h
def Spec.ke(g:aa Good)(A:sC P Good){f:c7}{fn:kf}(e:P.funcs[f]? =a6 fn){ro:ai aw}{m:aw}{args:ai D}{r:D}(a:ai (Item P Good))
  (h:((vZ P ro m fn args (.auto A::a)).map λo=>(o.1,o.2.2))=a6 (r,said a):=by kernel_rfl):Spec P Good f args r:=by
 cases b:vZ P ro m fn args (.auto A::a)with
 |none=>rw[b]at h;cases h
 |some o=>
  obtain⟨d,c,i⟩:=o;rw[b]at h;simp only[dm,zIq,zJq]at h;obtain⟨rfl,rfl⟩:=h;exact Spec.C9 g e _ c (oW a) b
def runIn(P:cp){Good:bn->Prop}(ro:ai aw)(m mx:aw)(fn:kf)(args:ai D)(blks:ai (bF (ai D)))(a:ai (Item P Good)):bF (D×ai (bF (ai D))×ai aw×ai (cY×cY)):=
 match wK P (mX P m) mx ro fn args blks [] a with
 |some (d,blks',ns',_,eqs)=>a6 (d,blks',ns',eqs)
 |none=>bk
def kh.ke(j:aa Good)(A:sC P Good){ro:ai aw}{m mx:aw}{blks blks':ai (bF (ai D))}
  (d:runIn P ro m mx o h blks [Item.auto A]=a6 (u,blks',[],[]):=by kernel_rfl):kh P Good o mx h blks [] u blks' []:=by
 unfold runIn at d;split at d;rename_i d1 t q p r l;cases d;exact n_ (λro args k s b e c tr' a f i=>iK j m ro args k s b e c tr' a f i) _ _ _ _ _ _ _ _ _ _ _ _ l (λe g=>by cases g);cases d
def kh.mono{mx a:aw}{blks blks':ai (bF (ai D))}{ns ns':ai aw}(d:kh P Good o mx h blks ns u blks' ns')(b:a<=mx):kh P Good o a h blks ns u blks' ns':=
 λf e c w β X vals k j i g=>d f e c w β X vals k j i (apm g b)
def cY.isU:cY->b5
 |.u _=>bj
 |_=>aj
def cY.cells:cY->ai D
 |.u cs=>cs
 |_=>[]
def yV(l:ai (cY×cY)):ai (cY×cY):=l.filter λe=>!(e.1.isU&&e.2.isU)
def IP(l:ai (cY×cY)):ai (ai D):=(l.filter λe=>e.1.isU&&e.2.isU).map λe=>e.1.cells
def BJ(l:ai (cY×cY)):ai (ai D):=(l.filter λe=>e.1.isU&&e.2.isU).map λe=>e.2.cells
def IG{α β:Type}{f g:α->β}:∀{l:ai α},l.map f=l.map g->∀x∈l,f x=g x
 |[],_,_,h=>by cases h
 |a::l,e,x,h=>by
  simp only[eZ,en]at e;obtain rfl|h:=apo.1 h
  exact e.1;exact IG e.2 x h
def w8{l:ai (cY×cY)}{c:ai (Item P Good)}(h:yV l=said c)(g:IP l=BJ l):jU l:=by intro e d;by_cases hu:(e.1.isU&&e.2.isU)=bj;have f:=IG g e (arO.2 ⟨d,hu⟩);rw[zLq]at hu;obtain⟨a,b⟩:=e;cases a<;>simp only[cY.isU,cy,false_and]at hu;cases b<;>simp only[cy,and_false]at hu;simp only[cY.cells]at f;rw[f];have:e∈yV l:=arO.2 ⟨d,by rw[arc.2 hu];rfl⟩;rw[h]at this;exact oW c e this
def Sg{α:Type}(f:ai (cY×cY)->α)(o:bF (D×ai (Item P Good)×ai (cY×cY))):bF (D×α):=o.map λo=>(o.1,f o.2.2)
def Spec.bK(A:sC P Good)(g:P.funcs[w]? =a6 o){ro:ai aw}{m:aw}(a:ai (Item P Good))
  (f:Sg yV (vZ P ro m o h (.auto A::a))=a6 (u,said a):=by kernel_rfl) (b:Sg IP (vZ P ro m o h (.auto A::a))=Sg BJ (vZ P ro m o h (.auto A::a)):=by kernel_rfl):Spec P Good w h u:=by
 unfold Sg at f b;cases c:vZ P ro m o h (.auto A::a)with
 |none=>rw[c]at f;cases f
 |some r=>
  obtain⟨d,e,j⟩:=r;rw[c]at f b;simp only[dm,zIq,zJq,true_and]at f b;obtain⟨rfl,f⟩:=f;exact Spec.C9 i g _ e (w8 f b) c
def ON{β:aw->aw}{w:bn}{X:aw->Prop}{v:b3}{b off len a:aw}(h:bU β w X v (.aY b off len a)):v=.slice (a6 ⟨β b,off,bk⟩) len a/\a<=lj:=by
 cases h with
 |c h=>cases h with
  |p d=>cases d
  |aY _ _ _ _ _ e=>exact⟨rfl,e⟩
def Spec.y(A:sC P Good)(b:P.funcs[w]? =a6 o)(ro:ai aw)(a:ai (Item P Good))(c:Sg yV (vZ P ro 60 o h (.auto A::a))=a6 (u,said a):=by kernel_rfl)(d:Sg IP (vZ P ro 60 o h (.auto A::a))=Sg BJ (vZ P ro 60 o h (.auto A::a)):=by kernel_rfl):Spec P Good w h u:=Spec.bK i A b a c d
def Br.br(W:aa Good){f:c7}{fn:kf}(hf:P.funcs[f]? =a6 fn){k:Code}(K:fn.body=a6 k){ro:ai aw}{m:aw}{args:ai D}{n:aw}{cs:ai D}{t:Tmp}(hle:args.length<=fn.ntmps)(Nr:fn.results= #[.tmp t]){e:iw}{b:aw}(x:ai (Item P Good))
  (h:((mX P m ro 0 k (dA fn.ntmps args []) x).map λo=>(o.1,o.2.1.tmps.getD t .any,(if o.2.1.bu.contains b then bk else o.2.1.blks.getD b bk),o.2.2.1,o.2.2.2))=a6 (e,.aY b 0 n n,a6 cs,[],said x)) (he:e=.normal\/e=.ret):Br P Good f args n cs:=by
 intro w F O Q z Y;cases I:mX P m ro 0 k (dA fn.ntmps args []) x with
 |none=>rw[I]at h;cases h
 |some o=>
  obtain⟨e1,s,yz,x5⟩:=o;rw[I]at h;simp only[dm,zIq,zJq]at h;obtain⟨rfl,A,B,rfl,rfl⟩:=h;have y:s.bu.contains b=aj:=by
   cases hq:s.bu.contains b with
   |false=>rfl
   |true=>rw[hq]at B;simp at B
  have V:s.blks.getD b bk=a6 cs:=by rw[y]at B;simpa using B
  have hs:=iK W m ro 0 k _ x e1 s [] _ I (oW x);have hlen:=o5 (blks:=[]) (ns:=[]) hle;refine(n2 (n:=0)).1 (oi hf K trivial ?_);show Code.wpIn (Fw bk) 0 _ _ _ _ _
  let c:Ctx:=⟨P,Good,F,w,[],0,bk,[],λ_=>bk,0,λ_=>bk,λ_=>False⟩
  have E:∀b,(dA fn.ntmps args []).fs.blk b=bk:=λb=>by simp[dA,St.fs]
  refine hs.2 c _ _ w rfl rfl Q (apc _) ⟨λ_=>0,F,rfl,?_,λt=>?_,?_,λb cs g=>?_,λb cs g=>?_,λb b' g=>?_,λ_ h=>h,Y,Y,⟨Below.refl _ _,λk o K=>(by cases K),apJ _⟩,λp J=>?_,λp J=>?_,ou.none rfl rfl⟩ λZ q aF=>?_
  ·rw[hlen];have:=z.1;simp;omega
  ·exact qE (Q':=λv d=>bU (λ_=>0) w F v d) z.1 hle (λi M L=>.c (.p (z.2 i M L))) (.c (.p (.lit _))) (.c (.p (.any _))) t
  ·refine qG λd A b g=>?_
   obtain⟨i,U,rfl⟩:=apF.1 A;rw[eV (z.2 i (by rw[z.1];exact U) U)]at g;cases g
  ·rw[E]at g;cases g
  ·rw[E]at g;cases g
  ·rw[E]at g;cases g
  ·cases J
  ·cases J
  ·obtain⟨β,X,l⟩:=aF
   have T:=l.tmp t;have Ax:s.fs.tmp t=.aY b 0 n n:=A;rw[Ax]at T;obtain⟨q1,q2,r,ty,q3,q4,C⟩:=l.blk b cs V;have q5:=C.pure (l_ l V y);have zo:Z.defers=[]/\∃v,(results fn Z.tmps).run P q=.ok v q/\∃k r ty,og v=.returned (.slice (a6 ⟨k,0,bk⟩) n n)/\n<=lj/\w.heap.size<=k/\q.heap[k]? =a6 (.cells r ty (0,0))/\cs.length<=r.size/\
     aR q (λj=>F j\/j=k) (r.toList.take cs.length) cs/\Below w.heap.size w q/\Good q:=by
    have EY:gw c.P s fn.results.toList=a6 [.aY b 0 n n]:=by rw[Nr];simp only[gw,resultD,A]
    obtain⟨vs,M,L,h3,h4⟩:=kV (q:=c) l EY;obtain⟨v,rfl⟩:=ap_.1 L;have H:=h3 0 zb zb
    refine⟨l.defers,v,M,β b,r,ty,?_,?_,q1,q3,q4,q5.mono (λa u ha S=>⟨ha,?_⟩),l.below.uX,l.mz W Q⟩
    ·have G:bU β q X v (.aY b 0 n n):=H
     rw[(ON G).1]
    ·exact(ON T).2
    ·rintro(N|N)
     ·exact S (l.F _ N)
     ·exact S (by rw[N];exact q2)
   obtain rfl|rfl:=he<;>exact zo
def nK.loop{ι:Type}{gb:aw}{body:Code}(R:ι->Prop)(inv:ι->St)(μ:ι->aw){n:aw}{e:iw}{s':St}(b:∀i,(inv i).tmps.length=n)(B:e≠.normal)
  (round:∀i,R i->(∃j s1 f h g,R j/\μ j<μ i/\nK P Good gb body (inv i) y3 s1/\xM gb f h g s1=bj/\(s1.mask f h g).fs=(inv j).fs)\/
   (∃s1 f h g,nK P Good gb body (inv i) e s1/\xM gb f h g s1=bj/\(s1.mask f h g).fs=s'.fs)) (i:ι) (u:R i):aI P Good n gb (.loop body) (inv i) e s':=by
 intro c Q a w y x v p q C;have D:∀o d,Rel c n s'.fs o d->Q e.BA o d:=λo d l=>by have:=C o d l;cases e<;>exact this
 refine rX (λk a w=>∃i,μ i=k/\R i/\Rel c n (inv i).fs a w) (μ i) ⟨i,rfl,u,q⟩ λk a w z=>?_
 obtain⟨i,rfl,u,q⟩:=z;rcases round i u with⟨j,s1,f,h,g,A,E,r,s,t⟩|⟨s1,f,h,g,r,s,t⟩
 ·refine r.2 c _ a w y x v p (by rw[b];exact q) λo d l=>?_
  rw[b]at l;exact⟨μ j,E,j,rfl,A,by rw[<-t];exact l.mask p s⟩
 ·refine r.2 c _ a w y x v p (by rw[b];exact q) λo d l=>?_
  rw[b]at l;have:=D o d (by rw[<-t];exact l.mask p s)
  cases e with
  |normal=>exact api rfl B
  |exit id=>exact this
  |ret=>exact this
def rn(P:cp){Good:bn->Prop}(m:aw)(ro:ai aw)(gb:aw)(k:Code)(s:St)(d:ai (Item P Good))(a c f:ai aw):bF (iw×ai D×ai (bF (ai D))×ai (Item P Good)×ai (cY×cY)):=
 match mX P m ro gb k s d with
 |some (e,s1,tr',eqs)=>if xM gb a c f s1 then a6 (e,a.map (λt=>y7 s1.tmps t .any),c.map (λb=>y7 s1.blks b bk),tr',eqs)else bk
 |none=>bk
def af(P:cp)(Good:bn->Prop)(gb:aw)(k:Code)(s:St)(e:iw)(s':St):Prop:=
 ∃s1 a c b,nK P Good gb k s e s1/\xM gb a c b s1=bj/\(s1.mask a c b).fs=s'.fs
abbrev xf(G:bn->Prop):=Spec zZq G
abbrev xo(G:bn->Prop):=af zZq G 0
def af.br(g:aa Good){ro:ai aw}{gb m n:aw}{k:Code}{s:St}{l:ai (aw×D)}{bl:ai (aw×ai D)}{ns:ai aw}{e:iw}(f:y6 s.tmps=n)(a:ai (Item P Good))
  (h:rn P m ro gb k s a (l.map (·.1)) (bl.map (·.1)) ns=a6 (e,l.map (·.2),bl.map (λp=>a6 p.2),[],said a):=by kernel_rfl):af P Good gb k s e (lay n l bl ns):=by
 unfold rn at h;split at h;rename_i r s1 o q d;split at h;rename_i c;simp only[eE,gu,sj]at h;obtain⟨rfl,j,i,rfl,rfl⟩:=h;have b:=nK.br g a d;exact⟨s1,_,_,_,b,c,rT (b.1.trans f) j i⟩;cases h;cases h
def af.r{s:ai (aw×D)}{bl:ai (aw×ai D)}(c:ai (Item P Good))(n:y6 j.tmps=e:=by exact aB ..)
  (h:rn P 60 [] a l j c (s.map (·.1)) (bl.map (·.1)) b=a6 (t,s.map (·.2),bl.map (λp=>a6 p.2),[],said c):=by kernel_rfl):af P Good a l j t (lay e s bl b):=af.br i n c h
def aI.count(inv:aw->St)(n:aw)(gb:∀i,(inv i).tmps.length=e)(f:t≠.normal)
  (round:∀i<n,af P Good a l (inv i) y3 (inv (i+1))) (last:af P Good a l (inv n) t j):aI P Good e a (.loop l) (inv 0) t j:=by
 refine nK.loop (λi=>i<=n) inv (λi=>n-i) gb f (λi s'=>?_) 0 (apJ _);obtain h|h:=apy i n
 obtain⟨s1,b,d,c,k,body,g⟩:=round i h;exact y1 ⟨i+1,s1,b,d,c,h,by omega,k,body,g⟩;have:i=n:=za
 subst this;exact y2 last
def aI.c(inv:aw->St)(n:aw)
  (round:∀i<n,af P Good a l (inv i) y3 (inv (i+1))) (last:af P Good a l (inv n) t j) (gb:∀i,(inv i).tmps.length=e:=by intro i;exact aB ..) (he:t≠.normal:=by intro h;cases h):aI P Good e a (.loop l) (inv 0) t j:=aI.count inv n gb he round last
def aI.z(P:cp)(Good:bn->Prop)(body:Code)(e:iw)(s':St)(inv:aw->St)(n:aw)
  (round:∀i<n,af P Good 0 body (inv i) y3 (inv (i+1))) (last:af P Good 0 body (inv n) e s') (len:∀i,(inv i).tmps.length=a:=by intro i;exact aB ..) (he:e≠.normal:=by intro h;cases h):aI P Good a 0 (.loop body) (inv 0) e s':=aI.count inv n len he round last
def aI.rounds(R:L->Prop)(inv:L->St)(μ:L->aw)(ι:∀i,(inv i).tmps.length=e)(g:t≠.normal)
  (round:∀i,R i->(∃gb,R gb/\μ gb<μ i/\af P Good a l (inv i) y3 (inv gb))\/af P Good a l (inv i) t j) (i:L) (b:R i):aI P Good e a (.loop l) (inv i) t j:=by
 refine nK.loop R inv μ ι g (λi b=>?_) i b;rcases round i b with⟨gb,o,n,s1,c,f,d,m,body,k⟩|h
 exact y1 ⟨gb,s1,c,f,d,o,n,m,body,k⟩;exact y2 h
def Code.loops:Code->ai Code
 |.seq x y=>Code.loops x++Code.loops y
 |.cond _ x y=>Code.loops x++Code.loops y
 |.block _ x=>Code.loops x
 |.loop x=>x::Code.loops x
 |_=>[]
def ae(fn:kf)(i:aw):Code:=((fn.body.map Code.loops).getD []).getD i .skip
def eqB{x y:b5}(h:x=y):D.lit (.bool x)=D.lit (.bool y):=by rw[h]
def Item.eb{P:cp}{Good:bn->Prop}(t:Tmp){x y:b5}(h:x=y):Item P Good:=.eq t (eqB h)
def Item.er{P:cp}{Good:bn->Prop}(t:Tmp)(d:D):Item P Good:=.eq t (Eq.refl d)
def rk:bJ .u64 B=B%18446744073709551616:=by
 have e:(2^cn .u64:cA)=18446744073709551616:=zv
 simp only[bJ,rb,e,im,cy,jv]
def Ml:bJ .u32 B=B%4294967296:=by
 have e:(2^cn .u32:cA)=4294967296:=zv
 simp only[bJ,rb,e,im,cy,jv]
def wrap64(h:a<18446744073709551616):bJ .u64 (a:cA)=(a:cA):=by rw[rk];omega
def wrap32:bJ .u32 (a:cA)=((a%4294967296:aw):cA):=by rw[Ml];omega
def qu(h: -9223372036854775808<=B)(c:B<9223372036854775808):bJ .i64 B=B:=by
 have e:(2^cn .i64:cA)=18446744073709551616:=zv
 have b:(2^(cn .i64-1):cA)=9223372036854775808:=zv
 simp only[bJ,rb,e,b,Bool.true_and];by_cases a:B%18446744073709551616>=9223372036854775808;rw[aph (by simpa using a)];omega;rw[ape (by simpa using a)];omega
def val:ai aw->aw
 |[]=>0
 |d::l=>d+4294967296*val l
def gg(l:ai aw):Prop:=∀x∈l,x<4294967296
def Ej:aw->aw->ai aw
 |0,_=>[]
 |f+1,n=>if n=0 then []else n%4294967296::Ej f (n/4294967296)
def words(n:aw):ai aw:=Ej n n
def FI:∀(f g n:aw),n<=f->n<=g->Ej f n=Ej g n
 |0,0,_,_,_=>rfl
 |0,g+1,n,h,_=>by
   have:n=0:=za
   subst this;rfl
 |f+1,0,n,_,h=>by
   have:n=0:=za
   subst this;rfl
 |f+1,g+1,n,h,a=>by simp only[Ej];split;rfl;rw[FI f g _ za za]
def qA:words 0=[]:=rfl
def tG(h:a≠0):words a=a%4294967296::words (a/4294967296):=by
 cases a with
 |zero=>exact api rfl h
 |succ a=>
  show(if a+1=0 then []else(a+1)%4294967296::Ej a ((a+1)/4294967296))=_;rw[ape h];congr 1;exact FI _ _ _ za (apc _)
def aK(n:aw):val (words n)=n:=by
 induction n using p0 with
 |_ n a=>
  by_cases h:n=0;subst h;rfl;rw[tG h];simp only[val];rw[a _ za];omega
def aU(n:aw):gg (words n):=by
 induction n using p0 with
 |_ n b=>
  by_cases h:n=0;subst h;intro x a;cases a;rw[tG h];intro x a;obtain rfl|a:=apo.1 a
  omega;exact b _ za x a
def gg.tail(h:gg (a::b)):gg b:=λx d=>h x (apX _ d)
def gg.head(h:gg (a::b)):a<4294967296:=h a zb
def gg.take{l:ai aw}(h:gg l)(k:aw):gg (l.take k):=λx a=>h x (aq' a)
def gg.getD{l:ai aw}(h:gg l)(i:aw):y7 l i 0<4294967296:=by
 rw[apf];cases a:l[i]?with
 |none=>simp
 |some x=>exact h x (ar2 a)
def tF:∀{l:ai aw},gg l->y6 (words (val l))<=y6 l/\words (val l)=l.take (words (val l)).length/\(∀i,y6 (words (val l))<=i->y7 l i 0=0)/\
  (0<y6 (words (val l))->y7 l (y6 (words (val l))-1) 0≠0)
 |[],_=>by
  refine⟨apc _,rfl,λi _=>by simp,λh=>?_⟩
  exact api h (by simp[val,qA])
 |d::l,h=>by
  obtain⟨o,k,b,j⟩:=tF h.tail;have n:=h.head;by_cases c:d+4294967296*val l=0
  ·have e:words (val (d::l))=[]:=by
    show words (d+4294967296*val l)=[];rw[c];rfl
   have a:val l=0:=za
   rw[a]at b;rw[e];refine⟨apJ _,rfl,λi _=>?_,λh=>api h zb⟩
   cases i with
   |zero=>simp;omega
   |succ i=>simpa using b i (by simp[qA])
  ·have e:words (val (d::l))=d::words (val l):=by
    show words (d+4294967296*val l)=_;rw[tG c];congr 1
    ·omega
    ·congr 1;omega
   rw[e];refine⟨by simp;omega,?_,λi f=>?_,λ_=>?_⟩
   ·simp only[ey,List.take_succ_cons]
    rw[<-k]
   ·cases i with
    |zero=>simp at f
    |succ i=>simpa using b i (by simpa using f)
   ·by_cases g:0<y6 (words (val l))
    ·have:=j g
     have m:y6 (d::words (val l))-1=(y6 (words (val l))-1)+1:=zT
     rw[m,aru];exact this
    ·have a:words (val l)=[]:=ap8 za
     have:val l=0:=by rw[<-aK (val l),a];rfl
     rw[a];simp;omega
def oI(h:a≠0):(words a).getD (y6 (words a)-1) 0≠0:=by have:=(tF (aU a)).2.2.2;rw[aK]at this;refine this ?_;rw[tG h];simp
def FH(h:gg b)(l:b≠[]->y7 b (y6 b-1) 0≠0):words (val b)=b:=by
 obtain⟨g,d,c,-⟩:=tF h;obtain e|f:=apy (words (val b)).length (y6 b)
 ·exfalso
  have a:b≠[]:=by rintro rfl;simp at e
  exact l a (c _ za)
 ·rw[d,apA f]
def VY:words a=[]↔a=0:=by constructor;intro h;rw[<-aK a,h];rfl;rintro rfl;rfl
def dY(h:a≠0):0<y6 (words a):=by rw[tG h];simp
def BP(i:aw):aw:=4294967296^i
def iJ:BP 0=1:=by unfold BP;exact asS _
def c_(i:aw):BP (i+1)=4294967296*BP i:=by unfold BP;rw[apK,apC]
def cO(i:aw):0<BP i:=aqC za
def lL(i j:aw):BP (i+j)=BP i*BP j:=by unfold BP;exact ap7 _ _ _
def ny(h:a<=e):BP a<=BP e:=apI za h
def mE(h:gg b):val b<BP (y6 b):=by
 induction b with
 |nil=>simp[val,iJ]
 |cons d b a=>
  have c:=a h.tail;have l:=h.head;simp only[val,ey,c_];omega
def de(h:gg b)(i:aw):y7 b i 0=val b/BP i%4294967296:=by
 induction b generalizing i with
 |nil=>simp[val]
 |cons d b a=>
  have l:=h.head;cases i with
  |zero=>simp only[kt,val,iJ,ql];omega
  |succ i=>
   rw[aru,a h.tail,c_,<-apO];simp only[val];congr 2;omega
def aS(n k:aw):y6 (words n)<=k↔n<BP k:=by
 induction k generalizing n with
 |zero=>
  rw[iJ];constructor;intro h;have:=VY.1 (ap8 (Nat.le_zero.1 h));omega;intro h;have:n=0:=za
  subst this;simp[qA]
 |succ k a=>
  by_cases h:n=0;subst h;simp[qA,cO];rw[tG h,aqO,Nat.add_le_add_iff_right,a,c_,ap1 za,apC]
def fw(N n:aw):ai aw:=(ch N).map λj=>n/BP j%4294967296
def dz(N n:aw):y6 (fw N n)=N:=by simp[fw]
def jQ(N n:aw):gg (fw N n):=by intro x a;simp only[fw,ky]at a;obtain⟨j,_,rfl⟩:=a;exact apP _ za
def Fe{N:aw}(h:e<N):(fw N a).getD e 0=a/BP e%4294967296:=by simp[fw,bP,h]
def XZ(N n:aw):fw (N+1) n=n%4294967296::fw N (n/4294967296):=by
 unfold fw;rw[List.range_succ_eq_map,are,aqG];have a:n/BP 0%4294967296=n%4294967296:=by rw[iJ,aqP]
 rw[a];refine aql _ (apz λj _=>?_);rw[Function.comp_apply,Nat.succ_eq_add_one,c_,apO]
def CA{N:aw}(h:a<BP N):val (fw N a)=a:=by
 induction N generalizing a with
 |zero=>rw[iJ]at h;simp[fw,val];omega
 |succ N n=>
  rw[c_]at h;rw[XZ];simp only[val];rw[n (by rw[ap1 za,apC];exact h)];omega
def gk(a P:aw):a=P*(a/P)+a%P:=(aqE a P).symm
def jL(a i:aw):a%BP (i+1)=BP i*(a/BP i%4294967296)+a%BP i:=by rw[c_,apC,Nat.mod_mul];omega
def dZ{P:aw}(a:0<P)(x y:aw):(P*x+y)/P=x+y/P:=by rw[aqF,Nat.add_mul_div_left _ _ a,aqF]
def iG(a i:aw):a%BP i<BP i:=apP _ (cO i)
def jP(a i:aw):a/BP (i+1)=a/BP i/4294967296:=by rw[c_,apC,apO]
def nt(a b i:aw):aw:=(a%BP i+b%BP i)/BP i
def Fo(a b:aw):nt a b 0=0:=by unfold nt;rw[iJ,ary,ary]
def NY(a b i:aw):nt a b i<=1:=by unfold nt;have d:=iG a i;have c:=iG b i;rw[<-Nat.lt_succ_iff,ap1 (cO i)];omega
def Fp(a b i:aw):nt a b (i+1)=(nt a b i+(a/BP i%4294967296+b/BP i%4294967296))/4294967296:=by
 unfold nt;rw[jL,jL,jP];congr 1;have e:BP i*(a/BP i%4294967296)+a%BP i+(BP i*(b/BP i%4294967296)+b%BP i)=BP i*(a/BP i%4294967296+b/BP i%4294967296)+(a%BP i+b%BP i):=by rw[aqn];omega
 rw[e,dZ (cO i)];omega
def JB(a b i:aw):(nt a b i+(a/BP i%4294967296+b/BP i%4294967296))%4294967296=(a+b)/BP i%4294967296:=by
 unfold nt;have e:a+b=BP i*(a/BP i+b/BP i)+(a%BP i+b%BP i):=by have f:=gk a (BP i);have d:=gk b (BP i);rw[aqn];omega
 have c:(a+b)/BP i=a/BP i+b/BP i+(a%BP i+b%BP i)/BP i:=by
  conv=>lhs;rw[e]
  rw[dZ (cO i)]
 rw[c];omega
def fM(a b i:aw):aw:=if a%BP i<b%BP i then 1 else 0
def wZ(a b:aw):fM a b 0=0:=by unfold fM;rw[iJ,ary,ary];rfl
def ye(a b i:aw):fM a b i<=1:=by unfold fM;split<;>omega
def Fj(a b i:aw):fM a b (i+1)=if a/BP i%4294967296<b/BP i%4294967296+fM a b i then 1 else 0:=by
 unfold fM;rw[jL,jL];have e:=iG a i;have d:=iG b i;generalize a/BP i%4294967296=x;generalize b/BP i%4294967296=y;generalize a%BP i=r at*;generalize b%BP i=t at*;generalize BP i=P at*;obtain h|h|h:=aq5 x y
 have:P*(x+1)<=P*y:=apT _ h;rw[aqn,aqx]at this;rw[aph za,aph (by split<;>omega)];subst h;by_cases c:r<t;rw[aph za,aph c,aph za];rw[ape za,ape c,ape za];have:P*(y+1)<=P*x:=apT _ h;rw[aqn,aqx]at this;rw[ape za,ape (by split<;>omega)]
def Ju(h:e<=a)(i:aw):((a/BP i%4294967296:aw)-(e/BP i%4294967296:aw)-(fM a e i:aw):cA)%4294967296=((a-e)/BP i%4294967296:aw):=by
 unfold fM;have o:=iG a i;have n:=iG e i;have b:(a-e)/BP i=if a%BP i<e%BP i then a/BP i-e/BP i-1 else a/BP i-e/BP i:=by
  have c:=gk a (BP i);have k:=gk e (BP i);have g:e/BP i<=a/BP i:=ast h;generalize a/BP i=x at*;generalize e/BP i=y at*;generalize a%BP i=r at*;generalize e%BP i=t at*;generalize m:BP i=P at*;have d:0<P:=by rw[<-m];exact cO i
  obtain⟨z,rfl⟩:=u3 g;rw[aqn]at c;split
  ·rename_i l
   have f:0<z:=by
    obtain f|f:=apv z
    ·subst f;rw[Nat.mul_zero]at c;omega
    ·exact f
   obtain⟨u,rfl⟩:∃u,z=u+1:=⟨z-1,by omega⟩
   rw[aqn,aqx]at c;have:a-e=P*u+(P+r-t):=za
   rw[this,dZ d,ap3 za];omega
  ·have:a-e=P*z+(r-t):=za
   rw[this,dZ d,ap3 za];omega
 rw[b];have g:e/BP i<=a/BP i:=ast h;have j:a%BP i<e%BP i->e/BP i<a/BP i:=by
  intro l;have c:=gk a (BP i);have k:=gk e (BP i);rcases apy (e/BP i) (a/BP i)with h|h
  ·exact h
  ·have:a/BP i=e/BP i:=za
   rw[this]at c;omega
 split
 ·have:=j (by assumption);omega
 ·omega
def w6(T x b k:aw):aw:=(T%BP k+x*(b%BP k))/BP k
def Fl(T x b:aw):w6 T x b 0=0:=by unfold w6;rw[iJ,ary,ary];simp
def DZ{x:aw}(T b k:aw)(a:x<4294967296):w6 T x b k<4294967296:=by unfold w6;rw[ap1 (cO k)];have e:=iG T k;have d:=iG b k;have c:x*(b%BP k)<=4294967295*(b%BP k):=apB _ za;omega
def adA(T x b k:aw):(T%BP (k+1)+x*(b%BP (k+1)))/BP k=w6 T x b k+(x*(b/BP k%4294967296)+T/BP k%4294967296):=by
 unfold w6;rw[jL,jL];have e:BP k*(T/BP k%4294967296)+T%BP k+x*(BP k*(b/BP k%4294967296)+b%BP k)=BP k*(x*(b/BP k%4294967296)+T/BP k%4294967296)+(T%BP k+x*(b%BP k)):=by rw[aqn,aqn,arT x];omega
 rw[e,dZ (cO k)];omega
def Fm(T x b k:aw):w6 T x b (k+1)=(w6 T x b k+(x*(b/BP k%4294967296)+T/BP k%4294967296))/4294967296:=by rw[<-adA];unfold w6;rw[jP]
def Jy(T x b k:aw):(w6 T x b k+(x*(b/BP k%4294967296)+T/BP k%4294967296))%4294967296=(T+x*b)/BP k%4294967296:=by
 unfold w6;have c:=gk T (BP k);have a:=gk b (BP k);have e:T+x*b=BP k*(T/BP k+x*(b/BP k))+(T%BP k+x*(b%BP k)):=by
  conv=>lhs;rw[c,a]
  rw[aqn,aqn,arT x];omega
 have d:(T+x*b)/BP k=T/BP k+x*(b/BP k)+(T%BP k+x*(b%BP k))/BP k:=by
  conv=>lhs;rw[e]
  rw[dZ (cO k)]
 rw[d];have f:x*(b/BP k%4294967296)%4294967296=x*(b/BP k)%4294967296:=by rw[Nat.mul_mod,Nat.mod_mod,<-Nat.mul_mod]
 omega
variable {k:aw}
def QU{T x:aw}(c:T<BP k)(b:a<BP k):w6 T x a k=(T+x*a)/BP k:=by unfold w6;rw[apW c,apW b]
def RK(d i:aw)(b:0<a):((d/BP (i+1)%a)*4294967296+d/BP i%4294967296)/a%4294967296=d/a/BP i%4294967296/\
  ((d/BP (i+1)%a)*4294967296+d/BP i%4294967296)%a=d/BP i%a/\((d/BP (i+1)%a)*4294967296+d/BP i%4294967296)/a<4294967296:=by
 rw[apO d a,apC a,<-apO d _ a,jP];generalize d/BP i=A;have h:=gk (A/4294967296) a;have g:=apP (A/4294967296) b;have f:A=4294967296*(A/4294967296)+A%4294967296:=gk _ _;generalize A/4294967296/a=q at*;generalize A/4294967296%a=r at*;have k:r*4294967296+A%4294967296<a*4294967296:=by
  have:(r+1)*4294967296<=a*4294967296:=apB _ g;omega
 have e:A=a*(4294967296*q)+(r*4294967296+A%4294967296):=by
  conv=>lhs;rw[f,h]
  rw[aqn,arT];omega
 have c:(r*4294967296+A%4294967296)/a<4294967296:=by rw[ap1 b];omega
 have j:A/a=4294967296*q+(r*4294967296+A%4294967296)/a:=by
  conv=>lhs;rw[e]
  rw[dZ b]
 refine⟨by rw[j];omega,?_,c⟩
 conv=>rhs;rw[e]
 rw[Nat.mul_add_mod]
structure dh where
 W:aw
 V:aw
 P:aw
 top:aw
 next:aw
 v0:aw
 head:aw
 w2:aw
 w0:aw
structure dh.ok(p:dh):Prop where
 hV:p.V=(p.top*4294967296+p.next)*p.P+p.v0
 S2:p.v0<p.P
 hW:p.W=(p.head*4294967296+p.w2)*p.P+p.w0
 hw0:p.w0<p.P
 qf:2147483648<=p.top
 ab1:p.top<4294967296
 Qa:p.next<4294967296
 Dv:p.w2<4294967296
 bZ:p.W<4294967296*p.V
def dh.g(p:dh)(t:aw):aw:=p.head/p.top-t
def dh.r(p:dh)(t:aw):aw:=p.head%p.top+t*p.top
def dh.more(p:dh)(t:aw):Prop:=p.r t<4294967296/\(4294967296<=p.g t\/p.r t*4294967296+p.w2<p.g t*p.next)
variable {x:dh}
def dh.sum(b:a<=x.head/x.top):x.g a*x.top+x.r a=x.head:=by unfold dh.g dh.r;have c:=aqE x.head x.top;obtain⟨q,p⟩:=u3 b;rw[p,aqn]at c;rw[p,Nat.add_sub_cancel_left,apC q,apC a];omega
def dh.alR(a:x.ok){G:aw}(h:x.head*4294967296+x.w2+1<=G*(x.top*4294967296+x.next)):x.W<G*x.V:=by
 have b:=apB x.P h;have d:G*(x.top*4294967296+x.next)*x.P<=G*x.V:=by rw[apx,a.hV];exact apT _ (ar3 _ _)
 have c:=a.hw0;rw[a.hW];rw[aqN (x.head*4294967296+x.w2) 1,aqw]at b;omega
def dh.inv{p:dh}(a:p.ok){T:aw}(b:∀t<T,p.more t):∀t≤T,t<=p.head/p.top/\p.W<(p.g t+1)*p.V
 |0,_=>by
  refine⟨apJ _,dh.alR a ?_⟩;have l:0<p.top:=by have:=a.qf;omega
  have k:p.head<(p.g 0+1)*p.top:=by
   have c:=dh.sum (x:=p) (a:=0) (apJ _);have j:p.r 0<p.top:=by unfold dh.r;rw[aqH,ass];exact apP _ l
   rw[aqN,aqw];omega
  have c:=apB 4294967296 k;have j:=a.Dv;have i:(p.g 0+1)*(p.top*4294967296+p.next)=(p.g 0+1)*p.top*4294967296+(p.g 0+1)*p.next:=by rw[aqn,apx]
  rw[i];have g:(p.head+1)*4294967296=p.head*4294967296+4294967296:=by rw[aqN,aqw]
  rw[Nat.succ_eq_add_one,g]at c;omega
 |t+1,n=>by
  obtain⟨i1,i2⟩:=dh.inv a b t za
  have hm:=b t za
  have d:=dh.sum (x:=p) i1;have key:p.W<p.g t*p.V:=by
   obtain h|h:=hm.2
   ·exact apV a.bZ (apB _ h)
   ·refine dh.alR a ?_
    rw[aqn,<-apx];have f:=aql (·*4294967296) d;simp only[tm]at f;omega
  have m:0<p.g t:=by
   rcases apv (p.g t)with h|h
   ·rw[h,aqH]at key;omega
   ·exact h
  have e:p.g (t+1)=p.g t-1:=by unfold dh.g;omega
  refine⟨by unfold dh.g at m;omega,?_⟩
  rw[e,show p.g t-1+1=p.g t by omega];exact key
def dh.stops(d:x.ok):∃T,(∀t<T,x.more t)/\¬x.more T:=by
 have e:¬x.more 2:=by intro h;have b:=h.1;have f:=d.qf;unfold dh.r at b;omega
 by_cases c:x.more 0;by_cases b:x.more 1;exact⟨2,λt a=>by rcases(by omega:t=0\/t=1)with rfl|rfl<;>assumption,e⟩;exact⟨1,λt a=>by rw[show t=0 by omega];exact c,b⟩;exact⟨0,λt a=>api a za,c⟩
def dh.end(a:x.ok){T:aw}(n:∀t<T,x.more t)(f:¬x.more T):x.g T<4294967296/\x.W<(x.g T+1)*x.V/\(x.g T-1)*x.V<=x.W:=by
 obtain⟨i1,i2⟩:=dh.inv a n T (apc _);have k:=dh.sum (x:=x) i1;have q:0<x.P:=by have:=a.S2;omega
 have o:x.g T<4294967296:=by
  obtain h|h:=apy (x.g T) 4294967296
  ·exact h
  ·exfalso
   refine f ⟨?_,y1 h⟩;have c:4294967296*x.top<=x.g T*x.top:=apB _ h;have b:(x.head*4294967296+x.w2)*x.P<(4294967296*(x.top*4294967296+x.next+1))*x.P:=by
    have e:=a.bZ;have d:=a.hW;have i:=a.hV;have g:=a.S2;have r:4294967296*x.V<=(4294967296*(x.top*4294967296+x.next+1))*x.P:=by
     rw[apx];refine apT _ ?_;rw[aqN _ 1,aqw];omega
    omega
   have e:=Nat.lt_of_mul_lt_mul_right b;have d:=a.Qa;omega
 refine⟨o,i2,?_⟩;rcases apv (x.g T)with j|j
 ·rw[j];simp
 have s:(x.g T-1)*x.V<=x.g T*x.V:=apB _ (arh _ _);by_cases l:x.r T<4294967296
 ·have m:x.g T*x.next<=x.r T*4294967296+x.w2:=by
   rcases apy (x.r T*4294967296+x.w2) (x.g T*x.next)with h|h
   ·exact api ⟨l,y2 h⟩ f
   ·exact h
  have c:x.g T*(x.top*4294967296+x.next)<=x.head*4294967296+x.w2:=by
   rw[aqn,<-apx];have g:=aql (·*4294967296) k;simp only[tm]at g;omega
  have b:=apB x.P c;have e:(x.g T-1)*x.V<=(x.g T-1)*((x.top*4294967296+x.next)*x.P)+(x.g T-1)*x.P:=by
   rw[<-aqn];refine apT _ ?_;have:=a.hV;have:=a.S2;omega
  have d:(x.g T-1)*x.P<=(x.top*4294967296+x.next)*x.P:=by
   refine apB _ ?_;have:=a.qf;omega
  have i:(x.g T-1)*((x.top*4294967296+x.next)*x.P)+(x.top*4294967296+x.next)*x.P=x.g T*(x.top*4294967296+x.next)*x.P:=by
   have:x.g T=(x.g T-1)+1:=za
   conv=>rhs;rw[this]
   rw[apx];generalize(x.top*4294967296+x.next)*x.P=z
   rw[aqN,aqw]
  have:=a.hW;omega
 ·have c:x.V<=(x.top+1)*4294967296*x.P:=by
   have b:(x.top*4294967296+x.next+1)*x.P<=((x.top+1)*4294967296)*x.P:=by
    refine apB _ ?_;have:=a.Qa;omega
   rw[aqN _ 1,aqw]at b;have:=a.hV;have:=a.S2;omega
  have b:x.g T*x.V<=x.g T*((x.top+1)*4294967296*x.P):=apT _ c;have e:x.g T*((x.top+1)*4294967296*x.P)=(x.g T*x.top+x.g T)*4294967296*x.P:=by
   rw[<-apx,<-apx,aqn,aqx]
  have d:(x.g T*x.top+x.g T)*4294967296*x.P<=x.head*4294967296*x.P:=by
   refine apB _ (apB _ ?_);omega
  have i:x.head*4294967296*x.P<=(x.head*4294967296+x.w2)*x.P:=apB _ (ar3 _ _);have:=a.hW;omega
def dh.digit(b:x.ok){T:aw}(d:∀t<T,x.more t)(c:¬x.more T):
  (x.W<x.g T*x.V->x.W/x.V=x.g T-1/\0<x.g T)/\(¬x.W<x.g T*x.V->x.W/x.V=x.g T):=by
 obtain⟨i,f,e⟩:=dh.end b d c;refine⟨λh=>?_,λh=>?_⟩;have g:0<x.g T:=by
  rcases apv (x.g T)with a|a
  rw[a,aqH]at h;omega;exact a
 refine⟨asE ?_ ?_,g⟩;exact e;rw[show x.g T-1+1=x.g T by omega];exact h;exact asE za f
def bl(x:aw):aw:=if x=0 then 0 else x.log2+1
def VF(x:aw):x<2^bl x:=by unfold bl;split;rename_i h;subst h;decide;rename_i h;exact(Nat.log2_lt h).1 (Nat.lt_succ_self _)
def JF{x:aw}(h:x≠0):2^(bl x-1)<=x:=by unfold bl;rw[ape h,asJ];exact(Nat.le_log2 h).1 (apc _)
def TF{x:aw}(h:x≠0):0<bl x:=by unfold bl;rw[ape h];omega
def am0{x:aw}(c:2^k<=x)(b:x<2^(k+1)):bl x=k+1:=by
 have a:x≠0:=by have:=aqC (n:=k) (show 0<2 by omega);omega
 unfold bl;rw[ape a];have:=(Nat.le_log2 a).2 c;have:=(Nat.log2_lt a).2 b;omega
def zR{x:aw}(h:2^k<=x):bl x=bl (x/2^k)+k:=by
 have a:0<2^k:=aqC za;have d:x/2^k≠0:=by have:1<=x/2^k:=(arU a).2 za;omega
 have c:=JF d;have b:=VF (x/2^k);have e:=TF d;obtain⟨m,hm⟩:∃m,bl (x/2^k)=m+1:=⟨bl (x/2^k)-1,by omega⟩;rw[hm]at c b⊢;rw[asJ,arU a,<-ap7]at c;rw[ap1 a,<-ap7]at b;rw[am0 (k:=m+k) c (by rw[show m+k+1=m+1+k by omega];exact b)];omega
def ajj(R i V:aw):R%(BP i*V)=BP i*(R/BP i%V)+R%BP i:=by rw[Nat.mod_mul];omega
def UX(h:k<a)(x y:aw):(BP a*x+y)/BP k%4294967296=y/BP k%4294967296:=by
 have e:BP a*x=BP k*(4294967296*(BP (a-k-1)*x)):=by
  conv=>lhs;rw[show a=(k+(a-k-1))+1 by omega,c_,lL]
  simp only[px,qH,om]
 rw[e,dZ (cO k)];omega
structure ar where
 a:aw
 b:aw
 n:aw
 la:aw
 lb:aw
def ar.U(d:ar):aw:=d.a*2^d.n
def ar.V(d:ar):aw:=d.b*2^d.n
def ar.R(d:ar)(c:aw):aw:=d.U%(BP c*d.V)
def ar.W(d:ar)(i:aw):aw:=d.R (i+1)/BP i
structure ar.ok(d:ar):Prop where
 hn:d.n<=31
 Oq:2<=d.lb
 hle:d.lb<=d.la
 ha:d.a<BP d.la
 hV:d.V<BP d.lb
 hV':2147483648*BP (d.lb-1)<=d.V
def ar.jN(d:ar)(i:aw):dh where
 W:=d.W i
 V:=d.V
 P:=BP (d.lb-2)
 top:=d.V/BP (d.lb-1)
 next:=d.V/BP (d.lb-2)%4294967296
 v0:=d.V%BP (d.lb-2)
 head:=d.W i/BP (d.lb-1)
 w2:=d.W i/BP (d.lb-2)%4294967296
 w0:=d.W i%BP (d.lb-2)
variable {p:ar}
def ar.ahW(a:p.ok):0<p.V:=by have:=a.hV';have:=cO (p.lb-1);omega
def ar.akN(a:p.ok)(c:aw):p.R c<BP c*p.V:=apP _ (aqm (cO c) (ar.ahW a))
def ar.am4(a:p.ok)(i:aw):p.W i<4294967296*p.V:=by have h:=ar.akN a (i+1);unfold ar.W;rw[ap1 (cO i)];rw[c_,apC 4294967296,apx,apC]at h;exact h
def ar.adX(a:p.ok)(i:aw):p.W i<BP (p.lb+1):=by have:=ar.am4 a i;have b:=a.hV;rw[c_];omega
def OD(x lb:aw)(h:2<=lb):x/BP (lb-1)=x/BP (lb-2)/4294967296:=by rw[<-jP,show lb-2+1=lb-1 by omega]
def ar.wS{d:ar}(a:d.ok)(i:aw):(d.jN i).ok where
 hV:=by show d.V=(d.V/BP (d.lb-1)*4294967296+d.V/BP (d.lb-2)%4294967296)*BP (d.lb-2)+d.V%BP (d.lb-2);rw[OD _ _ a.Oq,apC (d.V/BP (d.lb-2)/4294967296),aqE,apC,aqE]
 S2:=iG _ _
 hW:=by show d.W i=(d.W i/BP (d.lb-1)*4294967296+d.W i/BP (d.lb-2)%4294967296)*BP (d.lb-2)+d.W i%BP (d.lb-2);rw[OD _ _ a.Oq,apC (d.W i/BP (d.lb-2)/4294967296),aqE,apC,aqE]
 hw0:=iG _ _
 qf:=(arU (cO _)).2 a.hV'
 ab1:=by show d.V/BP (d.lb-1)<4294967296;have:=a.hV;rw[ap1 (cO _),<-c_,show d.lb-1+1=d.lb by have:=a.Oq;omega];exact this
 Qa:=apP _ za
 Dv:=apP _ za
 bZ:=ar.am4 a i
def ar.head_eq(a:p.ok)(i:aw):p.W i/BP (p.lb-1)=p.W i/BP p.lb%4294967296*4294967296+p.W i/BP (p.lb-1)%4294967296:=by
 have b:=ar.adX a i;have e:p.W i/BP p.lb<4294967296:=by rw[ap1 (cO _),<-c_];exact b
 have c:p.W i/BP p.lb=p.W i/BP (p.lb-1)/4294967296:=by rw[<-jP,show p.lb-1+1=p.lb by have:=a.Oq;omega]
 clear b;generalize p.W i/BP p.lb=x at*;generalize p.W i/BP (p.lb-1)=y at*;omega
def ar.digit(d:ar)(i:aw):d.U/d.V/BP i%4294967296=d.W i/d.V%4294967296:=by
 unfold ar.W ar.R;rw[apO,apC d.V,c_];have h:=aqE d.U (4294967296*BP i*d.V);have e:4294967296*BP i*d.V=BP i*d.V*4294967296:=by rw[apx,apC]
 have a:d.U/(BP i*d.V)%4294967296=d.U%(BP i*d.V*4294967296)/(BP i*d.V)%4294967296:=by rw[so,Nat.mod_mod]
 rw[a,e,<-apO]
def ar.ad2(d:ar)(i:aw):d.R i=BP i*(d.W i%d.V)+d.R (i+1)%BP i:=by
 have h:d.R i=d.R (i+1)%(BP i*d.V):=by unfold ar.R;rw[Nat.mod_mod_of_dvd];rw[c_,apx];exact Nat.dvd_mul_left _ _
 rw[h,ajj];rfl
def ar.am_(d:ar)(h:k<a):d.R a/BP k%4294967296=d.R (a+1)/BP k%4294967296:=by
 rw[ar.ad2,UX h]
 conv=>rhs;rw[<-aqE (d.R (a+1)) (BP a)]
 rw[UX h]
def ar.am9(d:ar):d.R a/BP (a+e)=d.W a%d.V/BP e:=by rw[ar.ad2,lL,<-apO,dZ (cO a),ap3 (iG _ _),ass]
def ar.Od(d:ar):d.R (a+1)/BP (a+e)=d.W a/BP e:=by unfold ar.W;rw[lL,apO]
def ar.akO(d:p.ok)(h:a+p.lb+1<=k):p.R a/BP k=0/\p.R (a+1)/BP k=0:=by have l:=ar.akN d a;have j:=ar.akN d (a+1);have b:=d.hV;have e:BP (a+1+p.lb)<=BP k:=ny za;have c:BP (a+p.lb)<=BP k:=ny za;rw[lL]at e c;have g:BP a*p.V<=BP a*BP p.lb:=apT _ (apU b);have f:BP (a+1)*p.V<=BP (a+1)*BP p.lb:=apT _ (apU b);exact⟨ap3 za,ap3 za⟩
def ar.start(a:p.ok):p.U<BP (p.la+1-p.lb)*p.V/\p.U<BP (p.la+1):=by
 have g:=a.ha;have b:2^p.n<=2147483648:=by have:=apI (n:=2) za a.hn;simpa using this
 have f:p.U<BP p.la*2147483648:=by
  unfold ar.U
  calc p.a*2^p.n<=p.a*2147483648:=apT _ b
   _<BP p.la*2147483648:=za
 have e:BP (p.la+1-p.lb)*(2147483648*BP (p.lb-1))<=BP (p.la+1-p.lb)*p.V:=apT _ a.hV';have c:BP (p.la+1-p.lb)*(2147483648*BP (p.lb-1))=BP p.la*2147483648:=by rw[arT,<-lL,apC,show p.la+1-p.lb+(p.lb-1)=p.la by have:=a.Oq;have:=a.hle;omega]
 refine⟨by omega,?_⟩;rw[c_];omega
def ar.akM:p.R 0/2^p.n=p.a%p.b:=by unfold ar.R ar.U ar.V;rw[iJ,aqw,asp,asb _ (aqC za)]
def ar.quot:p.U/p.V=p.a/p.b:=by unfold ar.U ar.V;rw[Nat.mul_div_mul_right _ _ (aqC za)]
def ar.normal(g:2<=y6 (words e))(q:e<=a):
  ar.ok ⟨a,e,32-bl ((words e).getD (y6 (words e)-1) 0),y6 (words a),y6 (words e)⟩:=by
 have i:e≠0:=by rintro rfl;simp[qA]at g
 have f:=oI i;generalize j:(words e).getD (y6 (words e)-1) 0=x at f⊢;have c:x=e/BP (y6 (words e)-1)%4294967296:=by rw[<-j,de (aU e),aK]
 have p:=(aS e (words e).length).1 (apc _);have hdiv:e/BP (y6 (words e)-1)<4294967296:=by
  rw[ap1 (cO _),<-c_,show y6 (words e)-1+1=y6 (words e) by omega];exact p
 rw[apW hdiv]at c;have o:=VF x;have n:=JF f;have s:=TF f;have r:bl x<=32:=by
  rcases apy 32 (bl x)with h|h
  ·have:2^32<=2^(bl x-1):=apI za za
   have:(2:aw)^32=4294967296:=zv
   omega
  ·exact h
 have k:0<2^(32-bl x):=aqC za
 refine⟨by show 32-bl x<=31;omega,g,?_,(aS a _).1 (apc _),?_,?_⟩
 ·exact(aS e _).2 (aqh q ((aS a _).1 (apc _)))
 ·show e*2^(32-bl x)<BP (words e).length
  have b:BP (words e).length=4294967296*BP (y6 (words e)-1):=by rw[<-c_,show y6 (words e)-1+1=y6 (words e) by omega]
  have d:e<2^bl x*BP (y6 (words e)-1):=by
   rw[<-ap1 (cO _),<-c];exact o
  have m:=aq2 d k;rw[b];have l:2^bl x*BP (y6 (words e)-1)*2^(32-bl x)=4294967296*BP (y6 (words e)-1):=by
   rw[Nat.mul_right_comm,<-ap7,show bl x+(32-bl x)=32 by omega]
  omega
 ·show 2147483648*BP (y6 (words e)-1)<=e*2^(32-bl x)
  have d:2^(bl x-1)*BP (y6 (words e)-1)<=e:=by
   rw[<-arU (cO _),<-c];exact n
  have m:=apB (2^(32-bl x)) d;have l:2^(bl x-1)*BP (y6 (words e)-1)*2^(32-bl x)=2147483648*BP (y6 (words e)-1):=by
   rw[Nat.mul_right_comm,<-ap7,show bl x-1+(32-bl x)=31 by omega]
  omega
open Go Go.RowKit Go.Proofs
variable {G:bn->Prop}
def u32(n:aw):D:=yT (.int .u32 (zNq n))
abbrev xc:D:=yT .nilIface
abbrev xp(n:aw):D:=yI 1 aj [u32 n]
def u64(n:aw):D:=yT (.int .u64 (zNq n))
def int(n:cA):D:=yT (.int .i64 n)
def nat(n:aw):D:=yT (.int .i64 (zNq n))
def bool(b:b5):D:=yT (.bool b)
def ak(l:ai aw):D:=yI (y6 l) aj (l.map u32)
def EX(h:a<y6 b):((b.map u32).drop (a*1)).headD .any=u32 (y7 b a 0):=by rw[aqx,uo,List.head?_drop,aqz,apj h,apf,apj h];rfl
def bz{x y:cA}(h:x=y):D.lit (.int .u64 x)=D.lit (.int .u64 y):=by rw[h]
def gR{x y:cA}(h:x=y):D.lit (.int .u32 x)=D.lit (.int .u32 y):=by rw[h]
def bL{x y:cA}(h:x=y):D.lit (.int .i64 x)=D.lit (.int .i64 y):=by rw[h]
def cU(h:a<y6 b):((0:cA)<=zNq a/\zNq a<(y6 b:cA))/\(zNq a).toNat*1<y6 (b.map u32):=by simp only[List.length_map,zKq,mm];omega
def a7(h:a<y6 b):0<1/\1<=y6 ((b.map u32).drop ((zNq a).toNat*1)):=by simp only[m6,List.length_map,zKq,mm];omega
def aT(h:a<y6 b):((b.map u32).drop ((zNq a).toNat*1)).headD .any=u32 (y7 b a 0):=EX h
variable {A K:aw->aw} (d:aa G) {f:ai aw}
def Zg(l:ai aw)(i:aw)(h:y6 l<=i):Spec zZq G 183 [ak l,nat i] (u64 0):=
 Spec.r d func183 [] [.eb 8 (x:=decide (zNq i<zNq (y6 l))) (y:=aj) zT]
def aen(l:ai aw)(a:gg l)(i:aw)(h:i<y6 l):Spec zZq G 183 [ak l,nat i] (u64 (y7 l i 0)):=
  Spec.r d func183 [] [.eb 8 (x:=decide (zNq i<zNq (y6 l))) (y:=bj) zT,yu (cU h),yu (a7 h),.eq 12 (aT h),
     .eq 13 (bz (x:=bJ .u64 (zNq (y7 l i 0))) (y:=zNq (y7 l i 0)) (wrap64 (by have:=a.getD i;omega)))]
def tH(l:ai aw)(b:gg l)(i:aw):Spec zZq G 183 [ak l,nat i] (u64 (y7 l i 0)):=by
 obtain h|h:=apy i (y6 l)
 exact aen d l b i h;have:=Zg d l i h
 rwa [show y7 l i 0=0 by simp[bP,jy h]]
def xl(l:ai aw)(i:aw):St:=lay 25 [(0,ak l),(3,nat (y6 l-i))] []
def Rw(e:a<y6 b-y6 (words (val b)))(c:gg b)(f:y6 b<2^60):
    af zZq G 0 (ae f182 0) (xl b a) y3 (xl b (a+1)):=by
  have i:y7 b (y6 b-(a+1)) 0=0:=(tF c).2.2.1 _ za;have l:y6 b-(a+1)<y6 b:=za
  exact af.r d [.eb 7 (x:=decide (zNq (y6 b-a)>0)) (y:=bj) zT,
     .eq 11 (bL (x:=bJ .i64 (zNq (y6 b-a)-1)) (y:=zNq (y6 b-(a+1))) (by rw[qu zT zT];simp;omega)),
     yu (cU l),yu (a7 l),.eq 13 (aT l),.eb 14 (x:=zNq (y7 b (y6 b-(a+1)) 0)==0) (y:=bj) (by rw[i];rfl),
     .eq 17 (bL (x:=bJ .i64 (zNq (y6 b-a)-1)) (y:=zNq (y6 b-(a+1))) (by rw[qu zT zT];simp;omega))]
def V6(l:gg b)(g:y6 b<2^60):
    af zZq G 0 (ae f182 0) (xl b (y6 b-y6 (words (val b)))) (y5 0) (xl b (y6 b-y6 (words (val b)))):=by
  obtain⟨i,-,h,e⟩:=tF l;obtain f|c:=apv (words (val b)).length
  · exact af.r d [.eb 7 (x:=decide (zNq (y6 b-(y6 b-y6 (words (val b))))>0)) (y:=aj) zT]
  · have a:y6 (words (val b))-1<y6 b:=za
    exact af.r d [.eb 7 (x:=decide (zNq (y6 b-(y6 b-y6 (words (val b))))>0)) (y:=bj) zT,
       .eq 11 (bL (x:=bJ .i64 (zNq (y6 b-(y6 b-y6 (words (val b))))-1)) (y:=zNq (y6 (words (val b))-1)) (by rw[qu zT zT];simp;omega)),
       yu (cU a),yu (a7 a),.eq 13 (aT a),.eb 14 (x:=zNq (y7 b (y6 (words (val b))-1) 0)==0) (y:=aj) (by rw[c4];have:=e c;simp only[zKq];omega)]
def KQ(a:gg b)(c:y6 b<2^60):
  aI zZq G 25 0 (.loop (ae f182 0)) (xl b 0) (y5 0) (xl b (y6 b-y6 (words (val b)))):=
 aI.count (xl b) _ (λi=>aO _ _ _) zb (λi l=>Rw d l a c) (V6 d a c)
def mT(c:aa G)(g:gg b)(m:y6 b<=2^45):Spec zZq G 182 [ak b] (ak (words (val b))):=by
  have i:y6 b<2^60:=za
  obtain⟨n,k,-,-⟩:=tF g;have f:y6 b-(y6 b-y6 (words (val b)))=y6 (words (val b)):=za
  by_cases e:words (val b)=[]
  · have h:y6 (words (val b))=0:=by rw[e];rfl
    have:=Spec.r c func182 [] (args:=[ak b]) (r:=ak [])
      [.code (KQ c g i),.eb 19 (x:=zNq (y6 b-(y6 b-y6 (words (val b))))==0) (y:=bj) (by rw[f,h];rfl)]
    rw[e];exact this
  · have h:0<y6 (words (val b)):=by cases j:words (val b)with|nil=>exact api j e|cons a l=>simp
    refine Spec.r c func182 [24] (args:=[ak b]) (r:=ak (words (val b)))
      [.code (KQ c g i),.eb 19 (x:=zNq (y6 b-(y6 b-y6 (words (val b))))==0) (y:=aj) (by rw[f];simp;omega),
       .eq 22 (d:=nat (y6 b-(y6 b-y6 (words (val b))))) (d':=nat (words (val b)).length) (by rw[f]),
       yu (p:=(0:cA)<=0/\0<=zNq (words (val b)).length/\zNq (words (val b)).length<=zNq (y6 b)) zT,
       .eq 23 (d:=yI ((zNq (words (val b)).length).toNat-(0:cA).toNat) (aj&&aj) (((b.map u32).drop ((0:cA).toNat*1)).take (((zNq (words (val b)).length).toNat-(0:cA).toNat)*1))) (d':=ak (words (val b))) ?_,
       yu (p:=y6 ([]:ai D)=0*1/\y6 ((words (val b)).map u32)=y6 (words (val b))*1/\0+y6 (words (val b))<=2^62/\(0+y6 (words (val b)))*4<=2^47) zT,
       .eq 24 (d:=yI (0+y6 (words (val b))) aj ([]++(words (val b)).map u32)) (d':=ak (words (val b))) (by simp[ak])]
    simp only[zKq,mm,Int.toNat_zero,qg,si,sv,im];rw[<-arL,<-k];rfl
def cK(N:aw)(f:aw->aw):ai D:=(ch N).map λj=>u32 (f j)
def dw(N:aw)(f:aw->aw):y6 (cK N f)=N:=by simp[cK]
def aV{N:aw}(h:∀j<N,A j=K j):cK N A=cK N K:=apz λj a=>by rw[h j (by simpa using a)]
def oh(N:aw):cd N (u32 0)=cK N (λ_=>0):=by apply arv;simp[cK];intro i b a;simp[cK]
def fP{N:aw}(f:aw->aw)(v:aw)(h:a<N):aE (cK N f) a [u32 v]=cK N (λj=>if j=a then v else f j):=by
 apply asL;intro k;simp only[aE,cK,rj];by_cases c:k<a
 ·rw[aqe zT,aq8,aph c]
  have:k<N:=za
  simp[this,Nat.ne_of_lt c]
 ·by_cases b:k=a
  ·subst b
   rw[apS zT]
   simp[h,Nat.min_eq_left (Nat.le_of_lt h)]
  ·rw[apS zT]
   have e:k-y6 ((m4 (λj=>u32 (f j)) (ch N)).take a)=(k-a-1)+1:=zT
   rw[e,List.singleton_append,nr,ar'];have d:a+1+(k-a-1)=k:=za
   rw[d];by_cases i:k<N
   ·simp[i,b]
   ·simp[i]
def DY(N s:aw):cK N (λj=>s/BP j%4294967296)=(fw N s).map u32:=by simp[cK,fw]
def lZ{N:aw}(h:a<N):((cK N A).drop a).headD .any=u32 (A a):=by rw[uo,List.head?_drop];simp[cK,h]
def rH(N s:aw):D.row N aj (((cK N (λj=>s/BP j%4294967296)).drop 0).take N)=ak (fw N s):=by rw[DY,aqD,apA (by simp[dz])];unfold ak;rw[dz]
def jf{N:aw}(h:a<BP N):words (val (fw N a))=words a:=by rw[CA h]
def fdiv_pow(s k:aw):(zNq s).fdiv (2^k)=zNq (s/2^k):=by
 have e:(2:cA)^k=zNq (2^k):=zb
 rw[e];exact(Int.ofNat_fdiv s (2^k)).symm
def sU(s:aw):(zNq s).fdiv (2^min (ga 32) (cn .u64))=zNq (s/4294967296):=by rw[show min (ga 32) (cn .u64)=32 by decide,fdiv_pow]
def ahd(s:aw):(zNq s).fdiv (2^min (ga 63) (cn .u64))=zNq (s/9223372036854775808):=by rw[show min (ga 63) (cn .u64)=63 by decide,fdiv_pow]
def b7(h:a<2^60):bJ .i64 (zNq a+1)=zNq (a+1):=by have i:=dF;rw[qu zT zT];simp
def lP(h:a<2^60)(b:0<a):bJ .i64 (zNq a-1)=zNq (a-1):=by have i:=dF;rw[qu zT zT];simp;omega
def ah{N:aw}(h:a<N):decide (zNq a<zNq N)=bj:=by simpa using h
def av{N:aw}(h:N<=a):decide (zNq a<zNq N)=aj:=by simpa using h
def jV(b i:aw):D.ptr b (0+(zNq i).toNat*1)=y0 b i:=zb
def dk{N:aw}(h:a<N):(0:cA)<=zNq a/\zNq a<(N:cA):=zT
def l8{N:aw}(h:N<=2^45):zNq N=zNq N/\0<=zNq N/\zNq N*4<=2^47/\zNq N<=2^62:=by
 have c:=dR;have b:(2:cA)^47=140737488355328:=zv
 have a:(2:cA)^62=4611686018427387904:=zv
 rw[b,a];simp;omega
def Lc(a b i j:aw):aw:=if j<i then(a+b)/BP j%4294967296 else 0
def dE(l m:ai aw):aw:=max (y6 l) (y6 m)+1
def rC(l m:ai aw)(i:aw):St:=
 lay 39 [(0,ak l),(1,ak m),(5,.aY 0 0 (dE l m) (dE l m)),(6,u64 (nt (val l) (val m) i)),(16,nat (dE l m)),(17,nat i)] [(0,cK (dE l m) (Lc (val l) (val m) i))]
def Sd(l:gg b)(m:gg f)(c:a<dE b f)(q:dE b f<2^60):
    af zZq G 0 (ae f126 0) (rC b f a) y3 (rC b f (a+1)):=by
  have i:=Fp (val b) (val f) a;have g:=JB (val b) (val f) a;rw[<-de l,<-de m]at i g;have t:=l.getD a;have s:=m.getD a;have r:=NY (val b) (val f) a;have e:rC b f (a+1)=lay 39 [(0,ak b),(1,ak f),(5,.aY 0 0 (dE b f) (dE b f)),(6,u64 (nt (val b) (val f) (a+1))),(16,nat (dE b f)),(17,nat (a+1))]
      [(0,aE (cK (dE b f) (Lc (val b) (val f) a)) a [u32 ((val b+val f)/BP a%4294967296)])]:=by
    rw[fP _ _ c];unfold rC;congr 3;refine aV λj o=>?_
    unfold Lc;by_cases k:j=a
    · subst k;simp
    · rw[ape k];by_cases h:j<a
      · rw[aph h,aph za]
      · rw[ape h,ape za]
  rw[e];exact af.r d [.eb 18 (ah c),z3 (tH d b l a),z3 (tH d f m a),
     .eq 27 (bz (x:=bJ .u64 (zNq (b.getD a 0)+zNq (f.getD a 0))) (y:=zNq (b.getD a 0+f.getD a 0)) (wrap64 (a:=b.getD a 0+f.getD a 0) za)),
     .eq 28 (bz (x:=bJ .u64 (zNq (nt (val b) (val f) a)+zNq (b.getD a 0+f.getD a 0))) (y:=zNq (nt (val b) (val f) a+(b.getD a 0+f.getD a 0))) (wrap64 (a:=nt (val b) (val f) a+(b.getD a 0+f.getD a 0)) za)),
     .eq 32 (gR (x:=bJ .u32 (zNq (nt (val b) (val f) a+(b.getD a 0+f.getD a 0)))) (y:=zNq ((val b+val f)/BP a%4294967296)) (by rw[<-g];exact wrap32)),
     yu (dk c),.eq 33 (jV 0 a),yu (p:=a+1<=y6 (cK (dE b f) (Lc (val b) (val f) a))) (by rw[dw];omega),
     .eq 35 (bz (x:=(zNq (nt (val b) (val f) a+(b.getD a 0+f.getD a 0))).fdiv (2^min (ga 32) (cn .u64))) (y:=zNq (nt (val b) (val f) (a+1))) (by rw[sU,<-i])),
     .eq 36 (bL (b7 (a:=a) za))]
def WM:af zZq G 0 (ae f126 0) (rC b f (dE b f)) (y5 0) (rC b f (dE b f)):=
 af.r d [.eb 18 (av (apc (dE b f)))]
def WL(c:gg b)(m:gg f)(l:dE b f<2^60):
  aI zZq G 39 0 (.loop (ae f126 0)) (lay 39 [(0,ak b),(1,ak f),(5,.aY 0 0 (dE b f) (dE b f)),(6,u64 0),(16,nat (dE b f)),(17,nat 0)] [(0,cd (dE b f) (u32 0))]) (y5 0)
   (rC b f (dE b f)):=by
 have h:=aI.count (rC b f) (dE b f) (λi=>aO _ _ _) zb (λi a=>Sd d c m a l) (WM d);have e:rC b f 0=lay 39 [(0,ak b),(1,ak f),(5,.aY 0 0 (dE b f) (dE b f)),(6,u64 0),(16,nat (dE b f)),(17,nat 0)] [(0,cd (dE b f) (u32 0))]:=by rw[oh];unfold rC;rw[Fo];congr 3
 rw[e]at h;exact h
def GZ(l m:ai aw):(if zNq (y6 m)>zNq (y6 l) then zNq (y6 m) else zNq (y6 l))=zNq (max (y6 l) (y6 m)):=by split;rename_i h;simp at h;rw[asT za];rename_i h;simp at h;rw[Nat.max_eq_left za]
def Lb(m:gg b)(a:gg f):val b+val f<BP (dE b f):=by have l:=mE m;have e:=mE a;have d:BP (y6 b)<=BP (max (y6 b) (y6 f)):=ny (arP _ _);have c:BP (y6 f)<=BP (max (y6 b) (y6 f)):=ny (arI _ _);unfold dE;rw[c_];omega
def WK(a:aa G)(e:gg b)(c:gg f)(n:b.length<=2^44)(k:f.length<=2^44):
    Spec zZq G 126 [ak b,ak f] (ak (words (val b+val f))):=by
  have p:=dS;have o:=dR;have l:dE b f<=2^45:=by unfold dE;omega
  have g:=Lb e c;have m:=mT a (b:=fw (dE b f) (val b+val f)) (jQ _ _) (by rw[dz];exact l)
  rw[jf g]at m;refine Spec.r a func126 [] (args:=[ak b,ak f])
    [.eq 12 (bL (GZ b f)),.eq 13 (bL (b7 (a:=max b.length f.length) za)),yu (l8 l),.code (WL a e c za),.freeze 0,
     .eq 37 (d:=D.row (dE b f) aj (((cK (dE b f) (Lc (val b) (val f) (dE b f))).drop 0).take (dE b f))) (d':=ak (fw (dE b f) (val b+val f))) ?_,z3 m]
  rw[<-rH];congr 3;exact aV λj h=>by unfold Lc;rw[aph h]
def yA(x y:aw):aw:=(x+18446744073709551616-y)%18446744073709551616
def Cy{x y:aw}(h:y<=18446744073709551616):bJ .u64 (zNq x-zNq y)=zNq (yA x y):=by rw[rk];unfold yA;simp only[zKq];omega
def Ug{x y:aw}(b:x<4294967296)(c:y<4294967296)(d:a<=1):yA (yA x y) a/9223372036854775808=if x<y+a then 1 else 0:=by unfold yA;split<;>omega
def Uf{x y:aw}(b:x<4294967296)(c:y<4294967296)(d:a<=1):((yA (yA x y) a%4294967296:aw):cA)=((x:cA)-y-a)%4294967296:=by unfold yA;omega
def Ly(a b i j:aw):aw:=if j<i then(a-b)/BP j%4294967296 else 0
def ahM{N:aw}(b:a<N)(g:aw->aw):aE (cK N (λj=>if j<a then g j else 0)) a [u32 (g a)]=cK N (λj=>if j<a+1 then g j else 0):=by
 rw[fP _ _ b];refine aV λj _=>?_
 by_cases i:j=a;subst i;simp;rw[ape i];by_cases h:j<a;rw[aph h,aph za];rw[ape h,ape za]
def rF(l m:ai aw)(i:aw):St:=
 lay 38 [(0,ak l),(1,ak m),(5,.aY 0 0 (y6 l) (y6 l)),(6,u64 (fM (val l) (val m) i)),(13,nat (y6 l)),(14,nat i)] [(0,cK (y6 l) (Ly (val l) (val m) i))]
def ajy(a:gg b)(i:aw):bJ .u64 (zNq (y7 b i 0))=zNq (y7 b i 0):=wrap64 (by have:=a.getD i;omega)
def SQ(c:gg b)(m:gg f)(hle:val f<=val b)(g:a<b.length)(q:b.length<2^60):
    af zZq G 0 (ae f128 0) (rF b f a) y3 (rF b f (a+1)):=by
  have l:=Fj (val b) (val f) a;have i:=Ju hle a;rw[<-de c,<-de m]at l i;have n:=c.getD a;have k:=m.getD a;have h:=ye (val b) (val f) a;have e:rF b f (a+1)=lay 38 [(0,ak b),(1,ak f),(5,.aY 0 0 b.length b.length),(6,u64 (fM (val b) (val f) (a+1))),(13,nat b.length),(14,nat (a+1))]
      [(0,aE (cK b.length (Ly (val b) (val f) a)) a [u32 ((val b-val f)/BP a%4294967296)])]:=by
    unfold rF;have:=ahM g (λj=>(val b-val f)/BP j%4294967296);have o:Ly (val b) (val f) a=λj=>if j<a then(val b-val f)/BP j%4294967296 else 0:=rfl
    rw[o,this];rfl
  rw[e];exact af.r d [.eb 15 (ah g),yu (cU g),yu (a7 g),.eq 20 (aT g),.eq 21 (bz (ajy c a)),z3 (tH d f m a),
     .eq 25 (bz (x:=bJ .u64 (zNq (b.getD a 0)-zNq (f.getD a 0))) (Cy za)),
     .eq 27 (bz (x:=bJ .u64 (zNq (yA (b.getD a 0) (f.getD a 0))-zNq (fM (val b) (val f) a))) (Cy za)),
     .eq 31 (gR (x:=bJ .u32 (zNq (yA (yA (b.getD a 0) (f.getD a 0)) (fM (val b) (val f) a)))) (y:=zNq ((val b-val f)/BP a%4294967296)) (by rw[show zNq ((val b-val f)/BP a%4294967296)=(((val b-val f)/BP a%4294967296:aw):cA)from rfl,<-i,<-Uf n k h];exact wrap32)),
     yu (dk g),.eq 32 (jV 0 a),yu (p:=a+1<=y6 (cK b.length (Ly (val b) (val f) a))) (by rw[dw];omega),
     .eq 34 (bz (x:=(zNq (yA (yA (b.getD a 0) (f.getD a 0)) (fM (val b) (val f) a))).fdiv (2^min (ga 63) (cn .u64))) (y:=zNq (fM (val b) (val f) (a+1))) (by rw[ahd,Ug n k h,<-l])),
     .eq 35 (bL (b7 (a:=a) za))]
def Xl:af zZq G 0 (ae f128 0) (rF b f (y6 b)) (y5 0) (rF b f (y6 b)):=
 af.r d [.eb 15 (av (apc (y6 b)))]
def Xk(c:gg b)(m:gg f)(hle:val f<=val b)(l:b.length<2^60):
  aI zZq G 38 0 (.loop (ae f128 0)) (lay 38 [(0,ak b),(1,ak f),(5,.aY 0 0 b.length b.length),(6,u64 0),(13,nat b.length),(14,nat 0)] [(0,cd b.length (u32 0))]) (y5 0)
   (rF b f b.length):=by
 have h:=aI.count (rF b f) b.length (λi=>aO _ _ _) zb (λi a=>SQ d c m hle a l) (Xl d);have e:rF b f 0=lay 38 [(0,ak b),(1,ak f),(5,.aY 0 0 b.length b.length),(6,u64 0),(13,nat b.length),(14,nat 0)] [(0,cd b.length (u32 0))]:=by rw[oh];unfold rF;rw[wZ];congr 3
 rw[e]at h;exact h
def Xj(a:aa G)(c:gg b)(g:gg f)(hle:val f<=val b)(i:b.length<=2^44):
    Spec zZq G 128 [ak b,ak f] (ak (words (val b-val f))):=by
  have n:=dS;have k:=dR;have e:b.length<=2^45:=za
  have l:val b-val f<BP b.length:=aqh (arh _ _) (mE c);have m:=mT a (b:=fw b.length (val b-val f)) (jQ _ _) (by rw[dz];exact e);rw[jf l]at m;refine Spec.r a func128 [] (args:=[ak b,ak f])
    [yu (l8 e),.code (Xk a c g hle za),.freeze 0,
     .eq 36 (d:=D.row b.length aj (((cK b.length (Ly (val b) (val f) b.length)).drop 0).take b.length)) (d':=ak (fw b.length (val b-val f))) ?_,z3 m]
  rw[<-rH];congr 3;exact aV λj h=>by unfold Ly;rw[aph h]
def L3:aw->cA
 |0=> -1
 |i+1=>zNq i
def akl(c:aw):L3 c=(c:cA)-1:=by
 cases c with
 |zero=>rfl
 |succ i=>show zNq i=_;simp
def mu(h:a<2^60):bJ .i64 (zNq a-1)=L3 a:=by have n:=dF;rw[qu zT zT,akl];rfl
def j9(a b:aw):cA:=if a<b then -1 else if b<a then 1 else 0
def AK{a b i:aw}(h:a/BP (i+1)=b/BP (i+1)):(a/BP i%4294967296=b/BP i%4294967296->a/BP i=b/BP i)/\(a/BP i%4294967296<b/BP i%4294967296->a<b):=by
 rw[jP,jP]at h;refine⟨λe=>by omega,λe=>?_⟩;have f:a/BP i<b/BP i:=za
 obtain d|d:=apy a b
 exact d;have:=ast (c:=BP i) d;omega
def xg(h:y6 (words a)<y6 (words e)):a<e:=by
 obtain c|c:=apy a e
 exact c;exfalso;have d:=(aS a (words a).length).1 (apc _);have b:=(aS e (words a).length).2 (aqh c d);omega
def mC(a i:aw):(words a).getD i 0=a/BP i%4294967296:=by rw[de (aU a),aK]
def KF(a:aw):a/BP (words a).length=0:=ap3 ((aS a _).1 (apc _))
def uE(a b c:aw):St:=lay 41 [(0,ak (words a)),(1,ak (words b)),(5,int (L3 c))] []
def zM(f:k<y6 (words a))(c:k<y6 (words e))(b:(words a).getD k 0=(words e).getD k 0)(g:y6 (words a)<2^60):
    af zZq G 0 (ae f127 0) (uE a e (k+1)) y3 (uE a e k):=
  af.r d [.eb 20 (x:=decide (zNq k>=0)) (y:=bj) zb,yu (cU f),yu (a7 f),.eq 26 (aT f),yu (cU c),yu (a7 c),.eq 30 (aT c),
     .eb 31 (x:=zNq ((words a).getD k 0) !=zNq ((words e).getD k 0)) (y:=aj) (by rw[b];simp),.eq 22 (bL (mu (a:=k) za))]
def akm(f:k<y6 (words a))(c:k<y6 (words e))(b:(words a).getD k 0<(words e).getD k 0):
    af zZq G 0 (ae f127 0) (uE a e (k+1)) .ret (lay 41 [(4,int (-1))] []):=
  af.r d [.eb 20 (x:=decide (zNq k>=0)) (y:=bj) zb,yu (cU f),yu (a7 f),.eq 26 (aT f),yu (cU c),yu (a7 c),.eq 30 (aT c),
     .eb 31 (x:=zNq ((words a).getD k 0) !=zNq ((words e).getD k 0)) (y:=bj) (by simp only[kE,zKq];omega),
     yu (cU f),yu (a7 f),.eq 35 (aT f),yu (cU c),yu (a7 c),.eq 39 (aT c),
     .eb 40 (x:=decide (zNq ((words a).getD k 0)<zNq ((words e).getD k 0))) (y:=bj) (ah b)]
def akn(f:k<y6 (words a))(c:k<y6 (words e))(b:(words e).getD k 0<(words a).getD k 0):
    af zZq G 0 (ae f127 0) (uE a e (k+1)) .ret (lay 41 [(4,int 1)] []):=
  af.r d [.eb 20 (x:=decide (zNq k>=0)) (y:=bj) zb,yu (cU f),yu (a7 f),.eq 26 (aT f),yu (cU c),yu (a7 c),.eq 30 (aT c),
     .eb 31 (x:=zNq ((words a).getD k 0) !=zNq ((words e).getD k 0)) (y:=bj) (by simp only[kE,zKq];omega),
     yu (cU f),yu (a7 f),.eq 35 (aT f),yu (cU c),yu (a7 c),.eq 39 (aT c),
     .eb 40 (x:=decide (zNq ((words a).getD k 0)<zNq ((words e).getD k 0))) (y:=aj) (av (apU b))]
def agu:af zZq G 0 (ae f127 0) (uE a e 0) (y5 0) (uE a e 0):=
 af.r d []
def QM(e:y6 (words a)<2^60):
  aI zZq G 41 0 (.loop (ae f127 0)) (uE a a (words a).length) (y5 0) (uE a a 0):=
 aI.rounds (λc=>c<=y6 (words a)) (uE a a) id (λi=>aO _ _ _) zb (λc b=>by
  cases c with
  |zero=>exact y2 (agu d)
  |succ i=>exact y1 ⟨i,by omega,by simp,zM d b b rfl e⟩) _ (apc _)
def QL(g:a≠e)(j:y6 (words a)=y6 (words e))(k:y6 (words a)<2^60):
  aI zZq G 41 0 (.loop (ae f127 0)) (uE a e (words a).length) .ret (lay 41 [(4,int (j9 a e))] []):=
 aI.rounds (λc=>c<=y6 (words a)/\a/BP c=e/BP c) (uE a e) id (λi=>aO _ _ _) zb (λc f=>by
  obtain⟨f,b⟩:=f;cases c with
  |zero=>exact api (by rw[iJ,aqP,aqP]at b;exact b) g
  |succ i=>
   obtain⟨d1,d2⟩:=AK b;obtain⟨-,d3⟩:=AK b.symm;rw[<-mC,<-mC]at d1 d2 d3;rcases aq5 ((words a).getD i 0) ((words e).getD i 0)with h|h|h
   right;have:=akm d f za h;rw[show j9 a e= -1 by unfold j9;rw[aph (d2 h)]];exact this;exact y1 ⟨i,⟨by omega,d1 h⟩,by simp,zM d f za h k⟩;right;have:=akn d f za h;rw[show j9 a e=1 by unfold j9;have:=d3 h;rw[ape za,aph this]];exact this) _ ⟨apc _,by rw[KF,j,KF]⟩
def nk(a b:aw)(f:y6 (words a)<=2^44)(e:y6 (words b)<=2^44):
  Spec zZq G 127 [ak (words a),ak (words b)] (int (j9 a b)):=by
 have g:=dS;have c:=dF;obtain h|h|h:=aq5 (words a).length (words b).length
 have:=xg h;rw[show j9 a b= -1 by unfold j9;rw[aph this]];exact Spec.r d func127 [] [.eb 10 (x:=zNq (words a).length !=zNq (words b).length) (y:=bj) (by simp only[kE,zKq];omega),.eb 15 (ah h)];by_cases he:a=b;subst he;rw[show j9 a a=0 by unfold j9;rw[ape za,ape za]];exact Spec.r d func127 [] [.eb 10 (x:=zNq (words a).length !=zNq (words a).length) (y:=aj) zb,.eq 18 (bL (mu (a:=y6 (words a)) za)),.code (QM (a:=a) d za)];exact Spec.r d func127 [] [.eb 10 (x:=zNq (words a).length !=zNq (words b).length) (y:=aj) (by rw[h];simp),.eq 18 (bL (mu (a:=y6 (words a)) za)),.code (QL d he h za)];have:=xg h;rw[show j9 a b=1 by unfold j9;rw[ape za,aph this]];exact Spec.r d func127 [] [.eb 10 (x:=zNq (words a).length !=zNq (words b).length) (y:=bj) (by simp only[kE,zKq];omega),.eb 15 (av (apU h))]
def iM(l m:ai aw)(i:aw):aw:=val l%BP i*val m
def BC(l m:ai aw)(i:aw):aw:=iM l m i+y7 l i 0*val m*BP i
def T9(a:gg b)(m:ai aw)(i:aw):BC b m i=iM b m (i+1):=by unfold BC iM;rw[jL,<-de a,aqN,apx,apC (val m) (BP i),<-apx,apC (y7 b i 0),aqF]
def CE(l m:ai aw)(i k:aw):BC l m i/BP (i+k)=(iM l m i/BP i+y7 l i 0*val m)/BP k:=by unfold BC;rw[lL,<-apO,aq7 _ _ (cO i)]
def OI(l m:ai aw)(i k:aw):iM l m i/BP (i+k)=iM l m i/BP i/BP k:=by rw[lL,apO]
def GN(m:gg f)(i:aw)(a:0<BP (y6 f)):iM b f i<BP (i+y6 f):=by
 unfold iM;rw[lL];have d:=iG (val b) i;have c:=mE m
 calc val b%BP i*val f<=val b%BP i*BP (y6 f):=apT _ (apU c)
  _<BP i*BP (y6 f):=aq2 d a
def tf(l m:ai aw)(i k j:aw):aw:=if j<i+k then BC l m i/BP j%4294967296 else iM l m i/BP j%4294967296
def nL(l m:ai aw)(i k:aw):aw:=w6 (iM l m i/BP i) (y7 l i 0) (val m) k
def cW(l m:ai aw):aw:=y6 l+y6 m
def A_(l m:ai aw)(i k:aw):St:=
 lay 67 [(0,ak l),(1,ak m),(5,.aY 0 0 (cW l m) (cW l m)),(6,nat i),(7,u32 (y7 l i 0)),(8,u64 (nL l m i k)),(17,ak l),(18,nat (y6 l)),(19,nat i),(24,ak m),(25,nat (y6 m)),(26,nat k)]
  [(0,cK (cW l m) (tf l m i k))]
def pS(h:a+k<2^60):bJ .i64 (zNq a+zNq k)=zNq (a+k):=by have i:=dF;rw[qu zT zT];simp
def wrap_add{x y:aw}(h:x+y<18446744073709551616):bJ .u64 (zNq x+zNq y)=zNq (x+y):=wrap64 (a:=x+y) h
def wrap_mul{x y:aw}(h:x*y<18446744073709551616):bJ .u64 (zNq x*zNq y)=zNq (x*y):=wrap64 (a:=x*y) h
def jC{x:aw}(h:x<4294967296):bJ .u64 (zNq x)=zNq x:=wrap64 za
def iL(x:aw):bJ .u32 (zNq x)=zNq (x%4294967296):=wrap32
def zd{x y:aw}(b:x<4294967296)(a:y<4294967296):x*y<=18446744065119617025:=by have:x*y<=4294967295*4294967295:=apR za za;omega
def Wa(t:gg b)(n:gg f)(z:a<b.length)(u:k<f.length)(B:cW b f<2^60):
    af zZq G 0 (ae f136 1) (A_ b f a k) y3 (A_ b f a (k+1)):=by
  have w:=dF;have m:a+k<cW b f:=by unfold cW;omega
  have c:=t.getD a;have g:=n.getD k;have h:=Fm (iM b f a/BP a) (b.getD a 0) (val f) k;have i:=Jy (iM b f a/BP a) (b.getD a 0) (val f) k;rw[<-de n,<-OI]at h i;rw[<-CE]at i;have A:=DZ (iM b f a/BP a) (val f) k c;have r:=zd c g;have s:iM b f a/BP (a+k)%4294967296<4294967296:=apP _ za
  have v:tf b f a k (a+k)=iM b f a/BP (a+k)%4294967296:=by unfold tf;rw[ape za]
  have e:A_ b f a (k+1)=lay 67 [(0,ak b),(1,ak f),(5,.aY 0 0 (cW b f) (cW b f)),(6,nat a),(7,u32 (b.getD a 0)),(8,u64 (nL b f a (k+1))),(17,ak b),(18,nat b.length),(19,nat a),(24,ak f),(25,nat f.length),(26,nat (k+1))]
      [(0,aE (cK (cW b f) (tf b f a k)) (a+k) [u32 (BC b f a/BP (a+k)%4294967296)])]:=by
    rw[fP _ _ m];unfold A_;congr 3;refine aV λj _=>?_
    unfold tf;by_cases o:j=a+k
    · subst o;rw[aph za,aph rfl]
    · rw[ape o]
      by_cases q:j<a+k
      · rw[aph q,aph za]
      · rw[ape q,ape za]
  rw[e];exact af.r d [.eb 27 (ah u),yu (cU u),yu (a7 u),.eq 30 (aT u),.eq 33 (bz (jC c)),.eq 35 (bz (jC g)),.eq 36 (bz (wrap_mul (x:=b.getD a 0) (y:=f.getD k 0) za)),
     .eq 40 (bL (pS (a:=a) (k:=k) za)),yu (dk m),.eq 41 (jV 0 (a+k)),yu (p:=0<1/\a+k+1<=y6 (cK (cW b f) (tf b f a k))) (by rw[dw];omega),
     .eq 42 (d:=((cK (cW b f) (tf b f a k)).drop (a+k)).headD .any) (d':=u32 (iM b f a/BP (a+k)%4294967296)) (by rw[lZ m,v]),.eq 43 (bz (jC s)),
     .eq 44 (bz (wrap_add (x:=b.getD a 0*f.getD k 0) (y:=iM b f a/BP (a+k)%4294967296) za)),
     .eq 45 (bz (wrap_add (x:=nL b f a k) (y:=b.getD a 0*f.getD k 0+iM b f a/BP (a+k)%4294967296) (by unfold nL;omega))),
     .eq 49 (bL (pS (a:=a) (k:=k) za)),.eq 51 (gR (x:=bJ .u32 (zNq (nL b f a k+(b.getD a 0*f.getD k 0+iM b f a/BP (a+k)%4294967296)))) (y:=zNq (BC b f a/BP (a+k)%4294967296)) (by rw[iL,<-i];rfl)),
     yu (dk m),.eq 52 (jV 0 (a+k)),yu (p:=a+k+1<=y6 (cK (cW b f) (tf b f a k))) (by rw[dw];omega),
     .eq 54 (bz (x:=(zNq (nL b f a k+(b.getD a 0*f.getD k 0+iM b f a/BP (a+k)%4294967296))).fdiv (2^min (ga 32) (cn .u64))) (y:=zNq (nL b f a (k+1))) (by rw[sU];unfold nL;rw[h])),
     .eq 55 (bL (b7 (a:=k) za))]
def HH:af zZq G 0 (ae f136 1) (A_ b f a (y6 f)) (y5 2) (A_ b f a (y6 f)):=
 af.r d [.eb 27 (av (apc (y6 f)))]
def vC(l m:ai aw)(i:aw):St:=
 lay 67 [(0,ak l),(1,ak m),(5,.aY 0 0 (cW l m) (cW l m)),(17,ak l),(18,nat (y6 l)),(19,nat i)] [(0,cK (cW l m) (λj=>iM l m i/BP j%4294967296))]
def HG(i:gg b)(l:gg f)(n:a<b.length)(o:cW b f<2^60):
  aI zZq G 67 0 (.loop (ae f136 1))
   (lay 67 [(0,ak b),(1,ak f),(5,.aY 0 0 (cW b f) (cW b f)),(6,nat a),(7,u32 (b.getD a 0)),(8,u64 0),(17,ak b),(18,nat b.length),(19,nat a),(24,ak f),(25,nat f.length),(26,nat 0)]
    [(0,cK (cW b f) (λj=>iM b f a/BP j%4294967296))]) (y5 2) (A_ b f a f.length):=by
 have h:=aI.count (A_ b f a) f.length (λk=>aO _ _ _) zb (λk g=>Wa d i l n g o) (HH d);have e:A_ b f a 0=lay 67 [(0,ak b),(1,ak f),(5,.aY 0 0 (cW b f) (cW b f)),(6,nat a),(7,u32 (b.getD a 0)),(8,u64 0),(17,ak b),(18,nat b.length),(19,nat a),(24,ak f),(25,nat f.length),(26,nat 0)]
    [(0,cK (cW b f) (λj=>iM b f a/BP j%4294967296))]:=by
  unfold A_ nL;rw[Fl];congr 3;refine aV λj _=>?_
  unfold tf;by_cases m:j<a+0;rw[aph m];unfold BC;have c:a=j+(a-j-1)+1:=za
  have p:iM b f a+b.getD a 0*val f*BP a=iM b f a+(b.getD a 0*val f*BP (a-j-1)*4294967296)*BP j:=by
   conv=>lhs;arg 2;rw[c]
   rw[c_,lL];simp only[px,qH,om];rw[<-c]
  rw[p,aq7 _ _ (cO j)];omega;rw[ape m]
 rw[e]at h;exact h
def V_(c:gg b)(m:gg f)(h:a<b.length)(r:cW b f<2^60):
    af zZq G 0 (ae f136 0) (vC b f a) y3 (vC b f (a+1)):=by
  have t:=dF;have g:a+f.length<cW b f:=by unfold cW;omega
  have s:=GN (b:=b) m a (cO _);have q:=c.getD a;have n:nL b f a f.length=BC b f a/BP (a+f.length):=by
    unfold nL;rw[CE];refine QU ?_ (mE m);rw[ap1 (cO a),<-lL,aqF];exact s
  have l:nL b f a f.length<4294967296:=by unfold nL;exact DZ _ _ _ q
  have e:vC b f (a+1)=lay 67 [(0,ak b),(1,ak f),(5,.aY 0 0 (cW b f) (cW b f)),(17,ak b),(18,nat b.length),(19,nat (a+1))]
      [(0,aE (cK (cW b f) (tf b f a f.length)) (a+f.length) [u32 (nL b f a f.length%4294967296)])]:=by
    rw[fP _ _ g];unfold vC;congr 3;refine aV λj _=>?_
    rw[<-T9 c];unfold tf;by_cases i:j=a+f.length
    · subst i;rw[aph rfl,n]
    · rw[ape i]
      by_cases o:j<a+f.length
      · rw[aph o]
      · rw[ape o]
        have w:BP (a+f.length+1)<=BP j:=ny za
        have v:BC b f a<BP (a+f.length+1):=by
          have:=l;rw[n,ap1 (cO _)]at this;rw[c_];exact this
        have u:BP (a+f.length)<=BP j:=ny za
        rw[ap3 za,ap3 za]
  rw[e];exact af.r d [.eb 20 (ah h),yu (cU h),yu (a7 h),.eq 23 (aT h),.code (HG d c m h r),
     .eq 60 (bL (pS (a:=a) (k:=f.length) za)),.eq 62 (gR (iL (nL b f a f.length))),yu (dk g),.eq 63 (jV 0 (a+f.length)),
     yu (p:=a+f.length+1<=y6 (cK (cW b f) (tf b f a f.length))) (by rw[dw];omega),.eq 64 (bL (b7 (a:=a) za))]
def HF:af zZq G 0 (ae f136 0) (vC b f (y6 b)) (y5 0) (vC b f (y6 b)):=
 af.r d [.eb 20 (av (apc (y6 b)))]
def Zz(c:gg b)(m:gg f)(l:cW b f<2^60):
  aI zZq G 67 0 (.loop (ae f136 0))
   (lay 67 [(0,ak b),(1,ak f),(5,.aY 0 0 (cW b f) (cW b f)),(17,ak b),(18,nat b.length),(19,nat 0)] [(0,cd (cW b f) (u32 0))]) (y5 0) (vC b f b.length):=by
 have h:=aI.count (vC b f) b.length (λk=>aO _ _ _) zb (λi a=>V_ d c m a l) (HF d);have e:vC b f 0=lay 67 [(0,ak b),(1,ak f),(5,.aY 0 0 (cW b f) (cW b f)),(17,ak b),(18,nat b.length),(19,nat 0)] [(0,cd (cW b f) (u32 0))]:=by rw[oh];unfold vC iM;rw[iJ,ary,aqH];congr 3;exact aV λj _=>by rw[arV]
 rw[e]at h;exact h
def gm(a:aa G)(e:gg b)(c:gg f)(p:b.length<=2^44)(o:f.length<=2^44):
    Spec zZq G 136 [ak b,ak f] (ak (words (val b*val f))):=by
  have r:=dS;have q:=dR;have n:=dF;have g:cW b f<=2^45:=by unfold cW;omega
  have l:iM b f b.length=val b*val f:=by unfold iM;rw[apW (mE e)]
  have h:val b*val f<BP (cW b f):=by rw[<-l];exact GN c _ (cO _)
  have m:=mT a (b:=fw (cW b f) (val b*val f)) (jQ _ _) (by rw[dz];exact g)
  rw[jf h]at m;refine Spec.r a func136 [] (args:=[ak b,ak f])
    [.eq 15 (bL (pS (a:=b.length) (k:=f.length) za)),yu (l8 g),.code (Zz a e c za),.freeze 0,
     .eq 65 (d:=D.row (cW b f) aj (((cK (cW b f) (λj=>iM b f b.length/BP j%4294967296)).drop 0).take (cW b f))) (d':=ak (fw (cW b f) (val b*val f))) (by rw[l];exact rH _ _),z3 m]
def Ak{x y:aw}(b:x<18446744073709551616)(a:y<18446744073709551616):
  bJ .u64 (((di (cn .u64) (zNq x)|||di (cn .u64) (zNq y)).toNat:aw):cA)=zNq (x|||y):=by
 have e:∀z:aw,z<18446744073709551616->(di (cn .u64) (zNq z)).toNat=z:=by intro z c;show(di 64 (zNq z)).toNat=z;simp only[zKq,rL,sy];exact apW (by simpa using c)
 rw[BitVec.toNat_or,e x b,e y a];exact wrap64 (Nat.or_lt_two_pow (n:=64) (by simpa using b) (by simpa using a))
def Io{x y:aw}(a:y<4294967296):x*4294967296|||y=x*4294967296+y:=by have:=arC (i:=32) (b:=y) (by simpa using a) x;rw[show(2:aw)^32=4294967296 by decide]at this;rw[apC];exact this.symm
def K2{x:aw}(h:x<4294967296):bJ .u64 (zNq x*2^min (ga 32) (cn .u64))=zNq (x*4294967296):=by rw[show(2:cA)^min (ga 32) (cn .u64)=zNq 4294967296 by decide];exact wrap_mul za
def aan(hs:a<18446744073709551616):bJ .u64 ((zNq a).tdiv (zNq e))=zNq (a/e):=by have:(zNq a).tdiv (zNq e)=zNq (a/e):=rfl;rw[this];exact wrap64 (aqh (aqg _ _) hs)
def aaf(s d:aw):(zNq s).tmod (zNq d)=zNq (s%d):=rfl
def wm(h:0<a):zNq a≠0:=zT
def Wp(a d c j:aw):aw:=if c<=j then a/d/BP j%4294967296 else 0
def ahP{N:aw}(b:a<N)(g:aw->aw):aE (cK N (λj=>if a+1<=j then g j else 0)) a [u32 (g a)]=cK N (λj=>if a<=j then g j else 0):=by
 rw[fP _ _ b];refine aV λj _=>?_
 by_cases i:j=a;subst i;simp;rw[ape i];by_cases h:a<=j;rw[aph h,aph za];rw[ape h,ape za]
def vD(l:ai aw)(d c:aw):St:=
 lay 43 [(0,ak l),(1,u32 d),(6,.aY 0 0 (y6 l) (y6 l)),(7,u64 (val l/BP c%d)),(8,int (L3 c))] [(0,cK (y6 l) (Wp (val l) d c))]
def Wo(f:gg b)(k:0<a)(g:a<4294967296)(l:e<b.length)(q:b.length<2^60):
    af zZq G 0 (ae f232 0) (vD b a (e+1)) y3 (vD b a e):=by
  have c:=f.getD e;obtain⟨s1,s2,h⟩:=RK (val b) e k;have o:val b/BP (e+1)%a<a:=apP _ k;rw[<-de f]at s1 s2 h;have i:vD b a e=lay 43 [(0,ak b),(1,u32 a),(6,.aY 0 0 b.length b.length),(7,u64 (val b/BP e%a)),(8,int (L3 e))]
      [(0,aE (cK b.length (Wp (val b) a (e+1))) e [u32 (val b/a/BP e%4294967296)])]:=by
    unfold vD;have:=ahP l (λj=>val b/a/BP j%4294967296);have m:Wp (val b) a (e+1)=λj=>if e+1<=j then val b/a/BP j%4294967296 else 0:=rfl
    rw[m,this];rfl
  rw[i];exact af.r d [.eb 16 (x:=decide (zNq e>=0)) (y:=bj) zb,.eq 20 (bz (K2 (x:=val b/BP (e+1)%a) za)),yu (cU l),yu (a7 l),.eq 24 (aT l),.eq 25 (bz (jC c)),
     .eq 26 (bz (x:=bJ .u64 (((di (cn .u64) (zNq (val b/BP (e+1)%a*4294967296))|||di (cn .u64) (zNq (b.getD e 0))).toNat:aw):cA))
        (y:=zNq (val b/BP (e+1)%a*4294967296+b.getD e 0)) (by rw[Ak za za,Io c])),
     .eq 31 (bz (jC g)),yu (wm k),.eq 32 (bz (aan (a:=val b/BP (e+1)%a*4294967296+b.getD e 0) (e:=a) za)),
     .eq 33 (gR (x:=bJ .u32 (zNq ((val b/BP (e+1)%a*4294967296+b.getD e 0)/a))) (y:=zNq (val b/a/BP e%4294967296)) (by rw[iL,s1])),
     yu (dk l),.eq 34 (jV 0 e),yu (p:=e+1<=y6 (cK b.length (Wp (val b) a (e+1)))) (by rw[dw];omega),
     .eq 37 (bz (jC g)),yu (wm k),.eq 38 (bz (x:=(zNq (val b/BP (e+1)%a*4294967296+b.getD e 0)).tmod (zNq a)) (y:=zNq (val b/BP e%a)) (by rw[aaf,s2])),
     .eq 18 (bL (mu (a:=e) za))]
def ZN:af zZq G 0 (ae f232 0) (vD b a 0) (y5 0) (vD b a 0):=
 af.r d []
def aI.down{P:cp}{Good:bn->Prop}(inv:aw->St)(n:aw)(gb:∀i,(inv i).tmps.length=e)(b:t≠.normal)
  (round:∀i<n,af P Good a l (inv (i+1)) y3 (inv i)) (last:af P Good a l (inv 0) t j):aI P Good e a (.loop l) (inv n) t j:=
 aI.rounds (λc=>c<=n) inv id gb b (λc d=>by
  cases c with
  |zero=>exact y2 last
  |succ i=>exact y1 ⟨i,by omega,by simp,round i d⟩) n (apc _)
def ZM(l:gg b)(m:0<a)(f:a<4294967296)(g:b.length<2^60):
  aI zZq G 43 0 (.loop (ae f232 0))
   (lay 43 [(0,ak b),(1,u32 a),(6,.aY 0 0 b.length b.length),(7,u64 0),(8,int (L3 b.length))] [(0,cd b.length (u32 0))]) (y5 0) (vD b a 0):=by
 have h:=aI.down (vD b a) b.length (λk=>aO _ _ _) zb (λi c=>Wo d l m f c g) (ZN d);have e:vD b a b.length=lay 43 [(0,ak b),(1,u32 a),(6,.aY 0 0 b.length b.length),(7,u64 0),(8,int (L3 b.length))] [(0,cd b.length (u32 0))]:=by rw[oh];unfold vD;rw[ap3 (mE l),Nat.zero_mod];congr 3;exact aV λj n=>by unfold Wp;rw[ape za]
 rw[e]at h;exact h
def RL(d:aa G)(c:gg b)(f:0<a)(h:a<4294967296)(j:b.length<=2^44):
    Spec zZq G 232 [ak b,u32 a] (.aP [ak (words (val b/a)),u32 (val b%a)]):=by
  have m:=dS;have k:=dR;have i:=dF;have e:b.length<=2^45:=za
  have g:val b/a<BP b.length:=aqh (aqg _ _) (mE c);have l:=mT d (b:=fw b.length (val b/a)) (jQ _ _) (by rw[dz];exact e)
  rw[jf g]at l;refine Spec.r d func232 [] (args:=[ak b,u32 a])
    [yu (l8 e),.eq 14 (bL (mu (a:=b.length) za)),.code (ZM d c f h za),.freeze 0,
     .eq 39 (d:=D.row b.length aj (((cK b.length (Wp (val b) a 0)).drop 0).take b.length)) (d':=ak (fw b.length (val b/a))) ?_,z3 l,
     .eq 42 (gR (x:=bJ .u32 (zNq (val b/BP 0%a))) (y:=zNq (val b%a)) ?_)]
  · rw[<-rH]
    congr 3
  · have:=apP (val b) f
    rw[iL,iJ,aqP,apW za]
def ED{x y:aw}(b:x<4294967296)(a:y<4294967296):
  bJ .u32 (((di (cn .u32) (zNq x)|||di (cn .u32) (zNq y)).toNat:aw):cA)=zNq (x|||y):=by
 have e:∀z:aw,z<4294967296->(di (cn .u32) (zNq z)).toNat=z:=by intro z d;show(di 32 (zNq z)).toNat=z;simp only[zKq,rL,sy];exact apW (by simpa using d)
 rw[BitVec.toNat_or,e x b,e y a];have:=Nat.or_lt_two_pow (n:=32) (x:=x) (y:=y) (by simpa using b) (by simpa using a);have c:=wrap32 (a:=x|||y);rw[apW (by simpa using this)]at c;exact c
def aaY{x y:aw}(n:y<2^a):y|||x*2^a=y+x*2^a:=by have:=arC (i:=a) (b:=y) n x;rw[Nat.or_comm,apC,<-this,aqF]
def C3(h:a<=31):2^a<=2147483648:=by have:=apI (n:=2) za h;simpa using this
def wj(h:a<=32):(4294967296:aw)=2^(32-a)*2^a:=by rw[<-ap7,show 32-a+a=32 by omega]
def alf{x:aw}(d:x<4294967296)(n:a<=31):bJ .u64 (zNq x*2^min (zNq a).toNat (cn .u64))=zNq (x*2^a):=by
 have e:min (zNq a).toNat (cn .u64)=a:=by show min a 64=a;omega
 have c:(2:cA)^a=zNq (2^a):=zb
 rw[e,c];refine wrap_mul ?_;have b:=C3 n;have:x*2^a<=4294967295*2147483648:=apR za b;omega
def ahc{x:aw}(n:a<=31):(zNq x).fdiv (2^min (zNq a).toNat (cn .u64))=zNq (x/2^a):=by
 have e:min (zNq a).toNat (cn .u64)=a:=by show min a 64=a;omega
 rw[e,fdiv_pow]
def UP(n:aw):(0:cA)<=zNq n:=zb
def Bx(l:ai aw)(n i:aw):aw:=val l%BP i*2^n
def CB(a:gg b)(n i:aw):Bx b n (i+1)=Bx b n i+y7 b i 0*2^n*BP i:=by unfold Bx;rw[jL,<-de a,aqN,aqF,apC (BP i),apx,apx,apC (BP i)]
def T7(l:ai aw)(n i:aw):Bx l n i/BP i<2^n:=by unfold Bx;rw[ap1 (cO i),apC (2^n)];exact aq2 (iG _ _) (aqC za)
def aie(f:gg b)(d:a<=31)(i:aw):Bx b a i/BP i%4294967296|||y7 b i 0*2^a%4294967296=Bx b a (i+1)/BP i%4294967296:=by
 have h:=T7 b a i;have k:=C3 d;have e:y7 b i 0*2^a%4294967296=(y7 b i 0%2^(32-a))*2^a:=by rw[wj (a:=a) za,asp]
 rw[CB f,aq7 _ _ (cO i),apW (a:=Bx b a i/BP i) za,e,aaY h,<-e];have j:y7 b i 0*2^a%4294967296+2^a<=4294967296:=by rw[e];have g:y7 b i 0%2^(32-a)+1<=2^(32-a):=apP _ (aqC za);have n:=apB (2^a) g;rw[<-wj (a:=a) za,aqN,aqw]at n;exact n
 generalize Bx b a i/BP i=c at*;omega
def aeu(l:gg b)(d:a<=31)(i:aw):b.getD i 0*2^a/4294967296=Bx b a (i+1)/BP (i+1)/\b.getD i 0*2^a/4294967296<4294967296:=by
 have k:=T7 b a i;have h:=C3 d;have j:=l.getD i;have g:b.getD i 0*2^a<=4294967295*2147483648:=apR za h;rw[jP,CB l,aq7 _ _ (cO i)];have e:b.getD i 0*2^a%4294967296=(b.getD i 0%2^(32-a))*2^a:=by rw[wj (a:=a) za,asp]
 have g:b.getD i 0*2^a%4294967296+2^a<=4294967296:=by rw[e];have f:b.getD i 0%2^(32-a)+1<=2^(32-a):=apP _ (aqC za);have n:=apB (2^a) f;rw[<-wj (a:=a) za,aqN,aqw]at n;exact n
 generalize Bx b a i/BP i=c at*;omega
def GI(l:ai aw):aw:=y6 l+1
def A9(l:ai aw)(n i:aw):St:=
 lay 41 [(0,ak l),(1,nat n),(5,.aY 0 0 (GI l) (GI l)),(13,ak l),(14,nat (y6 l)),(15,nat i)] [(0,cK (GI l) (λj=>Bx l n i/BP j%4294967296))]
def Zr(n:gg b)(f:a<=31)(g:e<b.length)(C:b.length<2^60):
    af zZq G 0 (ae f234 0) (A9 b a e) y3 (A9 b a (e+1)):=by
  have m:=n.getD e;have c:e<GI b:=by unfold GI;omega
  have l:e+1<GI b:=by unfold GI;omega
  obtain⟨r,w⟩:=aeu n f e;have i:A9 b a (e+1)=lay 41 [(0,ak b),(1,nat a),(5,.aY 0 0 (GI b) (GI b)),(13,ak b),(14,nat b.length),(15,nat (e+1))]
      [(0,aE (aE (cK (GI b) (λj=>Bx b a e/BP j%4294967296)) e [u32 (Bx b a (e+1)/BP e%4294967296)]) (e+1) [u32 (b.getD e 0*2^a/4294967296%4294967296)])]:=by
    rw[fP _ _ c,fP _ _ l];unfold A9;congr 3;refine aV λj _=>?_
    by_cases o:j=e+1
    · subst o;rw[aph rfl,r]
    · rw[ape o]
      by_cases k:j=e
      · subst k;rw[aph rfl]
      · rw[ape k]
        obtain h|h:=apy j e
        · rw[CB n]
          have A:e=j+(e-j-1)+1:=za
          have z:Bx b a e+b.getD e 0*2^a*BP e=Bx b a e+(b.getD e 0*2^a*BP (e-j-1)*4294967296)*BP j:=by
            have:BP e=4294967296*(BP j*BP (e-j-1)):=by conv=>lhs;rw[A,c_,lL]
            rw[this];simp only[px,qH,om]
          rw[z,aq7 _ _ (cO j)];omega
        · have u:e+2<=j:=za
          have t:Bx b a (e+1)<BP j:=by
            have q:=w;rw[r,ap1 (cO _),<-c_]at q;exact apV q (ny u)
          have D:Bx b a e<=Bx b a (e+1):=by rw[CB n];exact ar3 _ _
          rw[ap3 t,ap3 za]
  rw[i];have hlen:∀v,y6 (aE (cK (GI b) (λj=>Bx b a e/BP j%4294967296)) e [u32 v])=GI b:=λv=>by rw[fP _ _ c,dw]
  have B:b.getD e 0*2^a<18446744073709551616:=by
    have:b.getD e 0*2^a<=4294967295*2147483648:=apR za (C3 f)
    omega
  exact af.r d [.eb 16 (ah g),yu (cU g),yu (a7 g),.eq 19 (aT g),.eq 21 (bz (jC m)),yu (UP a),.eq 23 (bz (alf m f)),
     yu (dk c),.eq 26 (jV 0 e),yu (p:=0<1/\e+1<=y6 (cK (GI b) (λj=>Bx b a e/BP j%4294967296))) (by rw[dw];omega),
     .eq 27 (d:=((cK (GI b) (λj=>Bx b a e/BP j%4294967296)).drop e).headD .any) (d':=u32 (Bx b a e/BP e%4294967296)) (lZ c),
     .eq 29 (gR (iL (b.getD e 0*2^a))),
     .eq 30 (gR (x:=bJ .u32 (((di (cn .u32) (zNq (Bx b a e/BP e%4294967296))|||di (cn .u32) (zNq (b.getD e 0*2^a%4294967296))).toNat:aw):cA))
        (y:=zNq (Bx b a (e+1)/BP e%4294967296)) (by rw[ED (apP _ za) (apP _ za),aie n f])),
     yu (dk c),.eq 31 (jV 0 e),yu (p:=e+1<=y6 (cK (GI b) (λj=>Bx b a e/BP j%4294967296))) (by rw[dw];omega),
     .eq 34 (bL (b7 (a:=e) za)),.eq 36 (bz (sU (b.getD e 0*2^a))),.eq 37 (gR (iL (b.getD e 0*2^a/4294967296))),yu (dk l),.eq 38 (jV 0 (e+1)),
     yu (p:=e+1+1<=y6 (aE (cK (GI b) (λj=>Bx b a e/BP j%4294967296)) e [u32 (Bx b a (e+1)/BP e%4294967296)])) (by rw[hlen];omega),
     .eq 39 (bL (b7 (a:=e) za))]
def aet:af zZq G 0 (ae f234 0) (A9 b a (y6 b)) (y5 0) (A9 b a (y6 b)):=
 af.r d [.eb 16 (av (apc (y6 b)))]
def aes(c:gg b)(l:a<=31)(f:b.length<2^60):
  aI zZq G 41 0 (.loop (ae f234 0))
   (lay 41 [(0,ak b),(1,nat a),(5,.aY 0 0 (GI b) (GI b)),(13,ak b),(14,nat b.length),(15,nat 0)] [(0,cd (GI b) (u32 0))]) (y5 0) (A9 b a b.length):=by
 have h:=aI.count (A9 b a) b.length (λk=>aO _ _ _) zb (λi n=>Zr d c l n f) (aet d);have e:A9 b a 0=lay 41 [(0,ak b),(1,nat a),(5,.aY 0 0 (GI b) (GI b)),(13,ak b),(14,nat b.length),(15,nat 0)] [(0,cd (GI b) (u32 0))]:=by rw[oh];unfold A9 Bx;rw[iJ,ary,aqH];congr 3;exact aV λj _=>by rw[arV]
 rw[e]at h;exact h
def T6(c:gg b)(n:a<=31)(j:b.length<=2^44):
  Br zZq G 234 [ak b,nat a] (b.length+1) ((fw (b.length+1) (val b*2^a)).map u32):=by
 have p:=dS;have o:=dR;have h:=dF;have g:GI b<=2^45:=by unfold GI;omega
 have f:Bx b a b.length=val b*2^a:=by unfold Bx;rw[apW (mE c)]
 rw[<-DY,<-f];exact Br.br d func234 (k:=(Tryz.f234.body).getD .skip) rfl (t:=4) (ro:=[]) (m:=30) (e:=.ret) (b:=0) (arE rfl) rfl
  [.eq 11 (bL (b7 (a:=b.length) za)),yu (l8 g),.code (aes d c n za)] zk (y2 rfl)
def ac3(l:gg b)(f:a<=31)(i:aw):(y7 b i 0+y7 b (i+1) 0*4294967296)/2^a%4294967296=val b/2^a/BP i%4294967296:=by
 have n:0<2^a:=aqC za;rw[de l,de l,jP,apO (val b) (2^a),apC (2^a),<-apO];generalize val b/BP i=A;have e:A=2^a*(4294967296*(2^(32-a)*(A/4294967296/4294967296)))+(A%4294967296+A/4294967296%4294967296*4294967296):=by
  have d:2^a*(4294967296*(2^(32-a)*(A/4294967296/4294967296)))=4294967296*(4294967296*(A/4294967296/4294967296)):=by have c:4294967296*(2^(32-a)*(A/4294967296/4294967296))=2^(32-a)*(4294967296*(A/4294967296/4294967296)):=arT _ _ _;rw[c,<-apx,apC (2^a),<-wj (a:=a) za]
  rw[d];omega
 conv=>rhs;rw[e]
 rw[dZ n];omega
def XV(a n i j:aw):aw:=if j<i then a/2^n/BP j%4294967296 else 0
def x7(l:ai aw)(n i:aw):St:=
 lay 35 [(0,ak l),(1,nat n),(5,.aY 0 0 (y6 l) (y6 l)),(11,nat (y6 l)),(12,nat i)] [(0,cK (y6 l) (XV (val l) n i))]
def XU(l:gg b)(n:a<=31)(f:e<b.length)(k:b.length<2^60):
    af zZq G 0 (ae f237 0) (x7 b a e) y3 (x7 b a (e+1)):=by
  have c:=l.getD e;have g:=l.getD (e+1);have i:x7 b a (e+1)=lay 35 [(0,ak b),(1,nat a),(5,.aY 0 0 b.length b.length),(11,nat b.length),(12,nat (e+1))]
      [(0,aE (cK b.length (XV (val b) a e)) e [u32 (val b/2^a/BP e%4294967296)])]:=by
    unfold x7;have:=ahM f (λj=>val b/2^a/BP j%4294967296);have h:XV (val b) a e=λj=>if j<e then val b/2^a/BP j%4294967296 else 0:=rfl
    rw[h,this];rfl
  rw[i];exact af.r d [.eb 13 (ah f),yu (cU f),yu (a7 f),.eq 20 (aT f),.eq 21 (bz (jC c)),.eq 24 (bL (b7 (a:=e) za)),z3 (tH d b l (e+1)),.eq 26 (bz (K2 g)),
     .eq 27 (bz (x:=bJ .u64 (((di (cn .u64) (zNq (b.getD e 0))|||di (cn .u64) (zNq (b.getD (e+1) 0*4294967296))).toNat:aw):cA))
        (y:=zNq (b.getD e 0+b.getD (e+1) 0*4294967296)) (by rw[Ak za za,Nat.or_comm,Io c,aqF])),
     yu (UP a),.eq 29 (bz (ahc (x:=b.getD e 0+b.getD (e+1) 0*4294967296) n)),.eq 30 (gR (x:=bJ .u32 (zNq ((b.getD e 0+b.getD (e+1) 0*4294967296)/2^a))) (y:=zNq (val b/2^a/BP e%4294967296)) (by rw[iL,ac3 l n])),
     yu (dk f),.eq 31 (jV 0 e),yu (p:=e+1<=y6 (cK b.length (XV (val b) a e))) (by rw[dw];omega),.eq 32 (bL (b7 (a:=e) za))]
def ac5:af zZq G 0 (ae f237 0) (x7 b a (y6 b)) (y5 0) (x7 b a (y6 b)):=
 af.r d [.eb 13 (av (apc (y6 b)))]
def ac4(c:gg b)(l:a<=31)(f:b.length<2^60):
  aI zZq G 35 0 (.loop (ae f237 0))
   (lay 35 [(0,ak b),(1,nat a),(5,.aY 0 0 b.length b.length),(11,nat b.length),(12,nat 0)] [(0,cd b.length (u32 0))]) (y5 0) (x7 b a b.length):=by
 have h:=aI.count (x7 b a) b.length (λk=>aO _ _ _) zb (λi n=>XU d c l n f) (ac5 d);have e:x7 b a 0=lay 35 [(0,ak b),(1,nat a),(5,.aY 0 0 b.length b.length),(11,nat b.length),(12,nat 0)] [(0,cd b.length (u32 0))]:=by rw[oh];rfl
 rw[e]at h;exact h
def XT(l:aa G)(c:gg b)(g:a<=31)(m:b.length<=2^45):
    Spec zZq G 237 [ak b,nat a] (ak (words (val b/2^a))):=by
  have i:=dR;have o:=dR;have k:=dF;have e:b.length<=2^45:=za
  have f:val b/2^a<BP b.length:=aqh (aqg _ _) (mE c);have n:=mT l (b:=fw b.length (val b/2^a)) (jQ _ _) (by rw[dz];exact e);rw[jf f]at n;refine Spec.r l func237 [] (args:=[ak b,nat a])
    [yu (l8 e),.code (ac4 l c g za),.freeze 0,
     .eq 33 (d:=D.row b.length aj (((cK b.length (XV (val b) a b.length)).drop 0).take b.length)) (d':=ak (fw b.length (val b/2^a))) ?_,z3 n]
  rw[<-rH];congr 3;exact aV λj h=>by unfold XV;rw[aph h]
def rz(b j i:aw):D.ptr b (j+(zNq i).toNat*1)=y0 b (j+i):=zb
def qb(F:aw->aw)(j Z r idx:aw):aw:=if j<=idx/\idx<j+r then Z/BP (idx-j)%4294967296 else F idx
def Le(F:aw->aw)(j Z:aw):qb F j Z 0=F:=by funext idx;unfold qb;rw[ape za]
def Lf{N:aw}{F:aw->aw}(h:a+k<N):aE (cK N (qb F a e k)) (a+k) [u32 (e/BP k%4294967296)]=cK N (qb F a e (k+1)):=by
 rw[fP _ _ h];refine aV λi _=>?_
 unfold qb;by_cases j:i=a+k;subst j;rw[aph rfl,aph za,show a+k-a=k by omega];rw[ape j];by_cases b:a<=i/\i<a+k;rw[aph b,aph za];rw[ape b,ape za]
def UE{F:aw->aw}:qb F a e k (a+k)=F (a+k):=by unfold qb;rw[ape za]
def ady{W:aw}(h:e<=k):fM (W+BP k) a e=fM W a e:=by
 unfold fM;have b:(W+BP k)%BP e=W%BP e:=by rw[show k=(k-e)+e by omega,lL,apC,Nat.add_mul_mod_self_left]
 rw[b]
def NO{W:aw}(h:a<k):(W+BP k)/BP a%4294967296=W/BP a%4294967296:=by
 have e:BP k=(BP (k-a-1)*4294967296)*BP a:=by
  conv=>lhs;rw[show k=(a+(k-a-1))+1 by omega,c_,lL]
  simp only[px,qH]
 rw[e,aq7 _ _ (cO a)];omega
structure Bs where
 N:aw
 F:aw->aw
 j:aw
 k:aw
 cap:aw
 qs:ai D
 v:ai aw
 n:aw
 W:aw
def Bs.ok(p:Bs):Prop:=gg p.v/\p.n<4294967296/\p.j+p.k<=p.N/\p.N<2^60/\(∀i<p.k,p.F (p.j+i)=p.W/BP i%4294967296)/\p.n*val p.v<=BP p.k/\p.W<BP p.k
def Bs.Z(p:Bs):aw:=p.W+BP p.k-p.n*val p.v
def xA(p:Bs)(r:aw):St:=
 lay 46 [(0,.aY 0 p.j p.k p.cap),(1,ak p.v),(2,u64 p.n),(7,u64 (w6 0 p.n (val p.v) r)),(8,u64 (fM p.W (p.n*val p.v) r)),(12,nat p.k),(13,nat r)] [(0,cK p.N (qb p.F p.j p.Z r)),(1,p.qs)]
variable {C:Bs}
def WG(n:aa G)(t:C.ok)(f:a<C.k):
    af zZq G 2 (ae f235 0) (xA C a) y3 (xA C (a+1)):=by
  obtain⟨j,m,E,D,w,B,p⟩:=t;have z:=dF;have g:C.j+a<C.N:=za
  have s:=j.getD a;have k:=Fm 0 C.n (val C.v) a;have h:=Jy 0 C.n (val C.v) a;rw[<-de j,arV,Nat.zero_mod]at k h;simp only[n5]at k h;rw[aqa]at h;have A:=DZ 0 (val C.v) a m;have u:=zd m s;have v:=Fj C.W (C.n*val C.v) a;have o:=Ju (a:=C.W+BP C.k) (e:=C.n*val C.v) za a;rw[NO f,ady (apU f)]at o;have l:=ye C.W (C.n*val C.v) a;have hw:C.W/BP a%4294967296<4294967296:=apP _ za;have c:C.n*val C.v/BP a%4294967296<4294967296:=apP _ za;have q:qb C.F C.j C.Z a (C.j+a)=C.W/BP a%4294967296:=by rw[UE,w a f]
  have e:xA C (a+1)=lay 46 [(0,.aY 0 C.j C.k C.cap),(1,ak C.v),(2,u64 C.n),(7,u64 (w6 0 C.n (val C.v) (a+1))),(8,u64 (fM C.W (C.n*val C.v) (a+1))),(12,nat C.k),(13,nat (a+1))]
      [(0,aE (cK C.N (qb C.F C.j C.Z a)) (C.j+a) [u32 (C.Z/BP a%4294967296)]),(1,C.qs)]:=by
    rw[Lf g];rfl
  rw[e];exact af.r n [.eb 14 (ah f),z3 (tH n C.v j a),.eq 21 (bz (wrap_mul (x:=C.n) (y:=C.v.getD a 0) za)),.eq 22 (bz (wrap_add (x:=w6 0 C.n (val C.v) a) (y:=C.n*C.v.getD a 0) za)),
     yu (dk f),.eq 25 (rz 0 C.j a),yu (p:=0<1/\C.j+a+1<=y6 (cK C.N (qb C.F C.j C.Z a))) (by rw[dw];omega),
     .eq 26 (d:=((cK C.N (qb C.F C.j C.Z a)).drop (C.j+a)).headD .any) (d':=u32 (C.W/BP a%4294967296)) (by rw[lZ g,q]),.eq 27 (bz (jC hw)),
     .eq 29 (gR (x:=bJ .u32 (zNq (w6 0 C.n (val C.v) a+C.n*C.v.getD a 0))) (y:=zNq (C.n*val C.v/BP a%4294967296)) (by rw[iL,h])),.eq 30 (bz (jC c)),
     .eq 31 (bz (Cy (x:=C.W/BP a%4294967296) (y:=C.n*val C.v/BP a%4294967296) za)),
     .eq 33 (bz (Cy (x:=yA (C.W/BP a%4294967296) (C.n*val C.v/BP a%4294967296)) (y:=fM C.W (C.n*val C.v) a) za)),
     .eq 37 (gR (x:=bJ .u32 (zNq (yA (yA (C.W/BP a%4294967296) (C.n*val C.v/BP a%4294967296)) (fM C.W (C.n*val C.v) a)))) (y:=zNq (C.Z/BP a%4294967296)) (by rw[show zNq (C.Z/BP a%4294967296)=(((C.W+BP C.k-C.n*val C.v)/BP a%4294967296:aw):cA)from rfl,<-o,<-Uf hw c l];exact wrap32)),
     yu (dk f),.eq 38 (rz 0 C.j a),yu (p:=C.j+a+1<=y6 (cK C.N (qb C.F C.j C.Z a))) (by rw[dw];omega),
     .eq 40 (bz (x:=(zNq (yA (yA (C.W/BP a%4294967296) (C.n*val C.v/BP a%4294967296)) (fM C.W (C.n*val C.v) a))).fdiv (2^min (ga 63) (cn .u64))) (y:=zNq (fM C.W (C.n*val C.v) (a+1)))
        (by rw[ahd,Ug hw c l,<-v])),
     .eq 42 (bz (x:=(zNq (w6 0 C.n (val C.v) a+C.n*C.v.getD a 0)).fdiv (2^min (ga 32) (cn .u64))) (y:=zNq (w6 0 C.n (val C.v) (a+1))) (by rw[sU,k])),
     .eq 43 (bL (b7 (a:=a) za))]
def aae:af zZq G 2 (ae f235 0) (xA C C.k) (y5 0) (xA C C.k):=
 af.r d [.eb 14 (av (apc C.k))]
def aad(b:C.ok):
  aI zZq G 46 2 (.loop (ae f235 0))
   (lay 46 [(0,.aY 0 C.j C.k C.cap),(1,ak C.v),(2,u64 C.n),(7,u64 0),(8,u64 0),(12,nat C.k),(13,nat 0)] [(0,cK C.N C.F),(1,C.qs)]) (y5 0) (xA C C.k):=by
 have h:=aI.count (xA C) C.k (λk=>aO _ _ _) zb (λi c=>WG d b c) (aae d);have e:xA C 0=lay 46 [(0,.aY 0 C.j C.k C.cap),(1,ak C.v),(2,u64 C.n),(7,u64 0),(8,u64 0),(12,nat C.k),(13,nat 0)] [(0,cK C.N C.F),(1,C.qs)]:=by unfold xA;rw[Le,Fl,wZ]
 rw[e]at h;exact h
def H7(a:C.ok)(c:C.n*val C.v<BP C.k):(zNq (fM C.W (C.n*val C.v) C.k)==1)=decide (C.W<C.n*val C.v):=by obtain⟨-,-,-,-,-,-,b⟩:=a;unfold fM;rw[apW b,apW c];split;rename_i h;simp[h];rename_i h;simp[h]
structure FE where
 N:aw
 F:aw->aw
 j:aw
 k:aw
 cap:aw
 qs:ai D
 v:ai aw
 Z:aw
def FE.ok(p:FE):Prop:=gg p.v/\p.j+p.k<=p.N/\p.N<2^60/\(∀i<p.k,p.F (p.j+i)=p.Z/BP i%4294967296)
def tA(p:FE)(r:aw):St:=
 lay 30 [(0,.aY 0 p.j p.k p.cap),(1,ak p.v),(4,u64 (nt p.Z (val p.v) r)),(7,nat p.k),(8,nat r)] [(0,cK p.N (qb p.F p.j (p.Z+val p.v) r)),(1,p.qs)]
variable {I:FE}
def TJ(k:I.ok)(b:a<I.k):
    af zZq G 2 (ae f236 0) (tA I a) y3 (tA I (a+1)):=by
  obtain⟨c,s,q,l⟩:=k;have m:=dF;have p:I.j+a<I.N:=za
  have n:=c.getD a;have f:=Fp I.Z (val I.v) a;have g:=JB I.Z (val I.v) a;rw[<-de c]at f g;have o:=NY I.Z (val I.v) a;have hw:I.Z/BP a%4294967296<4294967296:=apP _ za;have j:qb I.F I.j (I.Z+val I.v) a (I.j+a)=I.Z/BP a%4294967296:=by rw[UE,l a b]
  have e:tA I (a+1)=lay 30 [(0,.aY 0 I.j I.k I.cap),(1,ak I.v),(4,u64 (nt I.Z (val I.v) (a+1))),(7,nat I.k),(8,nat (a+1))]
      [(0,aE (cK I.N (qb I.F I.j (I.Z+val I.v) a)) (I.j+a) [u32 ((I.Z+val I.v)/BP a%4294967296)]),(1,I.qs)]:=by
    rw[Lf p];rfl
  rw[e];exact af.r d [.eb 9 (ah b),yu (dk b),.eq 14 (rz 0 I.j a),yu (p:=0<1/\I.j+a+1<=y6 (cK I.N (qb I.F I.j (I.Z+val I.v) a))) (by rw[dw];omega),
     .eq 15 (d:=((cK I.N (qb I.F I.j (I.Z+val I.v) a)).drop (I.j+a)).headD .any) (d':=u32 (I.Z/BP a%4294967296)) (by rw[lZ p,j]),.eq 16 (bz (jC hw)),z3 (tH d I.v c a),
     .eq 20 (bz (wrap_add (x:=I.Z/BP a%4294967296) (y:=I.v.getD a 0) za)),.eq 21 (bz (wrap_add (x:=nt I.Z (val I.v) a) (y:=I.Z/BP a%4294967296+I.v.getD a 0) za)),
     .eq 25 (gR (x:=bJ .u32 (zNq (nt I.Z (val I.v) a+(I.Z/BP a%4294967296+I.v.getD a 0)))) (y:=zNq ((I.Z+val I.v)/BP a%4294967296)) (by rw[iL,g])),
     yu (dk b),.eq 26 (rz 0 I.j a),yu (p:=I.j+a+1<=y6 (cK I.N (qb I.F I.j (I.Z+val I.v) a))) (by rw[dw];omega),
     .eq 28 (bz (x:=(zNq (nt I.Z (val I.v) a+(I.Z/BP a%4294967296+I.v.getD a 0))).fdiv (2^min (ga 32) (cn .u64))) (y:=zNq (nt I.Z (val I.v) (a+1))) (by rw[sU,f])),
     .eq 29 (bL (b7 (a:=a) za))]
def Yw:af zZq G 2 (ae f236 0) (tA I I.k) (y5 0) (tA I I.k):=
 af.r d [.eb 9 (av (apc I.k))]
def Yv(b:I.ok):
  aI zZq G 30 2 (.loop (ae f236 0))
   (lay 30 [(0,.aY 0 I.j I.k I.cap),(1,ak I.v),(4,u64 0),(7,nat I.k),(8,nat 0)] [(0,cK I.N I.F),(1,I.qs)]) (y5 0) (tA I I.k):=by
 have h:=aI.count (tA I) I.k (λk=>aO _ _ _) zb (λi c=>TJ d b c) (Yw d);have e:tA I 0=lay 30 [(0,.aY 0 I.j I.k I.cap),(1,ak I.v),(4,u64 0),(7,nat I.k),(8,nat 0)] [(0,cK I.N I.F),(1,I.qs)]:=by unfold tA;rw[Le,Fo]
 rw[e]at h;exact h
end Lw
