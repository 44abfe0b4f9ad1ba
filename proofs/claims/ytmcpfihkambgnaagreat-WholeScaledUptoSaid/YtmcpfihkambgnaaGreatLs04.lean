/- Part 4. -/
import Derived.Test.YtmcpfihkambgnaaGreatLs03
set_option maxHeartbeats 2000000
set_option linter.all false
open Option renaming some->a6,none->bk,map_some->dm
open _root_ renaming List->ai,Nat->aw,Bool->b5,Option->bF,beq_eq_false_iff_ne->c4,Int->cA,ByteArray->cB,Rat->cl,decide_eq_false_iff_not->fH,if_true->gn,if_false->jv,if_neg->ks,if_pos->nT,decide_eq_true_iff->p8,forall_eq_or_imp->uy
open Bool renaming false->aj,true->bj,false_eq_true->cy,and_eq_true->dT,not_eq_true'->fV,not_eq_true->nv
open List renaming mem_cons->b4,not_mem_nil->bI,getD_eq_getElem?_getD->bP,replicate->cd,range->ch,map_cons->eZ,length_cons->ey,length_nil->fl,getElem?_append_left->g6,getElem?_take->gi,getD_cons_succ->iz,getElem_range->kT,getD_cons_zero->kt,getElem_map->kz,getElem?_drop->lf,length_drop->m6,isEmpty_iff->na,length_take->o4,getElem?_append->rB,length_singleton->rj,map_map->sj,flatMap_cons->tu,take_nil->uk,getElem_replicate->v5,length->y6,getD->y7
open Go.IntKind renaming wrap->bJ,bits->cn
open Inhabited renaming default->bc
open Go renaming World->bn,FuncId->c7,Program->cp,Func->kf
open Option.some renaming injEq->eE
open Nat renaming min->fe,log2->kG,pow_zero->mb,mul_one->qg,sub_zero->si,add_sub_cancel->sr,pow_lt_pow_iff_right->uc
open Prod.mk renaming injEq->gu
open Rat renaming divInt->hU
open Int renaming ofNat_eq_natCast->rI,natAbs_ediv_le_natAbs->sH
open Lw.Item renaming call->z3,prop->yu
open Lw.D renaming row->yI,lit->yT,ptr->y0,agg->y4
open Or renaming inl->y1,inr->y2
open Lw.iw renaming normal->y3,exit->y5
open Int renaming ofNat->zNq
open Go.Proofs.Tryz renaming prog->zZq
open Go.Proofs.Tryz
open Int renaming ofNat_eq_natCast->zKq
namespace Lw
namespace Tw
open Go Go.RowKit Go.Proofs fb
def aQ{α:Type}(f:α->ai D)(l:ai α):D:=yI (y6 l) aj (l.flatMap f)
section
variable {α:Type} {f:α->ai D} {sz:aw}
def dq(b:∀x,y6 (f x)=sz)(l:ai α):y6 (l.flatMap f)=y6 l*sz:=by
 induction l with
 |nil=>simp
 |cons x l a=>rw[ap',ap4,b,a,aqO,aqk];omega
def AF(a:∀x,y6 (f x)=sz):∀(l:ai α)(i:aw),(l.flatMap f).drop (i*sz)=(l.drop i).flatMap f
 |[],i=>by simp
 |x::l,0=>by simp
 |x::l,i+1=>by rw[ap',List.drop_succ_cons,aqk,aqF,<-List.drop_drop,<-a x,List.drop_left,a x];exact AF a l i
def E4(a:∀x,y6 (f x)=sz):∀(l:ai α)(i:aw),(l.flatMap f).take (i*sz)=(l.take i).flatMap f
 |[],i=>by simp
 |x::l,0=>by simp
 |x::l,i+1=>by rw[ap',List.take_succ_cons,ap',aqk,aqF,<-a x,List.take_length_add_append,a x];rw[E4 a l i]
def Vj(b:∀x,y6 (f x)=sz){l:ai α}{i:aw}(a:i<y6 l)(d:α):((l.flatMap f).drop (i*sz)).take sz=f (y7 l i d):=by rw[AF b,aqr a,ap',<-b l[i],asG,apf,apj a];rfl
def ay(a:∀x,y6 (f x)=sz)(b:0<sz){l:ai α}{i:aw}(h:i<y6 l):((0:cA)<=zNq i/\zNq i<(y6 l:cA))/\(zNq i).toNat*sz<y6 (l.flatMap f):=by have:(zNq i).toNat=i:=rfl;rw[dq a,this];refine⟨⟨by simp,by simpa using h⟩,aq2 h b⟩
def aq(a:∀x,y6 (f x)=sz)(b:0<sz){l:ai α}{i:aw}(h:i<y6 l):0<sz/\sz<=y6 ((l.flatMap f).drop ((zNq i).toNat*sz)):=by have e:(zNq i).toNat=i:=rfl;rw[apu,dq a,e];have:(i+1)*sz<=y6 l*sz:=apB _ h;rw[aqk]at this;exact⟨b,by omega⟩
def fO(a:∀x,y6 (f x)=sz){l:ai α}{i:aw}(h:i<y6 l)(d:α):D.agg (((l.flatMap f).drop ((zNq i).toNat*sz)).take sz)=y4 (f (y7 l i d)):=by have e:(zNq i).toNat=i:=rfl;rw[e,Vj a h d]
def ax{i n:aw}(h:i<n)(a:n<=9223372036854775807):bJ .i64 (zNq i+1)=zNq (i+1):=by rw[qu zT zT];simp
def aA{l:ai α}{i:aw}(h:i<y6 l)(d:α):y7 l i d∈l:=by rw[apf,apj h];exact apD h
def D5(p:α->Prop)[DecidablePred p](d:α)(l:ai α):(∀x∈l,p x)\/∃i,i<y6 l/\¬p (y7 l i d)/\∀j<i,p (y7 l j d):=by
 induction l with
 |nil=>exact y1 λx a=>by cases a
 |cons x l b=>
  by_cases a:p x;obtain b|⟨i,k,h,g⟩:=b
  refine y1 λy c=>?_
  obtain rfl|c:=apo.1 c
  exact a;exact b y c;refine y2 ⟨i+1,by simpa using k,by simpa using h,λj e=>?_⟩;cases j with
  |zero=>exact a
  |succ j=>simpa using g j za
  exact y2 ⟨0,by simp,a,λj e=>by omega⟩
end
variable {G:bn->Prop}
def au(l:ai cl):D:=aQ cF l
def aG(t:aM):D:=y4 [yI (y6 t) aj (t.map au)]
def bS(q:cl):y6 (cF q)=3:=rfl
def yH(k:aw)(l:ai cl):Prop:=∀q∈l,gY k q
def yH.getD{k:aw}{l:ai cl}(h:yH k l)(b:0<k)(i:aw):gY k (y7 l i 0):=by
 obtain a|a:=apy i (y6 l)
 exact h _ (aA a 0);rw[pX a];exact GO b
def yH.take{k:aw}{l:ai cl}(h:yH k l)(n:aw):yH k (l.take n):=λq a=>h q (aq' a)
variable (a:aa G)
def uu{k:aw}(b:k<=5)(cells:ai D):xf G 131 [yI (2^k) aj cells] (nat k):=by
 have:k=0\/k=1\/k=2\/k=3\/k=4\/k=5:=za
 obtain rfl|rfl|rfl|rfl|rfl|rfl:=this
 exact Spec.r a func131 [] [];exact Spec.r a func131 [] [];exact Spec.r a func131 [] [];exact Spec.r a func131 [] [];exact Spec.r a func131 [] [];exact Spec.r a func131 [] []
def afW(cells:ai D):xf G 131 [yI 0 aj cells] (int (-1)):=
 Spec.r a func131 [] []
def CL(q:cl):nV q=0↔q=0:=by
 rcases vY q with⟨h,e⟩|⟨h,e⟩|⟨h,e⟩
 rw[e];constructor;intro h;cases h;intro a;rw[a]at h;exact api h zv;rw[e];simp[h];rw[e];constructor;intro h;cases h;intro a;rw[a]at h;exact api h zv
def KE(l:ai cl)(i:aw):St:=lay 15 [(5,au l),(6,nat (y6 l)),(7,nat i)] []
def TY{l:ai cl}{i k:aw}(b:i<y6 l)(h:y6 l<=9223372036854775807)(d:yH k l)(g:k<=KB)(c:y7 l i 0=0):
  xo G (ae f129 0) (KE l i) y3 (KE l (i+1)):=by
 have e:=fO bS b 0;have s:=uQ a (d _ (aA b 0)).uV g;rw[c]at e s;exact af.r a [.eb 8 (ah b),yu (ay bS za b),yu (aq bS za b),.eq 10 e,z3 s,.eq 14 (bL (ax b h))]
def ah6{l:ai cl}{i k:aw}(b:i<y6 l)(d:yH k l)(h:k<=KB)(c:¬y7 l i 0=0):
  xo G (ae f129 0) (KE l i) .ret (lay 15 [(2,bool aj)] []):=by
 have e:=fO bS b 0;have s:=uQ a (d _ (aA b 0)).uV h;rcases vY (y7 l i 0)with⟨-,g⟩|⟨g,-⟩|⟨-,g⟩
 rw[g]at s;generalize y7 l i 0=q at e s;exact af.r a [.eb 8 (ah b),yu (ay bS za b),yu (aq bS za b),.eq 10 e,z3 s];exact api g c;rw[g]at s;generalize y7 l i 0=q at e s;exact af.r a [.eb 8 (ah b),yu (ay bS za b),yu (aq bS za b),.eq 10 e,z3 s]
def KD(l:ai cl):fp l=decide (∀q∈l,q=0):=by unfold fp;by_cases h:∀q∈l,q=0;rw[apE h];simpa using h;rw[apG h];simpa using h
def qy{l:ai cl}{k:aw}(g:y6 l<=9223372036854775807)(c:yH k l)(d:k<=KB):xf G 129 [au l] (bool (fp l)):=by
 rw[KD];obtain h|⟨i,n,m,p⟩:=D5 (λq:cl=>q=0) 0 l
 rw[apE h];have b:=aI.z zZq G (ae f129 0) (y5 0) (KE l (y6 l)) (λi=>KE l i) (y6 l)
  (λi e=>TY a e g c d (h _ (aA e _))) (af.r a [.eb 8 (av (apc (y6 l)))])
 exact Spec.r a func129 [] [.code b];rw[apG λh=>m (h _ (aA n _))];have b:=aI.z zZq G (ae f129 0) .ret (lay 15 [(2,bool aj)] []) (λi=>KE l i) i
  (λj o=>TY a za g c d (p j o)) (ah6 a n c d m)
 exact Spec.r a func129 [] [.code b]
def LP(l:ai cl)(i:aw):St:=lay 26 [(5,au l),(6,nat (y6 l)),(7,nat i)] []
def Vq{l:ai cl}{i:aw}(d:i<y6 l)(c:y6 l<=9223372036854775807)(b:y7 l i 0=0):
  xo G (ae f175 0) (LP l i) y3 (LP l (i+1)):=by
 have e:=fO bS d 0;rw[b]at e;exact af.r a [.eb 8 (ah d),yu (ay bS za d),yu (aq bS za d),.eq 10 e,.eq 25 (bL (ax d c))]
def akd{l:ai cl}{i:aw}(d:i<y6 l)(c:¬y7 l i 0=0):
  xo G (ae f175 0) (LP l i) .ret (lay 26 [(2,bool aj)] []):=by
 have e:=fO bS d 0;generalize y7 l i 0=q at e c;have j:q.num≠0:=λh=>c (by rw[<-arR q,h];simp)
 have er:gM q=⟨decide (q.num<0),words q.num.natAbs,words q.den⟩:=by unfold gM;rw[ape j]
 have g:0<y6 (words q.num.natAbs):=aqd.2 (tQ za)
 unfold cF at e;rw[er]at e;simp only at e;generalize words q.num.natAbs=x at e g;generalize words q.den=y at e;generalize decide (q.num<0)=b at e;cases b with
 |true=>
  exact af.r a [.eb 8 (ah d),yu (ay bS za d),yu (aq bS za d),.eq 10 e]
 |false=>
  exact af.r a [.eb 8 (ah d),yu (ay bS za d),yu (aq bS za d),.eq 10 e,.eb 17 (x:=decide (zNq (y6 x)>0)) (y:=bj) (by simpa using g)]
def Cc{l:ai cl}(d:y6 l<=9223372036854775807):xf G 175 [au l] (bool (fp l)):=by
 rw[KD];obtain h|⟨i,g,e,m⟩:=D5 (λq:cl=>q=0) 0 l
 rw[apE h];have b:=aI.z zZq G (ae f175 0) (y5 0) (LP l (y6 l)) (λi=>LP l i) (y6 l)
  (λi c=>Vq a c d (h _ (aA c _))) (af.r a [.eb 8 (av (apc (y6 l)))])
 exact Spec.r a func175 [] [.code b];rw[apG λh=>e (h _ (aA g _))];have b:=aI.z zZq G (ae f175 0) .ret (lay 26 [(2,bool aj)] []) (λi=>LP l i) i
  (λj k=>Vq a za d (m j k)) (akd a g e)
 exact Spec.r a func175 [] [.code b]
def ahT(l:ai cl):(l.flatMap cF).all D.bV=bj:=by rw[apH];intro d b;obtain⟨q,_,a⟩:=aq9.1 b;simp only[cF,b4,bI,or_false]at a;obtain rfl|rfl|rfl:=a<;>rfl
def E3(n:aw):(cd n FG).flatten=(cd n (0:cl)).flatMap cF:=by
 induction n with
 |zero=>rfl
 |succ n a=>rw[ar8,ar8,asM,ap',a];rfl
def aeo(a:ai cl)(n:aw):aZ a n=a.take n++cd (n-y6 a) 0:=by
 apply arv;rw[fy,ap4,apr,aqb];omega;intro i b d;rw[fy]at b;have c:(aZ a n)[i]=y7 a i 0:=by simp[aZ]
 rw[c,List.getElem_append];split;rename_i h;rw[apr]at h;rw[ars,apf,apj za];rfl;rename_i h;rw[apr]at h;rw[v5,pX za]
def xh(a:ai cl)(n:aw):aE ((cd n FG).flatten) 0 ((a.flatMap cF).take (fe (y6 a) n*3))=(aZ a n).flatMap cF:=by
 have b:fe (y6 a) n=min (y6 a) n:=rfl;unfold aE;rw[E3,E4 bS,aeo,aqI,aqY,aq0,dq bS,aqa,AF bS];congr 1;congr 1;rw[b];obtain h|h:=Nat.le_total (y6 a) n
 rw[arQ h,apA (apc _),apA h];rw[Nat.min_eq_right h];congr 1;rw[List.drop_replicate,apr,b];congr 1;omega
def xP{N:aw}(h:N<=1073741824):zNq N=zNq N/\0<=zNq N/\zNq N*56<=2^47/\zNq N<=2^62:=by
 have b:(2:cA)^47=140737488355328:=zv
 have a:(2:cA)^62=4611686018427387904:=zv
 rw[b,a];simp;omega
def Fh(a:ai cl)(n:aw):(a.flatMap cF).all D.bV=bj/\y6 (a.flatMap cF)=y6 a*3/\0+fe (y6 a) n*3<=y6 ((cd n FG).flatten):=by refine⟨ahT a,dq bS a,?_⟩;rw[E3,dq bS,aqb];have:fe (y6 a) n<=n:=Nat.min_le_right _ _;omega
def Zi(a:ai cl)(n:aw):((aZ a n).flatMap cF).take (n*3)=(aZ a n).flatMap cF:=by rw[apA];rw[dq bS,fy];omega
def Fy(a:ai cl)(n:aw):au (aZ a n)=yI n aj ((aZ a n).flatMap cF):=by unfold au aQ;rw[fy]
def Ek(c:ai cl){n:aw}(b:n<=1073741824):xf G 176 [au c,nat n] (au (aZ c n)):=by rw[Fy,<-Zi,<-xh];exact Spec.r a func176 [] [yu (xP b),yu (Fh c n)]
def mY(n:aw)(f:aw->cl):ai D:=((ch n).map f).flatMap cF
def O0(n:aw)(f:aw->cl):y6 (mY n f)=n*3:=by unfold mY;rw[dq bS];simp
def H3{n:aw}{f g:aw->cl}(h:∀i<n,f i=g i):mY n f=mY n g:=by unfold mY;congr 1;exact apz λi a=>h i (arb.1 a)
def O_{n i:aw}(b:i<n):ch n=ch i++i::(ch (n-i-1)).map (λj=>i+1+j):=by apply arv;simp;omega;intro j d c;rw[kT,List.getElem_append];split;simp;rename_i h;rw[aqL]at h;rw[List.getElem_cons];split;rename_i a;rw[aqL]at a;omega;rename_i a;rw[aqL]at a;rw[ap2,kT];simp only[List.length_range];omega
def OY{n i:aw}(c:i<n)(f:aw->cl)(q:cl):aE (mY n f) (i*3) (cF q)=mY n (λj=>if j=i then q else f j):=by
 unfold aE mY;rw[O_ c];simp only[List.map_append,eZ,sj,List.flatMap_append,tu,bS];have a:y6 (((ch i).map f).flatMap cF)=i*3:=by rw[dq bS];simp
 rw[List.take_left' a];have d:i*3+3=y6 (((ch i).map f).flatMap cF++cF (f i)):=by rw[ap4,a,bS]
 rw[<-aqV (((ch i).map f).flatMap cF) (cF (f i)),d,List.drop_left];congr 1
 ·congr 1
  exact apz λj b=>by rw[ape];have:=arb.1 b;omega
 ·rw[aph True.intro]
  congr 2
  exact apz λj _=>by simp only[Function.comp];rw[ape za]
def Ut{n i:aw}(a:i<n)(f:aw->cl):((mY n f).drop (i*3)).take 3=cF (f i):=by unfold mY;rw[Vj bS (by simpa using a) 0,apf];simp[a]
def OZ(n:aw)(f:aw->cl):(mY n f).take (n*3)=mY n f:=apA (by rw[O0];omega)
def Ra(n:aw)(f:aw->cl):D.row n aj (mY n f)=au ((ch n).map f):=by unfold au aQ mY;simp
def Dq{i n:aw}(h:i<n):(0:cA)<=zNq i/\zNq i<(n:cA):=⟨by simp,by simpa using h⟩
def Dl{i n:aw}(h:i<n)(f:aw->cl):0<3/\(zNq i).toNat*3+3<=y6 (mY n f):=by have e:(zNq i).toNat=i:=rfl;rw[O0,e];omega
def OK{i n:aw}(h:i<n)(f:aw->cl):(zNq i).toNat*3+3<=y6 (mY n f):=(Dl h f).2
def YX(a b:ai cl)(i j:aw):cl:=if j<i then y7 a j 0+y7 b j 0 else y7 a j 0
def aiT(a b:ai cl)(i:aw):YX a b i i=y7 a i 0:=by unfold YX;rw[ape za]
def aaI{n i:aw}(d:i<n)(a b:ai cl):aE (mY n (YX a b i)) (i*3) (cF (y7 a i 0+y7 b i 0))=mY n (YX a b (i+1)):=by
 rw[OY d];refine H3 λj _=>?_
 unfold YX;by_cases h:j=i;subst h;rw[aph rfl,aph za];rw[ape h];by_cases c:j<i;rw[aph c,aph za];rw[ape c,ape za]
def Ii(a b:ai cl)(n i:aw):St:=lay 37 [(0,.bG 0 n 3),(1,yI n aj (mY n λj=>y7 b j 0)),(19,nat n),(20,nat i)] [(0,mY n (YX a b i))]
def aaH{g b:ai cl}{n i k l:aw}(d:i<n)(w:n<=1073741824)(r:gY k (y7 g i 0))(q:gY l (y7 b i 0))(p:k<=KB)(o:l<=KB):
  xo G (ae f119 0) (Ii g b n i) y3 (Ii g b n (i+1)):=by
 have v:D.agg (((mY n (YX g b i)).drop ((zNq i).toNat*3)).take 3)=F (y7 g i 0):=by have e:(zNq i).toNat=i:=rfl;rw[e,Ut d,aiT];rfl
 have u:D.agg (((mY n λj=>y7 b j 0).drop ((zNq i).toNat*3)).take 3)=F (y7 b i 0):=by have e:(zNq i).toNat=i:=rfl;rw[e,Ut d];rfl
 have c:=xa a r.uV q.uV p o;have t:=aaI d g b;have s:Ii g b n (i+1)=lay 37 [(0,.bG 0 n 3),(1,yI n aj (mY n λj=>y7 b j 0)),(19,nat n),(20,nat (i+1))] [(0,aE (mY n (YX g b i)) (i*3) (cF (y7 g i 0+y7 b i 0)))]:=by rw[t];rfl
 rw[s];have m:((0:cA)<=zNq i/\zNq i<(n:cA))/\(zNq i).toNat*3<y6 (mY n λj=>y7 b j 0):=⟨Dq d,by have:=(Dl d (λj=>y7 b j 0)).2;omega⟩;have h:0<3/\3<=y6 ((mY n λj=>y7 b j 0).drop ((zNq i).toNat*3)):=by have:=(Dl d (λj=>y7 b j 0)).2;rw[apu];omega
 exact af.r a [.eb 21 (ah d),yu (Dq d),yu (Dl d (YX g b i)),.eq 28 v,yu m,yu h,.eq 32 u,z3 c,yu (Dq d),yu (OK d (YX g b i)),.eq 35 (bL (ax d za))]
def Ow(a:ai cl)(n:aw):aE ((cd n FG).flatten) 0 ((a.flatMap cF).take (fe (y6 a) n*3))=mY n (λj=>y7 a j 0):=xh a n
def Rq(c:ai cl){n:aw}(b:n<=1073741824):xf G 176 [au c,nat n] (yI n aj (mY n λj=>y7 c j 0)):=by
 have:=Ek a c b
 rwa [Fy]at this
def abB(l m:ai cl):(if zNq (y6 m)>zNq (y6 l) then zNq (y6 m) else zNq (y6 l))=zNq (max (y6 l) (y6 m)):=by split;rename_i h;simp at h;rw[asT za];rename_i h;simp at h;rw[Nat.max_eq_left za]
def BM(d:aa G){a b:ai cl}{k l:aw}(u:yH k a)(t:yH l b)(g:0<k)(e:0<l)(q:k<=KB)(p:l<=KB)(c:max a.length b.length<=1073741824):
  Spec zZq G 119 [au a,au b] (au (dV a b)):=by
 have o:dV a b=(ch (max a.length b.length)).map (YX a b (max a.length b.length)):=by unfold dV;exact apz λj r=>by unfold YX;rw[aph (arb.1 r)]
 have w:max a.length b.length=max a.length b.length:=rfl;generalize v:max a.length b.length=n at o c w;have h:=aI.z zZq G (ae f119 0) (.exit 0) (Ii a b n n) (λi=>Ii a b n i) n
  (λi s=>aaH d s c (u.getD g i) (t.getD e i) q p) (af.r d [.eb 21 (av (apc n))])
 have x:Ii a b n 0=lay 37 [(0,.bG 0 n 3),(1,.row n aj (mY n λj=>b.getD j 0)),(19,nat n),(20,nat 0)] [(0,aE ((cd n FG).flatten) 0 ((a.flatMap cF).take (fe a.length n*3)))]:=by rw[Ow];unfold Ii;congr 3
 rw[x]at h;have m:=abB a b;rw[v]at m;rw[o,<-Ra,<-OZ];exact Spec.r d func119 [] [.eq 11 (bL m),.inl [] func176,.prop (xP c),.prop (Fh a n),.call (Rq d b c),.code h]
def miF(a:ai cl)(i j:aw):cl:=if j<i then -(y7 a j 0)else 0
def aby{n i:aw}(c:i<n)(a:ai cl):aE (mY n (miF a i)) (i*3) (cF (-(y7 a i 0)))=mY n (miF a (i+1)):=by
 rw[OY c];refine H3 λj _=>?_
 unfold miF;by_cases h:j=i;subst h;rw[aph rfl,aph za];rw[ape h];by_cases b:j<i;rw[aph b,aph za];rw[ape b,ape za]
def ID(a:ai cl)(i:aw):St:=lay 23 [(0,au a),(3,.bG 0 (y6 a) 3),(9,nat (y6 a)),(10,nat i)] [(0,mY (y6 a) (miF a i))]
def abx{d:ai cl}{i k:aw}(b:i<y6 d)(l:y6 d<=1073741824)(h:yH k d)(g:k<=KB):
  xo G (ae f64 0) (ID d i) y3 (ID d (i+1)):=by
 have e:=fO bS b 0;have c:=Mi a (h _ (aA b 0)).uV g;have j:ID d (i+1)=lay 23 [(0,au d),(3,.bG 0 (y6 d) 3),(9,nat (y6 d)),(10,nat (i+1))] [(0,aE (mY (y6 d) (miF d i)) (i*3) (cF (-(y7 d i 0))))]:=by rw[aby b];rfl
 rw[j];generalize y7 d i 0=q at e c;exact af.r a [.eb 11 (ah b),yu (ay bS za b),yu (aq bS za b),.eq 18 e,z3 c,yu (Dq b),yu (OK b (miF d i)),.eq 21 (bL (ax b za))]
def SG{c:ai cl}{k:aw}(l:yH k c)(g:k<=KB)(e:y6 c<=1073741824):xf G 64 [au c] (au (gD c)):=by
 have o:gD c=(ch (y6 c)).map (miF c (y6 c)):=by apply arv;rw[xL];simp;intro j b m;rw[xL]at b;simp only[gD,kz,kT,miF];rw[aph b,apf,apj b];rfl
 have d:=aI.z zZq G (ae f64 0) (y5 0) (ID c (y6 c)) (λi=>ID c i) (y6 c)
  (λi h=>abx a h e l g) (af.r a [.eb 11 (av (apc (y6 c)))])
 have n:ID c 0=lay 23 [(0,au c),(3,.bG 0 (y6 c) 3),(9,nat (y6 c)),(10,nat 0)] [(0,(cd (y6 c) FG).flatten)]:=by unfold ID;congr 3;rw[E3];unfold mY;congr 1;apply arv;simp;intro j b m;simp[miF]
 rw[n]at d;rw[o,<-Ra,<-OZ];exact Spec.r a func64 [] [yu (xP e),.code d]
def agZ{a:ai cl}{n:aw}(h:y6 a=n):au a=yI n aj (a.flatMap cF):=by subst h;rfl
def Xo(a b:ai cl){n:aw}(d:0<n)(e:n<=1073741824):((aZ b n).flatMap cF).all D.bV=bj/\0<n/\y6 (aE ((cd n FG).flatten) 0 ((a.flatMap cF).take (fe (y6 a) n*3)))=n*3/\y6 ((aZ b n).flatMap cF)=n*3/\n+n<=2^62/\(n+n)*56<=2^47:=by have c:=Bv;have g:=xe;rw[xh,dq bS,dq bS,fy,fy];exact⟨ahT _,d,rfl,rfl,by omega,by omega⟩
def ER(d:aa G)(a b:ai cl){n:aw}(e:0<n)(c:n<=1073741824):Spec zZq G 130 [au a,au b,nat n] (au (fW a b n)):=by
 have g:au (fW a b n)=.row (n+n) aj ((aE ((cd n FG).flatten) 0 ((a.flatMap cF).take (fe a.length n*3))++(aZ b n).flatMap cF).take ((n+n)*3)):=by rw[agZ (kD a b n),xh];unfold fW;rw[<-aqI,apA];rw[dq bS,ap4,fy,fy];omega
 have w:=Ek d b c;rw[Fy]at w;rw[g];exact Spec.r d func130 [] [.inl [] func176,.prop (xP c),.prop (Fh a n),.call w,.prop (Xo a b e c)]
def afL(q:cl):cF q=[bool (gM q).s,ak (gM q).n,ak (gM q).d]:=rfl
def DR(l:ai cl):aw->St
 |0=>lay 28 [(3,yI 0 bj []),(6,au l),(7,nat (y6 l)),(8,nat 0)] []
 |i+1=>lay 28 [(3,.bG 1 (i+1) 3),(6,au l),(7,nat (y6 l)),(8,nat (i+1))] [(1,(l.take (i+1)).flatMap cF)]
def HI{l:ai cl}{i:aw}(a:i<y6 l):(l.take (i+1)).flatMap cF=(l.take i).flatMap cF++cF (y7 l i 0):=by rw[aq6,apj a,apf,apj a,Option.toList_some,aqI];simp
def AT{l:ai aw}(h:y6 l<=2^44):y6 ([]:ai D)=0*1/\y6 (l.map u32)=y6 l*1/\0+y6 l<=2^62/\(0+y6 l)*4<=2^47:=JM (y6 l) h (l.map u32) zb
def adj{l:ai cl}{i k:aw}(c:i<y6 l)(p:y6 l<=1073741824)(h:yH k l)(r:k<=KB):
    xo G (ae f174 0) (DR l i) y3 (DR l (i+1)):=by
  have e:=fO bS c 0;have g:=h _ (aA c 0);have t:=dS;have j:=Bv;have s:=xe;have n:=pn;have o:=g.ok;have b:=HI c;obtain⟨-,-,o1,o2,-⟩:=o;generalize y7 l i 0=q at e b o1 o2;rw[afL]at e b;generalize(gM q).n=x at e b o1;generalize(gM q).d=y at e b o2;generalize(gM q).s=z at e b;cases i with
  |zero=>
    rw[aqY,asV]at b;simp only[DR];rw[b];exact af.br a (ro:=[18,22]) (m:=60) (aO ..)
      [.eb 9 (ah c),yu (ay bS za c),yu (aq bS za c),.eq 11 e,.er 17 (ak x),yu (AT (l:=x) za),.eq 18 (AS x),.er 21 (ak y),yu (AT (l:=y) za),.eq 22 (AS y),
       .eq 26 (bL (ax c za))]
  |succ i=>
    have d:[bool z,ak x,ak y].all D.bV=bj/\0<1/\y6 ((l.take (i+1)).flatMap cF)=(i+1)*3/\[bool z,ak x,ak y].length=1*3/\i+1+1<=2^62/\(i+1+1)*56<=2^47:=by rw[dq bS,apr];exact⟨rfl,by omega,by omega,rfl,by omega,by omega⟩
    simp only[DR];rw[b];exact af.br a (ro:=[18,22]) (m:=60) (aO ..)
      [.eb 9 (ah c),yu (ay bS za c),yu (aq bS za c),.eq 11 e,.er 17 (ak x),yu (AT (l:=x) za),.eq 18 (AS x),.er 21 (ak y),yu (AT (l:=y) za),.eq 22 (AS y),
       yu d,.eq 26 (bL (ax c za))]
def jT{l:ai cl}{k:aw}(d:y6 l<=1073741824)(g:yH k l)(j:k<=KB):xf G 174 [au l] (au l):=by
 have c:=aI.count (P:=zZq) (Good:=G) (a:=0) (l:=ae f174 0) (t:=y5 0) (j:=DR l (y6 l)) (λi=>DR l i) (y6 l) (λi=>by cases i<;>exact aO ..) z1
  (λi n=>adj a n d g j) (by
   obtain h|h:=apv (y6 l)
   have:l=[]:=ap8 h;subst this;exact af.br a (ro:=[18,22]) (m:=60) (aO ..) [];obtain⟨m,hm⟩:∃m,y6 l=m+1:=⟨y6 l-1,by omega⟩;have b:=eqB (av (apc (y6 l)));rw[hm];rw[hm]at b;simp only[DR];rw[hm];exact af.br a (ro:=[18,22]) (m:=60) (aO ..) [.eq 9 b])
 obtain h|h:=apv (y6 l)
 have:l=[]:=ap8 h;subst this;exact Spec.r a func174 [18,22] [.code c];obtain⟨m,hm⟩:∃m,y6 l=m+1:=⟨y6 l-1,by omega⟩;have b:DR l (y6 l)=lay 28 [(3,.bG 1 (y6 l) 3),(6,au l),(7,nat (y6 l)),(8,nat (y6 l))] [(1,l.flatMap cF)]:=by rw[hm];simp only[DR];rw[hm,<-hm,aqM]
 rw[b]at c;have o:au l=yI (y6 l) aj ((l.flatMap cF).take (y6 l*3)):=by rw[apA (by rw[dq bS];omega)];rfl
 have key:xf G 174 [au l] (yI (y6 l) aj ((l.flatMap cF).take (y6 l*3))):=
  Spec.r a func174 [18,22] [.code c]
 rwa [<-o]at key
end Tw
namespace fb
def Ms(D B:aw)(l:ai cl):Prop:=∀i,∃z:cA,y7 l i 0*(D:cl)=(z:cl)/\z.natAbs<=B
def Ms.nil(D B:aw):Ms D B []:=λi=>⟨0,by simp,by simp⟩
variable {c f:ai cl} {e:aM} {g i p:aw}
def Ms.mono{D C:aw}(h:Ms D g c)(a:g<=C):Ms D C c:=λi=>by obtain⟨z,B,b⟩:=h i;exact⟨z,B,apm b a⟩
def Ms.scale{D:aw}(h:Ms D g c)(E:aw):Ms (D*E) (g*E) c:=λi=>by
 obtain⟨z,b,a⟩:=h i;refine⟨z*E,?_,?_⟩
 push_cast
 rw[<-b,ar5];rw[ara,aqv];exact apB _ a
def Ms.part{D:aw}(h:Ms D g c)(B:∀i,y7 f i 0=0\/∃j,y7 f i 0=y7 c j 0):Ms D g f:=λi=>by
 obtain B|⟨j,B⟩:=B i
 exact⟨0,by rw[B];simp,by simp⟩;rw[B];exact h j
def Ms.take{D B:aw}{a:ai cl}(h:Ms D B a)(n:aw):Ms D B (a.take n):=h.part λi=>by simp only[bP,gi];split;exact y2 ⟨i,rfl⟩;exact y1 rfl
def Ms.drop{D B:aw}{a:ai cl}(h:Ms D B a)(n:aw):Ms D B (a.drop n):=h.part λi=>y2 ⟨n+i,by
 simp only[bP,lf]⟩
def Ms.plus{D B C:aw}{a b:ai cl}(d:Ms D B a)(c:Ms D C b):Ms D (B+C) (dV a b):=λi=>by obtain⟨z,f,h⟩:=d i;obtain⟨y,e,g⟩:=c i;refine⟨z+y,?_,?_⟩;rw[Ig,Rat.intCast_add,<-f,<-e];grind;omega
def Ms.minus{D:aw}(b:Ms D g c):Ms D g (gD c):=λi=>by obtain⟨z,B,d⟩:=b i;refine⟨-z,?_,by omega⟩;rw[F0,Rat.intCast_neg,<-B];grind
def I'(a b:ai cl)(i:aw):(a++b).getD i 0=if i<y6 a then y7 a i 0 else y7 b (i-y6 a) 0:=by simp only[bP,rB];split<;>rfl
def Ms.join{D:aw}(d:Ms D g c)(B:Ms D g f)(n:aw):Ms D g (fW c f n):=λi=>by unfold fW;rw[I'];split;rw[lh];split;exact d i;exact⟨0,by simp,by simp⟩;rw[lh];split;exact B _;exact⟨0,by simp,by simp⟩
def Ms.one{D:aw}(d:Ms D i c)(B:Ms g p f)(C j:aw):Ms (D*g) (i*p) [y7 c C 0*y7 f j 0]:=λk=>by
 cases k with
 |zero=>
  obtain⟨z,h,E⟩:=d C;obtain⟨y,a,e⟩:=B j;refine⟨z*y,?_,?_⟩;show y7 c C 0*y7 f j 0*_=_
  push_cast
  rw[<-h,<-a];grind;rw[ara];exact apR E e
 |succ k=>exact⟨0,by simp,by simp⟩
def Ms.short{D B k:aw}{a:ai cl}(h:Ms D B a)(hs:Sh k a):Ms D B (dN a):=h.part λi=>.inr ⟨i,kU hs i⟩
def jk:aw->aw
 |0=>0
 |k+1=>2*jk k+1
def cc(Δ Β:aw):aw->aw
 |0=>1
 |k+1=>2*cc Δ Β k*Δ^(jk k+1)+cc Δ Β k*cc Δ Β k*Β
def ahR(Δ Β:aw)(b:0<Δ):∀k,Δ^jk k<=cc Δ Β k
 |0=>by simp[jk,cc]
 |k+1=>by
  have a:=ahR Δ Β b k;have e:Δ^jk (k+1)=Δ^jk k*Δ^(jk k+1):=by rw[<-ap7];congr 1;simp only[jk];omega
  rw[e];simp only[cc];have d:Δ^jk k*Δ^(jk k+1)<=cc Δ Β k*Δ^(jk k+1):=apB _ a;have c:2*cc Δ Β k*Δ^(jk k+1)=2*(cc Δ Β k*Δ^(jk k+1)):=apx _ _ _;omega
def aks(Δ Β k:aw):2*(cc Δ Β k*Δ^(jk k+1))<=cc Δ Β (k+1):=by simp only[cc];rw[apx];omega
def mU{t:aM}{Δ Β:aw}(d:0<Δ)(c:∀j,Ms Δ Β (y7 t j [])):∀(k:aw)(a b:ai cl)(D E B C:aw),Ms D B a->Ms E C b->
  Ms (D*E*Δ^jk k) (B*C*cc Δ Β k) (bH t k a b)
 |0,a,b,D,E,B,C,i,g=>by unfold bH;split;exact .nil _ _;simp only[jk,cc,mb,qg];exact i.one g 0 0
 |k+1,a,b,D,E,B,C,i,g=>by
  unfold bH;split;exact .nil _ _;have key:∀(p q:ai cl)(D E B C:aw),Ms D B p->Ms E C q->Ms (D*E*Δ^jk (k+1)) (B*C*cc Δ Β (k+1))
    (if y6 p=1 then [y7 p 0 0*y7 q 0 0]else if y6 q<=y6 p/2 then fW (bH t k (p.take (y6 p/2)) q) (bH t k (p.drop (y6 p/2)) q) (y6 p/2)else
     fW (dV (bH t k (p.take (y6 p/2)) (q.take (y6 p/2))) (bH t k (bH t k (p.drop (y6 p/2)) (q.drop (y6 p/2))) (y7 t (kG (y6 p/2)) [])))
      (dV (bH t k (p.take (y6 p/2)) (q.drop (y6 p/2))) (bH t k (p.drop (y6 p/2)) (q.take (y6 p/2)))) (y6 p/2)):=by
   intro p q D E B C f e;have m:D*E*Δ^jk k*Δ^(jk k+1)=D*E*Δ^jk (k+1):=by rw[apx,<-ap7];congr 2;simp only[jk];omega
   have low:=aks Δ Β k;have up:∀l:ai cl,Ms (D*E*Δ^jk k) (B*C*cc Δ Β k) l->Ms (D*E*Δ^jk (k+1)) (B*C*(cc Δ Β k*Δ^(jk k+1))) l:=λl h=>by
    have:=h.scale (Δ^(jk k+1))
    rwa [m,apx (B*C)]at this
   split;have s:=(f.one e 0 0).scale (Δ^jk (k+1));exact s.mono (apT _ (ahR Δ Β d _));split;have i1:=up _ (mU d c k _ _ D E B C (f.take (y6 p/2)) e);have i2:=up _ (mU d c k _ _ D E B C (f.drop (y6 p/2)) e);exact(i1.join i2 _).mono (apT _ za);have i1:=up _ (mU d c k _ _ D E B C (f.take (y6 p/2)) (e.take (y6 p/2)));have i2:=mU d c k _ _ _ _ _ _ (mU d c k _ _ D E B C (f.drop (y6 p/2)) (e.drop (y6 p/2))) (c (kG (y6 p/2)));have i3:=up _ (mU d c k _ _ D E B C (f.take (y6 p/2)) (e.drop (y6 p/2)));have i4:=up _ (mU d c k _ _ D E B C (f.drop (y6 p/2)) (e.take (y6 p/2)));have v:D*E*Δ^jk k*Δ*Δ^jk k=D*E*Δ^jk (k+1):=by rw[<-m,apx (D*E*Δ^jk k),<-asj]
   have u:B*C*cc Δ Β k*Β*cc Δ Β k=B*C*(cc Δ Β k*cc Δ Β k*Β):=by rw[apx (B*C),apx (B*C)];congr 1;rw[apx,apC Β,<-apx]
   rw[v,u]at i2;have r:=(i1.plus i2).mono (C:=B*C*cc Δ Β (k+1)) (by rw[<-aqn];refine apT _ ?_;simp only[cc];rw[apx 2];omega)
   have o:=(i3.plus i4).mono (C:=B*C*cc Δ Β (k+1)) (by rw[<-aqn];exact apT _ za)
   exact r.join o _
  by_cases n:y6 a<y6 b;simp only[nT n];have:=key b a E D C B g i
  rwa [apC E,apC C]at this
  simp only[ks n];exact key a b D E B C i g
def abi(d:0<g)(a:∀j,Ms g i (y7 e j [])){D B:aw}(b:Ms D B c):
  Ms (D*D*g^jk (p+1)) (B*B*cc g i (p+1)) (gC e p c):=by
 have Β:D*D*g^jk p*g^(jk p+1)=D*D*g^jk (p+1):=by rw[apx,<-ap7];congr 2;simp only[jk];omega
 have i1:=(mU d a p _ _ D D B B (b.take (y6 c/2)) (b.take (y6 c/2))).scale (g^(jk p+1));have i2:=mU d a p _ _ _ _ _ _ (mU d a p _ _ D D B B (b.drop (y6 c/2)) (b.drop (y6 c/2))) (a (kG (y6 c/2)));have k:D*D*g^jk p*g*g^jk p=D*D*g^jk (p+1):=by rw[<-Β,apx (D*D*g^jk p),<-asj]
 have f:B*B*cc g i p*i*cc g i p=B*B*(cc g i p*cc g i p*i):=by rw[apx (B*B),apx (B*B)];congr 1;rw[apx,apC i,<-apx]
 rw[Β,apx (B*B)]at i1;rw[k,f]at i2;refine(i1.plus i2.minus).mono ?_;rw[<-aqn];refine apT _ ?_;simp only[cc];rw[apx 2];omega
def f_{t:aM}:∀(k:aw)(a b:ai cl),eJ k t->Sh k a->Sh k b->Sh k (bH t k a b)/\(bH t k a b).length<=max a.length b.length
 |0,a,b,_,d,g=>by
  unfold bH;split
  ·exact⟨.inl rfl,by simp⟩
  ·rename_i h
   refine⟨.of rfl,?_⟩;obtain rfl|⟨j,i,D⟩:=d
   ·exact api (by rw[jF];rfl) h
   ·have:=da j;simp only[ey,fl];omega
 |k+1,a,b,w,d,g=>by
  have E:eJ k t:=λj C=>w j za
  unfold bH;split
  ·exact⟨.inl rfl,by simp⟩
  ·rename_i f
   rw[ap6]at f;have key:∀p q:ai cl,Sh (k+1) p->Sh (k+1) q->q.length<=p.length->p≠[]->∀l:ai cl,l=(if p.length=1 then [p.getD 0 0*q.getD 0 0]else if q.length<=p.length/2 then fW (bH t k (p.take (p.length/2)) q) (bH t k (p.drop (p.length/2)) q) (p.length/2)else
      fW (dV (bH t k (p.take (p.length/2)) (q.take (p.length/2))) (bH t k (bH t k (p.drop (p.length/2)) (q.drop (p.length/2))) (t.getD (kG (p.length/2)) [])))
       (dV (bH t k (p.take (p.length/2)) (q.drop (p.length/2))) (bH t k (p.drop (p.length/2)) (q.take (p.length/2)))) (p.length/2))->
     Sh (k+1) l/\l.length<=p.length:=by
    intro p q s z hle r l c;obtain rfl|⟨j,v,m⟩:=s
    ·exact api rfl r
    ·cases j with
     |zero=>
      have i:p.length=1:=m;rw[aph i]at c;subst c;exact⟨.inr ⟨0,by omega,rfl⟩,by rw[i];simp⟩
     |succ j=>
      have u:p.length/2=2^j:=by rw[m,fY]
      have F:2^(j+1)=2^j+2^j:=by rw[apK];omega
      have y:=da j;have fin:∀A B:ai cl,Sh (k+1) (fW A B (2^j))/\(fW A B (2^j)).length<=p.length:=λA B=>
       ⟨.inr ⟨j+1,by omega,by rw[kD];omega⟩,by rw[kD];omega⟩
      rw[ape za,u]at c
      subst c;split<;>exact fin _ _
   have x:a≠[]:=λe=>f (.inl (by rw[e];rfl))
   have o:b≠[]:=λe=>f (.inr (by rw[e];rfl))
   by_cases n:a.length<b.length
   ·simp only[nT n]
    obtain⟨k1,k3⟩:=key b a g d za o _ rfl
    exact⟨k1,by omega⟩
   ·simp only[ks n]
    obtain⟨k1,k3⟩:=key a b d g za x _ rfl
    exact⟨k1,by omega⟩
def wF{t:aM}{k j:aw}{a:ai cl}(f:eJ k t)(l:j<k)(n:a.length=2^(j+1))(m:aw)(b:j<=m)(o:m<=k):Sh m (gC t m a):=by
 have q:2^(j+1)=2^j+2^j:=by rw[apK];omega
 have h:a.length/2=2^j:=by rw[n,fY]
 have c:eJ m t:=λi p=>f i za
 have e:Sh m (a.take (2^j)):=.inr ⟨j,b,by rw[apr];omega⟩
 have d:Sh m (a.drop (2^j)):=.inr ⟨j,b,by rw[apu];omega⟩
 have g:Sh m (t.getD j []):=.inr ⟨j,b,f j l⟩;unfold gC;simp only[h,iP];exact(f_ m _ _ c e e).1.plus (f_ m _ _ c (f_ m _ _ c d d).1 g).1.minus
def Bt(n:aw)(l:ai cl):Prop:=∃D B,0<D/\D<=2^n/\B<=2^n/\Ms D B l
def yx(δ:aw)(t:aM):Prop:=∃Δ Β,0<Δ/\Δ<=2^δ/\Β<=2^δ/\∀j,Ms Δ Β (y7 t j [])
def ck:aw->aw
 |0=>0
 |k+1=>2*ck k+2
def iZ(h:g<=i):2^g<=2^i:=apI za h
def C4(h:g<=2^i):g^p<=2^(p*i):=by rw[apC,Nat.pow_mul];exact Nat.pow_le_pow_left h p
def Hf{Δ Β δ:aw}(h:Δ<=2^δ)(d:Β<=2^δ):∀k,cc Δ Β k<=2^(jk k*δ+ck k)
 |0=>by simp[cc,jk,ck]
 |k+1=>by
  have a:=Hf h d k;have b:cc Δ Β k*Δ^(jk k+1)<=2^(jk k*δ+ck k)*2^((jk k+1)*δ):=apR a (C4 h);have g:cc Δ Β k*cc Δ Β k*Β<=2^(jk k*δ+ck k)*2^(jk k*δ+ck k)*2^δ:=apR (apR a a) d;rw[<-ap7]at b;rw[<-ap7,<-ap7]at g;have f:jk k*δ+ck k+(jk k+1)*δ=jk k*δ+jk k*δ+δ+ck k:=by rw[aqk];omega
  have e:jk (k+1)*δ=jk k*δ+jk k*δ+δ:=by simp only[jk];rw[aqk,apx];omega
  rw[f]at b;simp only[cc];rw[apx 2,e];simp only[ck];generalize jk k*δ=M at*;generalize ck k=c at*;have l:2^(M+M+δ+c)<=2^(M+M+δ+(2*c)):=iZ za
  have j:2^(M+c+(M+c)+δ)=2^(M+M+δ+2*c):=by congr 1;omega
  have i:2^(M+M+δ+(2*c+2))=2^(M+M+δ+2*c)*4:=by rw[<-arf,ap7]
  omega
def Bt.mono(h:Bt g c)(a:g<=i):Bt i c:=by obtain⟨D,B,m,e,d,b⟩:=h;have:=iZ a;exact⟨D,B,m,by omega,by omega,b⟩
def Bt.nil(n:aw):Bt n []:=⟨1,0,by omega,aqC za,apJ _,.nil _ _⟩
def Bt.part{n:aw}{a b:ai cl}(h:Bt n a)(g:∀i,y7 b i 0=0\/∃j,y7 b i 0=y7 a j 0):Bt n b:=by obtain⟨D,B,f,e,d,c⟩:=h;exact⟨D,B,f,e,d,c.part g⟩
def Bt.take{n:aw}{a:ai cl}(h:Bt n a)(m:aw):Bt n (a.take m):=by obtain⟨D,B,e,d,c,b⟩:=h;exact⟨D,B,e,d,c,b.take m⟩
def Bt.drop{n:aw}{a:ai cl}(h:Bt n a)(m:aw):Bt n (a.drop m):=by obtain⟨D,B,e,d,c,b⟩:=h;exact⟨D,B,e,d,c,b.drop m⟩
def Bt.minus{n:aw}{a:ai cl}(h:Bt n a):Bt n (gD a):=by obtain⟨D,B,e,d,c,b⟩:=h;exact⟨D,B,e,d,c,b.minus⟩
def Bt.short{n k:aw}{a:ai cl}(h:Bt n a)(hs:Sh k a):Bt n (dN a):=by obtain⟨D,B,e,d,c,b⟩:=h;exact⟨D,B,e,d,c,b.short hs⟩
def Bt.plus{m n:aw}{a b:ai cl}(h:Bt m a)(g:Bt n b):Bt (m+n+1) (dV a b):=by obtain⟨D,B,k,d,j,i⟩:=h;obtain⟨E,C,p,e,o,l⟩:=g;have k1:=i.scale E;have k2:=l.scale D;rw[apC E]at k2;refine⟨D*E,B*E+C*D,aqm k p,?_,?_,k1.plus k2⟩;have:=apR d e;rw[<-ap7]at this;have:=iZ (show m+n<=m+n+1 by omega);omega;have f:=apR j e;have c:=apR o d;rw[<-ap7]at f c;rw[aqF n]at c;have:2^(m+n+1)=2^(m+n)*2:=apK ..;omega
def Bt.join{m n:aw}{a b:ai cl}(h:Bt m a)(g:Bt n b)(k:aw):Bt (m+n) (fW a b k):=by obtain⟨D,B,l,d,j,i⟩:=h;obtain⟨E,C,q,e,p,o⟩:=g;have k1:=i.scale E;have k2:=o.scale D;rw[apC E]at k2;have q0:D*E<=2^m*2^n:=apR d e;have f:B*E<=2^m*2^n:=apR j e;have c:C*D<=2^n*2^m:=apR p d;rw[apC (2^n)]at c;refine⟨D*E,2^m*2^n,aqm l q,?_,?_,(k1.mono f).join (k2.mono c) k⟩;rw[ap7];exact q0;rw[ap7];exact apc _
def Bt.times(m:yx g e)(d:Bt i c)(δ:Bt p f)(k:aw):Bt (i+p+jk k*g+ck k) (bH e k c f):=by obtain⟨D,B,t,h,n,a⟩:=d;obtain⟨E,C,b,o,l,j⟩:=δ;obtain⟨Δ,Β,d1,d2,d3,d4⟩:=m;refine⟨_,_,aqm (aqm t b) (aqC d1),?_,?_,mU d1 d4 k c f D E B C a j⟩;have:=apR (apR h o) (C4 (p:=jk k) d2);rw[<-ap7,<-ap7]at this;have:=iZ (show i+p+jk k*g<=i+p+jk k*g+ck k by omega);omega;have:=apR (apR n l) (Hf d2 d3 k);rw[<-ap7,<-ap7,<-arf]at this;exact this
def Bt.norm(f:yx g e)(a:Bt i c)(k:aw):Bt (i+i+jk (k+1)*g+ck (k+1)) (gC e k c):=by obtain⟨D,B,d,δ,b,t⟩:=a;obtain⟨Δ,Β,d1,d2,d3,d4⟩:=f;refine⟨_,_,aqm (aqm d d) (aqC d1),?_,?_,abi d1 d4 (p:=k) t⟩;have:=apR (apR δ δ) (C4 (p:=jk (k+1)) d2);rw[<-ap7,<-ap7]at this;have:=iZ (show i+i+jk (k+1)*g<=i+i+jk (k+1)*g+ck (k+1) by omega);omega;have:=apR (apR b b) (Hf d2 d3 (k+1));rw[<-ap7,<-ap7,<-arf]at this;exact this
def Df(q:cl):q*(q.den:cl)=(q.num:cl):=by
 have e:(q.num:cl)/((q.den:cA):cl)=q:=by rw[<-asO,arR]
 have d0:((q.den:cA):cl)≠0:=by intro h;have:=arK.1 h;have:=q.den_pos;omega
 have b:=Rat.div_mul_cancel (a:=(q.num:cl)) d0;rw[e]at b;exact b
def Bt.sz(h:Bt g c)(d:g<32*i):Tw.yH i c:=by
 obtain⟨D,B,r,o,m,n⟩:=h;intro q l;obtain⟨k,f,rfl⟩:=apF.1 l;obtain⟨z,a,j⟩:=n k;rw[apf,apj f]at a;have b:c[k]*(D:cl)=(z:cl):=a;have d0:((D:cA):cl)≠0:=by intro e;have:(D:cA)=0:=arK.1 e;omega
 have e:c[k]=hU z D:=by rw[asO,<-b,asi,ar5];rw[show((D:aw):cl)=((D:cA):cl)from rfl,arN _ d0,asI]
 have p:2^g<BP i:=by rw[z_];exact arG za d
 rw[e];exact KX za ((aS _ _).2 za) ((aS _ _).2 (by rw[aqv];omega))
def Bt.aba{k:aw}:∀{l:ai cl},Tw.yH k l->Bt (32*k*(2*y6 l)) l
 |[],_=>.nil _
 |q::l,h=>by
  obtain⟨D,B,r,d,p,o⟩:=Bt.aba (l:=l) λx m=>h x (apX _ m)
  have c:=h q apw;have g:=(aS _ _).1 c.1;have b:=(aS _ _).1 c.2.1;rw[z_]at g b;have e:2^(32*k*(2*y6 (q::l)))=2^(32*k)*2^(32*k)*2^(32*k*(2*y6 l)):=by rw[<-ap7,<-ap7];congr 1;rw[aqO,asq,aqn];omega
  have f:0<2^(32*k):=aqC za;refine⟨q.den*D,q.num.natAbs*D+B*q.den,aqm q.den_pos r,?_,?_,λi=>?_⟩;rw[e];refine apR (apm (apU b) ?_) d;exact Nat.le_mul_of_pos_left _ f;rw[e];have u:q.num.natAbs*D<=(2^(32*k)-1)*2^(32*k*(2*y6 l)):=apR za d;have t:B*q.den<=2^(32*k*(2*y6 l))*2^(32*k):=apR p za;generalize 2^(32*k*(2*y6 l))=M at*;generalize 2^(32*k)=N at*;have s:(N-1)*M+M*N<=N*N*M:=by obtain⟨a,rfl⟩:∃a,N=a+1:=⟨N-1,by omega⟩;simp only[sr];rw[apC M,<-aqN];refine apB _ ?_;rw[aqk,asq];have:a<=a*a+a:=Nat.le_add_left _ _;omega
  omega;cases i with
  |zero=>
   refine⟨q.num*D,?_,?_⟩;show q*_=_;have:=Df q
   push_cast
   rw[<-ar5,this];rw[ara,aqv];omega
  |succ i=>
   obtain⟨z,j,n⟩:=o i;refine⟨z*q.den,?_,?_⟩;show y7 l i 0*_=_
   push_cast
   rw[<-j];grind;rw[ara,aqv];have:=apB q.den n;omega
def sb(δ:aw):aw->aw->aw
 |0,n=>n
 |k+1,n=>sb δ k (n+n+jk (k+1)*δ+ck (k+1))
def pJ(δ:aw):∀(k:aw){m n:aw},m<=n->sb δ k m<=sb δ k n
 |0,_,_,h=>h
 |k+1,_,_,h=>pJ δ k za
def sV(δ:aw):∀(k n:aw),n<=sb δ k n
 |0,_=>apc _
 |k+1,n=>apm za (sV δ k _)
def ahf(δ k n:aw):sb δ k n<=sb δ (k+1) n:=pJ δ k za
def ae9(δ k n:aw):sb δ k δ<=sb δ (k+1) n:=by
 refine pJ δ k ?_;have:δ<=jk (k+1)*δ:=by simp only[jk];rw[aqk];omega
 omega
open zY dH
def jq(t:aM):aw->ai cl->ai cl
 |0,a=>[(y7 a 0 0)⁻¹]
 |k+1,a=>
  let a:=dN a
  if y6 a=1 then [(y7 a 0 0)⁻¹]else
  let n:=y6 a/2
  let m:=gC t k a
  if iN t k m=0 then jq t k (dV (a.take n) (a.take n))else
  bH t (k+1) (fW (a.take n) (gD (a.drop n)) n) (jq t k m)
def oX(a b:ai cl):ai cl:=dN (dV a b)
def g8(a b:ai cl):ai cl:=dN (dV a (gD b))
def wH(a:ai cl):ai cl:=dN (gD a)
def mulL(t:aM)(a b:ai cl):ai cl:=dN (bH t (y6 t) a b)
def x_(t:aM)(a b:ai cl):ai cl:=dN (bH t (y6 t) a (jq t (y6 t) b))
def aL(t:aM)(a:ai cl):cA:=iN t (y6 t) a
def cg(k:aw):ai cl:=aZ [] (2^k)++(1::aZ [] (2^k-1))
def iq(q:cl):ai cl:=dN [q]
def Nm{K:Type}[dH K](ι:pD cl K){q:cl}(h:q≠0):ι.φ q⁻¹*ι.φ q=1:=by rw[<-ι.mul,Rat.inv_mul_cancel _ h,ι.one]
section anj
variable {K:Type} [dH K] (ι:pD cl K) (s:aw->K)
def Dt{t:aM}:∀(k:aw)(a:ai cl),eJ k t->Model ι s t k->Sh k a->lv ι s k a≠0->
  Sh k (jq t k a)/\lv ι s k (jq t k a)*lv ι s k a=1
 |0,a,_,_,o,c=>by
  unfold jq;refine⟨Sh.single 0 _,?_⟩;rw[abD];have e:lv ι s 0 a=ι.φ (y7 a 0 0):=rfl;rw[e]at c⊢;exact Nm ι λh=>c (by rw[h,ι.zero])
 |k+1,a,p,n,o,c=>by
  have f:eJ k t:=λj x=>p j za
  have d:Model ι s t k:=⟨λj x=>n.nn j za,λj x=>n.sq j za⟩
  unfold jq;have v:=iF o;rw[<-n9 ι s o]at c⊢;generalize dN a=b at v c;obtain rfl|⟨j,J,q⟩:=v
  ·exact api (BV ι s _) c
  ·simp only
   cases j with
   |zero=>
    have M:y6 b=1:=q;rw[aph M];refine⟨Sh.single _ _,?_⟩;have e:lv ι s (k+1) b=ι.φ (y7 b 0 0):=nI ι s (j:=0) za za
    rw[EN,e];rw[e]at c;exact Nm ι λh=>c (by rw[h,ι.zero])
   |succ j=>
    have N:2^(j+1)=2^j+2^j:=by rw[apK];omega
    have F:=da j;have w:y6 b/2=2^j:=by rw[q,fY]
    rw[ape za,w]
    have low:∀l:ai cl,y6 l<=2^j->lv ι s k l=lv ι s j l:=λl I=>nI ι s I za
    have i:Sh k (b.take (2^j)):=y2 ⟨j,by omega,by rw[apr];omega⟩
    have r:Sh k (b.drop (2^j)):=y2 ⟨j,by omega,by rw[apu];omega⟩
    have L:=p j za
    have B:Sh k (y7 t j []):=y2 ⟨j,by omega,L⟩
    have z:lv ι s (k+1) b=lv ι s k (b.take (2^j))+lv ι s k (b.drop (2^j))*s j:=by
     rw[nI ι s (j:=j+1) za za,Ap ι s b,low _ (by rw[apr];omega),low _ (by rw[apu];omega)]
    have sq:s j*s j=lv ι s k (y7 t j []):=by rw[n.sq j za,low _ za]
    obtain⟨s1,v1,-⟩:=gT ι s k _ _ f d i i;obtain⟨s2,v2,-⟩:=gT ι s k _ _ f d r r;obtain⟨C,A,-⟩:=gT ι s k _ _ f d s2 B;have g:Sh k (gC t k b)/\lv ι s k (gC t k b)=lv ι s k (b.take (2^j))*lv ι s k (b.take (2^j))-lv ι s k (b.drop (2^j))*lv ι s k (b.drop (2^j))*lv ι s k (y7 t j []):=by
     unfold gC;simp only[w,iP];refine⟨s1.plus C.minus,?_⟩;rw[rD,uq,v1,A,v2,sub_def']
    rw[nU ι s k _ f d g.1];rw[z]at c⊢;rw[<-sq]at g;split
    ·rename_i m
     rw[oL,g.2]at m;have H:(lv ι s k (b.take (2^j))+lv ι s k (b.drop (2^j))*s j)*(lv ι s k (b.take (2^j))-lv ι s k (b.drop (2^j))*s j)=0:=by
      rw[<-m];exact rg [lv ι s k (b.take (2^j)),lv ι s k (b.drop (2^j)),s j]
     have he:=fJ.1 ((mul_eq_zero H).resolve_left c);have u:lv ι s k (dV (b.take (2^j)) (b.take (2^j)))=lv ι s k (b.take (2^j))+lv ι s k (b.drop (2^j))*s j:=by
      rw[rD,<-he]
     obtain⟨i1,i2⟩:=Dt k _ f d (i.plus i) (by rw[u];exact c)
     refine⟨i1.mono za,?_⟩
     rw[nI ι s (j:=k) (k:=k+1) i1.len za,<-u]
     exact i2
    ·rename_i m
     have G:lv ι s k (gC t k b)≠0:=λe=>m (oL.2 e)
     obtain⟨i1,i2⟩:=Dt k _ f d g.1 G;have lc:y6 (fW (b.take (2^j)) (gD (b.drop (2^j))) (2^j))=2^(j+1):=by rw[kD];omega
     have sc:Sh (k+1) (fW (b.take (2^j)) (gD (b.drop (2^j))) (2^j)):=y2 ⟨j+1,by omega,lc⟩
     have y:lv ι s (k+1) (fW (b.take (2^j)) (gD (b.drop (2^j))) (2^j))=lv ι s k (b.take (2^j))+ -lv ι s k (b.drop (2^j))*s j:=by
      rw[nI ι s (j:=j+1) za za,UW,uq,low _ (by rw[apr];omega),low _ (by rw[apu];omega)]
     obtain⟨E,D,-⟩:=gT ι s (k+1) _ _ p n sc (i1.mono (by omega:k<=k+1))
     refine⟨E,?_⟩;rw[D,y,nI ι s (j:=k) (k:=k+1) (l:=jq t k (gC t k b)) i1.len za]
     rw[g.2]at i2;exact rg1 [lv ι s k (b.take (2^j)),lv ι s k (b.drop (2^j)),s j,lv ι s k (jq t k (gC t k b))] 1 i2
end anj
def Zw(t:aM)(k:aw)(b:ai cl):bH t k [] b=[]:=by cases k<;> ·unfold bH;rw[aph (by rw[jF];rfl)]
def wG(t:aM)(k:aw):gC t k []=[]:=by unfold gC;simp only[uk,List.drop_nil,Zw];rfl
def ib(δ:aw):aw->aw->aw
 |0,n=>n
 |k+1,n=>n+n+ib δ k (n+n+jk (k+1)*δ+ck (k+1))+jk (k+1)*δ+ck (k+1)
def Nn(δ:aw):∀(k:aw){m n:aw},m<=n->ib δ k m<=ib δ k n
 |0,_,_,h=>h
 |k+1,m,n,h=>by have:=Nn δ k (m:=m+m+jk (k+1)*δ+ck (k+1)) (n:=n+n+jk (k+1)*δ+ck (k+1)) za;simp only[ib];omega
def U4(δ:aw):∀(k n:aw),n<=ib δ k n
 |0,_=>apc _
 |k+1,n=>by simp only[ib];omega
def Bt.inv1{n:aw}{a:ai cl}(h:Bt n a):Bt n [(y7 a 0 0)⁻¹]:=by
 obtain⟨D,B,m,f,l,k⟩:=h;obtain⟨z,b,o⟩:=k 0;generalize y7 a 0 0=q at*;by_cases c:q=0
 ·rw[c,asW]
  exact⟨D,B,m,f,l,λi=>by
   cases i with
   |zero=>exact⟨0,by simp,by simp⟩
   |succ i=>exact⟨0,by simp,by simp⟩⟩
 ·have j:((D:aw):cl)≠0:=by
   intro e;have:((D:cA):cl)=0:=e;have:=arK.1 this;omega
  have g:z≠0:=by
   intro e;rw[e]at b;obtain h|h:=Rat.mul_eq_zero.1 b
   ·exact c h
   ·exact j h
  have key:q⁻¹*(z:cl)=(D:cl):=by rw[<-b,<-ar5,Rat.inv_mul_cancel _ c,Rat.one_mul]
  refine⟨z.natAbs,D,by omega,by omega,f,λi=>?_⟩
  cases i with
  |zero=>
   show∃y:cA,q⁻¹*_=_/\_;obtain e|e:=Int.natAbs_eq z
   ·refine⟨D,?_,by simp⟩
    have d:((z.natAbs:aw):cl)=(z:cl):=by
     have:((z.natAbs:cA):cl)=(z:cl):=by rw[<-e]
     exact this
    rw[d,key];rfl
   ·refine⟨-D,?_,by simp⟩
    have d:((z.natAbs:aw):cl)= -(z:cl):=by
     have:((z.natAbs:cA):cl)=((-z:cA):cl):=by congr 1;omega
     rw[Rat.intCast_neg]at this;exact this
    rw[d,Rat.mul_neg,key,Rat.intCast_neg];rfl
  |succ i=>exact⟨0,by simp,by simp⟩
def Bt.inv{t:aM}{δ:aw}(f:yx δ t):∀(k n:aw)(a:ai cl),eJ k t->Sh k a->Bt n a->Bt (ib δ k n) (jq t k a)
 |0,n,a,_,hs,h=>h.inv1
 |k+1,n,a,o,hs,h=>by
  have q:eJ k t:=λj v=>o j za
  have d:=h.short hs;unfold jq;have c:=iF hs;generalize dN a=b at d c;simp only;split
  ·exact d.inv1.mono (U4 δ (k+1) n)
  ·rename_i p
   have i:=d.norm f k;have u:=(d.take (y6 b/2)).join (d.drop (y6 b/2)).minus (y6 b/2);split
   ·have i1:=Bt.inv f k _ _ q (by
     obtain rfl|⟨j,g,e⟩:=c
     ·exact y1 rfl
     ·cases j with
      |zero=>exact api e p
      |succ j=>
       rw[e,fY];have w:2^(j+1)=2^j+2^j:=by rw[apK];omega
       have l:Sh k (b.take (2^j)):=y2 ⟨j,by omega,by rw[apr];omega⟩
       exact l.plus l) ((d.take (y6 b/2)).plus (d.take (y6 b/2)))
    refine i1.mono ?_;have:=Nn δ k (m:=n+n+1) (n:=n+n+jk (k+1)*δ+ck (k+1)) (by simp only[ck];omega)
    simp only[ib];omega
   ·have r:Sh k (gC t k b):=by
     obtain rfl|⟨j,g,e⟩:=c
     ·rw[wG];exact y1 rfl
     ·cases j with
      |zero=>exact api e p
      |succ j=>exact wF o za e k za za
    have i1:=Bt.inv f k _ _ q r i;exact(u.times f i1 (k+1)).mono (by simp only[ib];omega)
def NB:aw:=70368744177663
def ad_:NB=70368744177663:=rfl
def Bt.fit(h:Bt g c)(a:g<=NB):Tw.yH KB c:=h.sz (by rw[pn];rw[ad_]at a;omega)
def yx.root(h:yx g e)(j:aw):Bt g (y7 e j []):=by obtain⟨Δ,Β,d,c,b,a⟩:=h;exact⟨Δ,Β,d,c,b,a j⟩
end fb
namespace Tw
open Go Go.RowKit Go.Proofs fb
def FB:0<KB:=by rw[pn];omega
def aja(N:aw)(a:ai cl):D:=yI N aj (a.flatMap cF)
variable {c:ai cl} {g i:aw}
def oF{N:aw}(h:y6 c=N):au c=aja N c:=by subst h;rfl
def Um(h:g<=i)(hu:i<=y6 c):
  D.row ((zNq i).toNat-(zNq g).toNat) aj (((c.flatMap cF).drop ((zNq g).toNat*3)).take (((zNq i).toNat-(zNq g).toNat)*3))=au ((c.take i).drop g):=by
 have a:(zNq i).toNat=i:=rfl;have b:(zNq g).toNat=g:=rfl;rw[a,b,AF bS,E4 bS];unfold au aQ;rw[arY,apr,apu,arQ za]
def CJ(hu:g<=y6 c):
  D.row ((zNq g).toNat-(0:cA).toNat) aj (((c.flatMap cF).drop ((0:cA).toNat*3)).take (((zNq g).toNat-(0:cA).toNat)*3))=au (c.take g):=Um (apJ g) hu
def K1{N:aw}(h:g<=N)(b:y6 c=N):
  D.row ((zNq N).toNat-(zNq g).toNat) aj (((c.flatMap cF).drop ((zNq g).toNat*3)).take (((zNq N).toNat-(zNq g).toNat)*3))=au (c.drop g):=by
 have:=Um (c:=c) h (by omega:N<=y6 c)
 rwa [apA (by omega:y6 c<=N)]at this
def rl{N:aw}(h:g<=i)(hu:i<=N):(0:cA)<=zNq g/\zNq g<=zNq i/\zNq i<=(N:cA):=
 ⟨by simp,by simpa using h,by simpa using hu⟩
def kA{N:aw}(hu:g<=N):(0:cA)<=(0:cA)/\(0:cA)<=zNq g/\zNq g<=(N:cA):=rl (apJ g) hu
def vM(h:g<=30):bJ .i64 ((zNq (2^(g+1))).tdiv 2)=zNq (2^g):=by
 have e:(zNq (2^(g+1))).tdiv 2=zNq (2^(g+1)/2):=rfl;rw[e,fY];have:2^g<=2^30:=apI za h;have a:(2:aw)^30=1073741824:=zv
 generalize 2^g=N at*;rw[qu (by simp only[zKq];omega) (by simp only[zKq];omega)]
def rR(h:g<=30):2^g<=1073741824:=by
 have:2^g<=2^30:=apI za h;have a:(2:aw)^30=1073741824:=zv
 omega
def ge2(j:aw):2<=2^(j+1):=by have:=da j;rw[apK];omega
def ne1(j:aw):(zNq (2^(j+1))==1)=aj:=by rw[c4];have:=ge2 j;simp only[zKq];omega
def ne0(j:aw):(zNq (2^(j+1))==0)=aj:=by rw[c4];have:=ge2 j;simp only[zKq];omega
def gt1(j:aw):decide (zNq (2^(j+1))>1)=bj:=by have:=ge2 j;rw[p8];simp only[zKq];omega
def MQ(h:g<=30):bJ .i64 (zNq (g+1)-1)=zNq g:=by
 have e:zNq (g+1)-1=zNq g:=by simp only[zKq];omega
 rw[e,qu (by simp only[zKq];omega) (by simp only[zKq];omega)]
variable {G:bn->Prop}
variable {C O:cA} {I J f:ai cl} (a:aa G) {e:aM}
def pK(h:g<y6 e):((0:cA)<=zNq g/\zNq g<(y6 e:cA))/\(zNq g).toNat*1<y6 (e.map au):=by have j:(zNq g).toNat=g:=rfl;rw[j,apq];exact⟨⟨by simp,by simpa using h⟩,by omega⟩
def pL(h:g<y6 e):0<1/\1<=y6 ((e.map au).drop ((zNq g).toNat*1)):=by have j:(zNq g).toNat=g:=rfl;rw[j,apu,apq];omega
def xy(h:g<y6 e):((e.map au).drop ((zNq g).toNat*1)).headD .any=au (y7 e g []):=by have j:(zNq g).toNat=g:=rfl;rw[j,aqx,aqr (by rw[apq];exact h)];rw[asy,ap2,apf,apj h];rfl
def zJ(a:ai cl):aw->aw
 |0=>0
 |k+1=>if fp ((a.take (2^(k+1))).drop (2^k))then zJ a k else k+1
def Vu(a:ai cl):∀k,zJ a k<=k
 |0=>apc _
 |k+1=>by have:=Vu a k;unfold zJ;split<;>omega
def LX(a:ai cl):∀k,GD k (a.take (2^k))=if zJ a k=0/\fp (a.take 1)=bj then []else a.take (2^zJ a k)
 |0=>by unfold GD zJ;simp only[mb,true_and]
 |k+1=>by unfold GD zJ;split;have:=LX a k;rw[arl,arQ (apI za za)];exact this;rw[ape za]
def OQ(b:y6 c=2^g):dN c=if zJ c g=0/\fp (c.take 1)=bj then []else c.take (2^zJ c g):=by have:=da g;unfold dN;rw[ape za,b,iP,<-LX];rw[apA za]
def HU(a:ai cl)(j i:aw):St:=lay 45 [(0,aja (2^j) a),(2,yI 0 bj []),(4,nat (2^i))] []
def ZP(d:aa G)(n:y6 c=2^g)(k:i<g)(h:g<=30)(a:fp ((c.take (2^(i+1))).drop (2^i))=bj):
  xo G (ae f118 0) (HU c g (i+1)) y3 (HU c g i):=by
 have f:2^(i+1)<=2^g:=apI za k;have b:2^i<=2^(i+1):=apI za za;have m:=rR h;have e:=Um (c:=c) b za;have j:=Cc d (l:=(c.take (2^(i+1))).drop (2^i)) (by rw[apu,apr];omega);rw[a]at j;exact af.r d [.eb 23 (gt1 i),.eq 27 (bL (vM (g:=i) za)),yu (rl b f),.eq 29 e,z3 j,.eq 33 (bL (vM (g:=i) za))]
def ae2(d:aa G)(n:y6 c=2^g)(k:i<g)(h:g<=30)(a:fp ((c.take (2^(i+1))).drop (2^i))=aj):
  xo G (ae f118 0) (HU c g (i+1)) (y5 0) (HU c g (i+1)):=by
 have f:2^(i+1)<=2^g:=apI za k;have b:2^i<=2^(i+1):=apI za za;have m:=rR h;have e:=Um (c:=c) b za;have j:=Cc d (l:=(c.take (2^(i+1))).drop (2^i)) (by rw[apu,apr];omega);rw[a]at j;exact af.r d [.eb 23 (gt1 i),.eq 27 (bL (vM (g:=i) za)),yu (rl b f),.eq 29 e,z3 j]
def ae1(f:y6 c=2^g)(e:g<=30):
  aI zZq G 45 0 (.loop (ae f118 0)) (HU c g g) (y5 0) (HU c g (zJ c g)):=by
 refine aI.rounds (P:=zZq) (Good:=G) (a:=0) (λi=>i<=g/\zJ c i=zJ c g) (λi=>HU c g i) id (λi=>aO ..) z1 (λi d=>?_) g ⟨apc g,rfl⟩
 cases i with
 |zero=>
  right
  have:zJ c g=0:=by rw[<-d.2];rfl
  rw[this];exact af.r a []
 |succ i=>
  cases b:fp ((c.take (2^(i+1))).drop (2^i))with
  |true=>
   left
   refine⟨i,⟨by omega,?_⟩,by simp,ZP a f za e b⟩
   rw[<-d.2,zJ,aph b]
  |false=>
   right
   have:zJ c g=i+1:=by rw[<-d.2,zJ,ape (by rw[b];simp)]
   rw[this];exact ae2 a f za e b
def ri(b:aa G)(hs:Sh g c)(v:g<=5)(r:yH KB c):xf G 118 [au c] (au (dN c)):=by
 obtain rfl|⟨j,w,k⟩:=hs
 ·have a:=jT b (l:=[]) (k:=KB) zb r (apc _)
  exact Spec.r b func118 [] [z3 (afW b []),z3 a]
 ·rw[oF k,OQ k]
  have t:=Vu c j;have f:=ae1 b k za
  have lv:=uu b (k:=j) za (c.flatMap cF)
  have o:=da j;have x:=rR (g:=j) za
  have n:decide (zNq (2^j)>0)=bj:=by rw[p8];simp only[zKq];omega
  have m:decide (zNq j<0)=aj:=by rw[fH];simp only[zKq];omega
  have h:decide (zNq j>5)=aj:=by rw[fH];simp only[zKq];omega
  generalize zJ c j=i at*;have p:2^i<=2^j:=apI za t
  have e:=CJ (c:=c) (g:=2^i) za
  have a:=jT b (l:=c.take (2^i)) (k:=KB) (by rw[apr];omega) (r.take _) (apc _)
  cases i with
  |zero=>
   have s:=CJ (c:=c) (g:=1) za
   have d:=Cc b (l:=c.take 1) (by rw[apr];omega)
   cases q:fp (c.take 1)with
   |true=>
    rw[aph ⟨rfl,rfl⟩];rw[q]at d;exact Spec.r b func118 [] [z3 lv,.eb 9 n,.eb 12 m,.eb 15 h,.code f,yu (kA (g:=1) o),.eq 38 s,z3 d]
   |false=>
    rw[ape zb]
    rw[q]at d;exact Spec.r b func118 [] [z3 lv,.eb 9 n,.eb 12 m,.eb 15 h,.code f,yu (kA (g:=1) o),.eq 38 s,z3 d,yu (kA p),.eq 43 e,z3 a]
  |succ i=>
   rw[ape za]
   exact Spec.r b func118 [] [z3 lv,.eb 9 n,.eb 12 m,.eb 15 h,.code f,.eb 35 (ne1 i),yu (kA p),.eq 43 e,z3 a]
def Bu{N:aw}(b:y6 c=N)(d:N<=9223372036854775807)(l:yH KB c):xf G 129 [aja N c] (bool (fp c)):=by rw[<-oF b];exact qy a (k:=KB) za l (apc _)
def two(sw:b5)(p q:D):ai D:=if sw then [q,p]else [p,q]
def tmP(t:aM)(k:aw)(p q:ai cl):ai cl:=
 if y6 p=1 then [y7 p 0 0*y7 q 0 0]else
 if y6 q<=y6 p/2 then fW (bH t k (p.take (y6 p/2)) q) (bH t k (p.drop (y6 p/2)) q) (y6 p/2)else
 fW (dV (bH t k (p.take (y6 p/2)) (q.take (y6 p/2))) (bH t k (bH t k (p.drop (y6 p/2)) (q.drop (y6 p/2))) (y7 t (kG (y6 p/2)) [])))
  (dV (bH t k (p.take (y6 p/2)) (q.drop (y6 p/2))) (bH t k (p.drop (y6 p/2)) (q.take (y6 p/2)))) (y6 p/2)
def V9(t:aM)(k:aw)(a b:ai cl):bH t (k+1) a b=if fp a||fp b then []else tmP t k (if y6 a<y6 b then b else a) (if y6 a<y6 b then a else b):=rfl
def SI(h:g<i):decide (zNq g<zNq i)=bj:=ah h
def abP(h:g<=i):decide (zNq g<=zNq i)=bj:=by rw[p8];simpa using h
def afN(h:i<g):decide (zNq g<=zNq i)=aj:=by rw[fH];simpa using h
def HD(a:aa G)(sw:b5)(h:decide (zNq (if sw then f else c).length<zNq (if sw then c else f).length)=sw)(d:y6 c<=64)(p:yH KB c)(b:fp c=bj):
  xf G 59 (aG e::two sw (au c) (au f)) (au []):=by
 have z:=qy a (k:=KB) (l:=c) za p (apc _);rw[b]at z;cases sw<;>exact Spec.r a func59 [3] [.eb 18 h,z3 z]
def HC(a:aa G)(sw:b5)(h:decide (zNq (if sw then f else c).length<zNq (if sw then c else f).length)=sw)(i:y6 c<=64)(g:y6 f<=64)(q:yH KB c)(t:yH KB f)
  (d:fp c=aj) (p:fp f=bj):xf G 59 (aG e::two sw (au c) (au f)) (au []):=by
 have z:=qy a (k:=KB) (l:=c) za q (apc _);have b:=qy a (k:=KB) (l:=f) za t (apc _);rw[d]at z;rw[p]at b;cases sw<;>exact Spec.r a func59 [3] [.eb 18 h,z3 z,z3 b]
def Zx(a:aa G){x y:cl}(d:yH KB [x])(t:yH KB [y])(g:fp [x]=aj)(f:fp [y]=aj):
  xf G 59 [aG e,au [x],au [y]] (au [x*y]):=by
 have z:=qy a (k:=KB) (l:=[x]) zb d (apc _);have b:=qy a (k:=KB) (l:=[y]) zb t (apc _);rw[g]at z;rw[f]at b;have c:=FC a (d x zb).uV (t y zb).uV (apc _) (apc _);exact Spec.r a func59 [3] [z3 z,z3 b,z3 c]
def aii(j:aa G)(sw:b5)(h:decide (zNq (if sw then f else c).length<zNq (if sw then c else f).length)=sw)(b:y6 c=2^(g+1))(A:g<=5)(m:y6 f<=2^g)(x:yH KB c)(y:yH KB f)
    (w:fp c=aj) (v:fp f=aj)
    (r:xf G 59 [aG e,au (c.take (2^g)),au f] (au I)) (o:xf G 59 [aG e,au (c.drop (2^g)),au f] (au J)):
    xf G 59 (aG e::two sw (au c) (au f)) (au (fW I J (2^g))):=by
  have s:=da g;have C:=rR (g:=g+1) za
  have B:2^(g+1)=2^g+2^g:=by rw[apK];omega
  have z:=Bu j (c:=c) b za x
  have p:=qy j (k:=KB) (l:=f) za y (apc _)
  have q:=CJ (c:=c) (g:=2^g) za
  have d:=K1 (c:=c) (g:=2^g) (by omega:2^g<=2^(g+1)) b
  have n:=ER j I J s (by omega:2^g<=1073741824)
  rw[w]at z;rw[v]at p;rw[oF b];cases sw with
  |false=>
    simp only[b,cy,jv]at h;exact Spec.r j func59 [3] [.eb 18 h,z3 z,z3 p,.eb 31 (ne1 g),.eq 42 (bL (vM (g:=g) za)),yu (kA (g:=2^g) (N:=2^(g+1)) za),.eq 45 q,yu (rl (g:=2^g) (i:=2^(g+1)) (N:=2^(g+1)) za za),.eq 48 d,
       .eb 52 (abP m),z3 r,z3 o,z3 n]
  |true=>
    simp only[b,gn]at h;exact Spec.r j func59 [3] [.eb 18 h,z3 z,z3 p,.eb 31 (ne1 g),.eq 42 (bL (vM (g:=g) za)),yu (kA (g:=2^g) (N:=2^(g+1)) za),.eq 45 q,yu (rl (g:=2^g) (i:=2^(g+1)) (N:=2^(g+1)) za za),.eq 48 d,
       .eb 52 (abP m),z3 r,z3 o,z3 n]
def aeB(v:aa G){y b lo x w:ai cl}(p:y6 c=2^(g+1))(P:g<=4)(d:y6 I=2^(g+1))(r:g<y6 e)(D:yH KB c)(O:yH KB I)
    (C:fp c=aj) (B:fp I=aj)
    (M:xf G 59 [aG e,au (c.take (2^g)),au (I.take (2^g))] (au y)) (L:xf G 59 [aG e,au (c.drop (2^g)),au (I.drop (2^g))] (au J))
    (K:xf G 59 [aG e,au J,au (y7 e g [])] (au b)) (q:xf G 119 [au y,au b] (au lo))
    (j:xf G 59 [aG e,au (c.take (2^g)),au (I.drop (2^g))] (au x)) (H:xf G 59 [aG e,au (c.drop (2^g)),au (I.take (2^g))] (au w))
    (F:xf G 119 [au x,au w] (au f)):
    xf G 59 [aG e,au c,au I] (au (fW lo f (2^g))):=by
  have A:=da g;have R:=rR (g:=g+1) za
  have Q:2^(g+1)=2^g+2^g:=by rw[apK];omega
  have z:=Bu v (c:=c) p za D
  have s:=Bu v (c:=I) d za O
  have o:=CJ (c:=c) (g:=2^g) za
  have i:=K1 (c:=c) (g:=2^g) (by omega:2^g<=2^(g+1)) p
  have h:=CJ (c:=I) (g:=2^g) za
  have t:=K1 (c:=I) (g:=2^g) (by omega:2^g<=2^(g+1)) d
  have E:=ER v lo f A (by omega:2^g<=1073741824)
  have lv:=uu v (k:=g+1) za (c.flatMap cF)
  rw[C]at z;rw[B]at s;rw[oF p,oF d];exact Spec.r v func59 [3] [.eb 18 (av (apc (2^(g+1)))),z3 z,z3 s,.eb 31 (ne1 g),.eq 42 (bL (vM (g:=g) za)),yu (kA (g:=2^g) (N:=2^(g+1)) za),.eq 45 o,yu (rl (g:=2^g) (i:=2^(g+1)) (N:=2^(g+1)) za za),.eq 48 i,
     .eb 52 (afN (g:=2^(g+1)) (i:=2^g) za),yu (kA (g:=2^g) (N:=2^(g+1)) za),.eq 65 h,yu (rl (g:=2^g) (i:=2^(g+1)) (N:=2^(g+1)) za za),.eq 68 t,
     z3 lv,.eq 73 (bL (MQ (g:=g) za)),yu (pK r),yu (pL r),.eq 75 (xy r),z3 M,z3 L,z3 K,z3 q,z3 j,z3 H,z3 F,z3 E]
def F3(hs:Sh g c)(b:g<=5):y6 c<=32:=by
 have d:=hs.len;have a:2^g<=2^5:=apI za b;have e:(2:aw)^5=32:=zv
 omega
def Ls(h:fp c=aj):c≠[]:=λe=>by rw[e,jF]at h;cases h
def M1(hs:Sh g c)(b:fp c=aj)(a:y6 c<=1):∃x,c=[x]:=by
 match c,a,b with
 |[],_,b=>rw[jF]at b;cases b
 |[x],_,_=>exact⟨x,rfl⟩
 |_::_::_,a,_=>simp at a
def gm(c:aa G){t:aM}{δ:aw}(e:yx δ t):∀(k:aw)(a b:ai cl)(m n:aw),k<=5->k<=y6 t->eJ k t->Sh k a->Sh k b->Bt m a->Bt n b->m+n+jk k*δ+ck k<=NB->
  xf G 59 [aG t,au a,au b] (au (bH t k a b))
 |0,a,b,m,n,_,_,_,A,sb,K,J,X=>by
  have la:=K.fit za
  have u:=J.fit za
  have O:y6 a<=1:=by have:=A.len;simpa using this
  have N:y6 b<=1:=by have:=sb.len;simpa using this
  unfold bH;cases d:fp a with
  |true=>
   rw[aph (by rfl)]
   obtain h|h:=apy (y6 a) (y6 b)
   ·
    cases f:fp b with
    |true=>
     exact HD c (c:=b) (f:=a) bj (SI h) za u f
    |false=>
     exact HC c (c:=b) (f:=a) bj (SI h) za za u la f d
   ·exact HD c (c:=a) (f:=b) aj (av h) za la d
  |false=>
   cases f:fp b with
   |true=>
    rw[aph (by rfl)]
    have:0<y6 a:=aqd.2 (Ls d);exact HC c (c:=a) (f:=b) aj (av (show y6 b<=y6 a by omega)) za za la u d f
   |false=>
    rw[ape zb]
    obtain⟨x,rfl⟩:=M1 A d O;obtain⟨y,rfl⟩:=M1 sb f N;exact Zx c la u d f
 |k+1,a,b,m,n,hk,hkt,W,A,sb,K,J,X=>by
  have g:eJ k t:=λj hj=>W j za
  have la:=K.fit za
  have u:=J.fit za
  have O:=F3 A hk;have N:=F3 sb hk;have eN:jk (k+1)*δ=jk k*δ+jk k*δ+δ:=by simp only[jk];rw[aqk,apx];omega
  simp only[ck]at X;rw[V9];have key:∀(l:b5)(p q:ai cl)(m n:aw),decide (zNq (if l then q else p).length<zNq (if l then p else q).length)=l->y6 q<=y6 p->(y6 q<y6 p\/l=aj)->Sh (k+1) p->Sh (k+1) q->Bt m p->Bt n q->yH KB p->yH KB q->y6 p<=32->y6 q<=32->
    m+n+jk (k+1)*δ+(2*ck k+2)<=NB->xf G 59 (aG t::two l (au p) (au q)) (au (if fp p||fp q then []else tmP t k p q)):=by
   intro l p q m n v hle I sp sq r o H lq np nq X;cases d:fp p with
   |true=>rw[aph (by rfl)];exact HD c l v za H d
   |false=>
    cases f:fp q with
    |true=>rw[aph (by rfl)];exact HC c l v za za H lq d f
    |false=>
     rw[ape zb]
     have q0:0<y6 q:=aqd.2 (Ls f);unfold tmP;obtain rfl|⟨j,hj1,w⟩:=sp
     ·rw[jF]at d;cases d
     ·cases j with
      |zero=>
       have h1:y6 p=1:=w;rw[aph h1];obtain⟨x,rfl⟩:=M1 (g:=k+1) (y2 ⟨0,by omega,w⟩) d za
       obtain⟨y,rfl⟩:=M1 sq f za
       have:l=aj:=by
        obtain h|h:=I
        ·simp at h
        ·exact h
       subst this;exact Zx c H lq d f
      |succ j=>
       have hn:y6 p/2=2^j:=by rw[w,fY]
       have e2:2^(j+1)=2^j+2^j:=by rw[apK];omega
       have pj:=da j;rw[ape za,hn,iP]
       have D:Sh k (p.take (2^j)):=y2 ⟨j,by omega,by rw[apr];omega⟩
       have z:Sh k (p.drop (2^j)):=y2 ⟨j,by omega,by rw[apu];omega⟩
       by_cases s:y6 q<=2^j
       ·rw[aph s]
        have F:Sh k q:=by
         obtain rfl|⟨i,hi1,P⟩:=sq
         ·exact y1 rfl
         ·refine y2 ⟨i,?_,P⟩
          rw[P]at s;have:=(arJ (a:=2) za).1 s
          omega
        exact aii c l v w za s H lq d f
         (gm c e k _ _ m n za za g D F (r.take _) o za)
         (gm c e k _ _ m n za za g z F (r.drop _) o za)
       ·rw[ape s]
        have V:y6 q=2^(j+1):=by
         obtain rfl|⟨i,hi1,P⟩:=sq
         ·simp at s
         ·rw[P]at hle s⊢
          rw[w]at hle;have g1:=(arJ (a:=2) za).1 hle
          have g2:j<i:=(uc (a:=2) za).1 za
          rw[show i=j+1 by omega]
        have:l=aj:=by
         obtain h|h:=I
         ·omega
         ·exact h
        subst this;have M:Sh k (q.take (2^j)):=y2 ⟨j,by omega,by rw[apr];omega⟩
        have E:Sh k (q.drop (2^j)):=y2 ⟨j,by omega,by rw[apu];omega⟩
        have sd:Sh k (y7 t j []):=y2 ⟨j,by omega,W j za⟩
        have C:=(f_ k _ _ g z E).1;have L:=(r.drop (2^j)).times e (o.drop (2^j)) k;have bxu:=(r.take (2^j)).times e (o.take (2^j)) k;have bxv:=(r.take (2^j)).times e (o.drop (2^j)) k;have Y:=(r.drop (2^j)).times e (o.take (2^j)) k;have Z:=L.times e (e.root j) k;have U:=(f_ k _ _ g D M).2;have S:=(f_ k _ _ g C sd).2;have Q:=(f_ k _ _ g z E).2;have T:=(f_ k _ _ g D E).2;have R:=(f_ k _ _ g z M).2;have ld:=W j za
        simp only[o4,m6]at U Q T R S;exact aeB c w za V za H lq d f
         (gm c e k _ _ m n za za g D M (r.take _) (o.take _) za)
         (gm c e k _ _ m n za za g z E (r.drop _) (o.drop _) za)
         (gm c e k _ _ _ δ za za g C sd L (e.root j) za)
         (BM c (bxu.fit za) (Z.fit za) FB FB (apc _) (apc _) za)
         (gm c e k _ _ m n za za g D E (r.take _) (o.drop _) za)
         (gm c e k _ _ m n za za g z M (r.drop _) (o.take _) za)
         (BM c (bxv.fit za) (Y.fit za) FB FB (apc _) (apc _) za)
  by_cases B:y6 a<y6 b
  ·rw[aph B,aph B,Bool.or_comm]
   exact key bj b a n m (SI B) za (y1 B) sb A J K u la N O za
  ·rw[ape B,ape B]
   exact key aj a b m n (av (show y6 b<=y6 a by omega)) za (y2 rfl) A sb K J la u O N za
def zg(c:aa G){a:ai cl}{n:aw}(h:Bt n a)(b:n<=NB)(d:y6 a<=32):xf G 64 [au a] (au (gD a)):=
 SG c (h.fit b) (apc _) za
def BO(g:aa G){a b:ai cl}{m n:aw}(f:Bt m a)(e:Bt n b)(d:m<=NB)(c:n<=NB)(h:y6 a<=32)(i:y6 b<=32):xf G 119 [au a,au b] (au (dV a b)):=
 BM g (f.fit d) (e.fit c) FB FB (apc _) (apc _) za
def abg(i:aa G){a g f b r:ai cl}{j:aw}(h:y6 a=2^(j+1))(w:j<=4)(t:j<y6 e)
    (q:xf G 59 [aG e,au (a.take (2^j)),au (a.take (2^j))] (au g)) (p:xf G 59 [aG e,au (a.drop (2^j)),au (a.drop (2^j))] (au f))
    (o:xf G 59 [aG e,au f,au (y7 e j [])] (au b)) (n:xf G 64 [au b] (au (gD b)))
    (m:xf G 119 [au g,au (gD b)] (au r)):
    xf G 135 [aG e,au a] (au r):=by
  have v:=da j;have y:=rR (g:=j+1) za
  have x:2^(j+1)=2^j+2^j:=by rw[apK];omega
  have d:=CJ (c:=a) (g:=2^j) za
  have c:=K1 (c:=a) (g:=2^j) (by omega:2^j<=2^(j+1)) h
  have lv:=uu i (k:=j+1) za (a.flatMap cF)
  rw[oF h];exact Spec.r i func135 [2] [.eq 10 (bL (vM (g:=j) za)),yu (kA (g:=2^j) (N:=2^(j+1)) za),.eq 13 d,yu (rl (g:=2^j) (i:=2^(j+1)) (N:=2^(j+1)) za za),.eq 16 c,
     z3 q,z3 p,z3 lv,.eq 30 (bL (MQ (g:=j) za)),yu (pK t),yu (pL t),.eq 32 (xy t),z3 o,z3 n,z3 m]
def Lo(f:aa G){δ:aw}(c:yx δ e){k j:aw}{a:ai cl}{n:aw}(z:k<=4)(d:k<=y6 e)(t:eJ k e)(o:j<=k)(y:j<y6 e)(x:y6 (y7 e j [])=2^j)(u:y6 a=2^(j+1))(b:Bt n a)
  (A:n+n+jk (k+1)*δ+ck (k+1)<=NB):xf G 135 [aG e,au a] (au (gC e k a)):=by
 have D:2^(j+1)=2^j+2^j:=by rw[apK];omega
 have B:jk (k+1)*δ=jk k*δ+jk k*δ+δ:=by simp only[jk];rw[aqk,apx];omega
 have C:ck (k+1)=2*ck k+2:=rfl;have w:y6 a/2=2^j:=by rw[u,fY]
 have m:Sh k (a.take (2^j)):=y2 ⟨j,o,by rw[apr];omega⟩
 have l:Sh k (a.drop (2^j)):=y2 ⟨j,o,by rw[apu];omega⟩
 have q:Sh k (y7 e j []):=y2 ⟨j,o,x⟩;have g:=(f_ k _ _ t l l).1;have h:=(b.drop (2^j)).times c (b.drop (2^j)) k;have p:=(b.take (2^j)).times c (b.take (2^j)) k;have i:=h.times c (c.root j) k;have v:=F3 (f_ k _ _ t m m).1 za
 have r:=F3 (f_ k _ _ t g q).1 za
 unfold gC;simp only[w,iP];exact abg f u za y
  (gm f c k _ _ n n za d t m m (b.take _) (b.take _) za)
  (gm f c k _ _ n n za d t l l (b.drop _) (b.drop _) za)
  (gm f c k _ _ _ δ za d t g q h (c.root j) za)
  (zg f i za r)
  (BO f p i.minus za za v (by rw[xL];exact r))
def MC(q:cl): -1<=nV q/\nV q<=1:=by rcases vY q with⟨_,e⟩|⟨_,e⟩|⟨_,e⟩<;>omega
def US{x y:cA}(h: -1<=x/\x<=1)(a: -1<=y/\y<=1): -1<=x*y/\x*y<=1:=by
 have:x= -1\/x=0\/x=1:=za
 obtain rfl|rfl|rfl:=this<;>omega
def jG(t:aM):∀(k:aw)(a:ai cl),-1<=iN t k a/\iN t k a<=1
 |0,a=>by unfold iN;exact MC _
 |k+1,a=>by unfold iN;simp only;split;omega;split;exact MC _;split;exact jG t k _;split;exact jG t k _;split;exact jG t k _;exact US (jG t k _) (jG t k _)
def ak1{x:cA}(h: -1<=x/\x<=1):bJ .i64 x=x:=qu za za
def agH{x y:cA}(h:x=y):(x==y)=bj:=by simpa using h
def GF{x y:cA}(h:x≠y):(x==y)=aj:=by simpa using h
def OP(b:aa G){a:ai cl}(c:xf G 118 [au a] (au [])):xf G 65 [aG e,au a] (int 0):=
 Spec.r b func65 [2] [z3 c]
def sign_one(b:aa G){a:ai cl}{x:cl}(d:gY KB x)(c:xf G 118 [au a] (au [x])):xf G 65 [aG e,au a] (int (nV x)):=
 Spec.r b func65 [2] [z3 c,z3 (uQ b d.uV (apc _))]
def ZK(n:aa G){a b N:ai cl}{j:aw}{Z W:cA}(c:xf G 118 [au a] (au b))(z:y6 b=2^(j+1))(F:j<=4)(d:j<y6 e)
    (x:xf G 65 [aG e,au (b.take (2^j))] (int C)) (w:xf G 65 [aG e,au (b.drop (2^j))] (int O)) (v:xf G 65 [aG e,au (y7 e j [])] (int Z))
    (A:xf G 135 [aG e,au b] (au N)) (D:xf G 65 [aG e,au N] (int W)) (B: -1<=C/\C<=1) (X: -1<=W/\W<=1):
    xf G 65 [aG e,au a] (int (if Z=0 then C else if C=O\/O=0 then C else if C=0 then O else C*W)):=by
  have E:=da j;have I:=rR (g:=j+1) za
  have H:2^(j+1)=2^j+2^j:=by rw[apK];omega
  have i:=CJ (c:=b) (g:=2^j) za
  have g:=K1 (c:=b) (g:=2^j) (by omega:2^j<=2^(j+1)) z
  have lv:=uu n (k:=j+1) za (b.flatMap cF)
  rw[oF z]at c A;have q:=kA (g:=2^j) (N:=2^(j+1)) za
  have p:=rl (g:=2^j) (i:=2^(j+1)) (N:=2^(j+1)) za za
  have f:=vM (g:=j) za
  have t:=MQ (g:=j) za
  by_cases m:Z=0
  · rw[aph m]
    exact Spec.r n func65 [2] [z3 c,.eb 12 (ne0 j),.eb 15 (ne1 j),.eq 22 (bL f),.er 23 (aG e),yu q,.eq 26 i,z3 x,.er 28 (aG e),yu p,.eq 31 g,z3 w,z3 lv,.eq 38 (bL t),yu (pK d),yu (pL d),.eq 40 (xy d),z3 v,.eb 42 (agH m)]
  · rw[ape m]
    by_cases o:C=O
    · rw[aph (y1 o)]
      exact Spec.r n func65 [2] [z3 c,.eb 12 (ne0 j),.eb 15 (ne1 j),.eq 22 (bL f),.er 23 (aG e),yu q,.eq 26 i,z3 x,.er 28 (aG e),yu p,.eq 31 g,z3 w,z3 lv,.eq 38 (bL t),yu (pK d),yu (pL d),.eq 40 (xy d),z3 v,.eb 42 (GF m),.eb 47 (agH o)]
    · by_cases r:O=0
      · rw[aph (y2 r)]
        exact Spec.r n func65 [2] [z3 c,.eb 12 (ne0 j),.eb 15 (ne1 j),.eq 22 (bL f),.er 23 (aG e),yu q,.eq 26 i,z3 x,.er 28 (aG e),yu p,.eq 31 g,z3 w,z3 lv,.eq 38 (bL t),yu (pK d),yu (pL d),.eq 40 (xy d),z3 v,.eb 42 (GF m),.eb 47 (GF o),.eb 50 (agH r)]
      · rw[ape (by rintro(h|h);exact o h;exact r h)]
        by_cases y:C=0
        · rw[aph y]
          exact Spec.r n func65 [2] [z3 c,.eb 12 (ne0 j),.eb 15 (ne1 j),.eq 22 (bL f),.er 23 (aG e),yu q,.eq 26 i,z3 x,.er 28 (aG e),yu p,.eq 31 g,z3 w,z3 lv,.eq 38 (bL t),yu (pK d),yu (pL d),.eq 40 (xy d),z3 v,.eb 42 (GF m),.eb 47 (GF o),.eb 50 (GF r),.eb 55 (agH y)]
        · rw[ape y]
          exact Spec.r n func65 [2] [z3 c,.eb 12 (ne0 j),.eb 15 (ne1 j),.eq 22 (bL f),.er 23 (aG e),yu q,.eq 26 i,z3 x,.er 28 (aG e),yu p,.eq 31 g,z3 w,z3 lv,.eq 38 (bL t),yu (pK d),yu (pL d),.eq 40 (xy d),z3 v,.eb 42 (GF m),.eb 47 (GF o),.eb 50 (GF r),.eb 55 (GF y),
             z3 A,z3 D,.eq 63 (bL (ak1 (US B X)))]
def CK{k:aw}{a:ai cl}(hs:Sh k a):dN a=[]\/(∃x,dN a=[x])\/∃j,j+1<=k/\y6 (dN a)=2^(j+1):=by
 obtain h|⟨j,c,b⟩:=iF hs
 exact y1 h;cases j with
 |zero=>exact y2 (y1 (ap_.1 b))
 |succ j=>exact y2 (y2 ⟨j,c,b⟩)
def qJ(d:aa G){t:aM}{δ:aw}(g:yx δ t):∀(k:aw)(a:ai cl)(n:aw),k<=5->k<=y6 t->eJ k t->Sh k a->Bt n a->sb δ k n<=NB->
  xf G 65 [aG t,au a] (int (iN t k a))
 |0,a,n,_,_,_,f,l,p=>by
  have la:=l.fit p;have c:=ri d f za la
  unfold iN;obtain h|⟨x,h⟩|⟨j,h,-⟩:=CK f
  ·have e:y7 a 0 0=0:=by rw[<-kU f,h];rfl
   rw[e];rw[h]at c;exact OP d c
  ·have e:y7 a 0 0=x:=by rw[<-kU f,h];rfl
   rw[e];rw[h]at c;exact sign_one d ((l.short f).fit p x (by rw[h];simp)) c
  ·omega
 |k+1,a,n,F,A,o,f,l,p=>by
  have m:eJ k t:=λj B=>o j za
  have E:=sV δ (k+1) n;have z:=sV δ k (n+n+jk (k+1)*δ+ck (k+1));have eS:sb δ (k+1) n=sb δ k (n+n+jk (k+1)*δ+ck (k+1)):=rfl;have w:=ahf δ k n;have y:=ae9 δ k n;have la:=l.fit za
  have c:=ri d f za la
  have i:=l.short f;unfold iN;simp only;obtain h|⟨x,h⟩|⟨j,B,h⟩:=CK f
  ·rw[h]at c⊢
   rw[aph (show y6 ([]:ai cl)=0 from rfl)]
   exact OP d c
  ·rw[ape (by rw[h];simp),aph (by rw[h];rfl)]
   have v:=i.fit za x (by rw[h];simp)
   rw[h]at c⊢;exact sign_one d v c
  ·have H:2^(j+1)=2^j+2^j:=by rw[apK];omega
   have D:=da j;generalize dN a=b at h c i;have C:y6 b/2=2^j:=by rw[h,fY]
   rw[ape za,ape za,C,iP]
   have r:Sh k (b.take (2^j)):=y2 ⟨j,by omega,by rw[apr];omega⟩
   have q:Sh k (b.drop (2^j)):=y2 ⟨j,by omega,by rw[apu];omega⟩
   have u:Sh k (y7 t j []):=y2 ⟨j,by omega,o j za⟩
   exact ZK d c h za za
    (qJ d g k _ n za za m r (i.take _) za)
    (qJ d g k _ n za za m q (i.drop _) za)
    (qJ d g k _ δ za za m u (g.root j) za)
    (Lo d g (k:=k) (j:=j) za za m za za (o j za) h i za)
    (qJ d g k _ _ za za m (wF o za h k za za) (i.norm g k) za)
    (jG t k _) (jG t k _)
def inv_one(b:aa G){a:ai cl}{x:cl}(f:gY KB x)(g:x≠0)(c:xf G 118 [au a] (au [x])):xf G 319 [aG e,au a] (au [x⁻¹]):=by
 have d:=FD b (aij (b:=1) za).uV f.uV (by rw[pn];omega) (apc _) g
 have t:((1:cA):cl)/x=x⁻¹:=by rw[asi];exact Rat.one_mul _
 rw[t]at d;exact Spec.r b func319 [2] [z3 c,z3 (dM b (i:=1) za za),z3 d]
def inv_zero(i:aa G){t:aM}{a b m r:ai cl}{j:aw}(c:xf G 118 [au a] (au b))(h:y6 b=2^(j+1))(p:j<=4)
  (g:xf G 135 [aG t,au b] (au m)) (n:xf G 65 [aG t,au m] (int 0))
  (l:xf G 119 [au (b.take (2^j)),au (b.take (2^j))] (au (dV (b.take (2^j)) (b.take (2^j))))) (k:xf G 319 [aG t,au (dV (b.take (2^j)) (b.take (2^j)))] (au r)):
  xf G 319 [aG t,au a] (au r):=by
 have o:=da j;have q:2^(j+1)=2^j+2^j:=by rw[apK];omega
 have d:=CJ (c:=b) (g:=2^j) za
 rw[oF h]at c g;have f:=kA (g:=2^j) (N:=2^(j+1)) za
 have e:=vM (g:=j) za
 exact Spec.r i func319 [2] [z3 c,.eb 13 (ne1 j),.eq 26 (bL e),z3 g,z3 n,.er 34 (aG t),yu f,.eq 37 d,yu f,.eq 40 d,z3 l,z3 k]
def af2(i:aa G){a b m r g:ai cl}{j:aw}(c:xf G 118 [au a] (au b))(h:y6 b=2^(j+1))(A:j<=4)(q:C≠0)
  (k:xf G 135 [aG e,au b] (au m)) (z:xf G 65 [aG e,au m] (int C))
  (y:xf G 64 [au (b.drop (2^j))] (au (gD (b.drop (2^j))))) (x:xf G 319 [aG e,au m] (au g))
  (w:xf G 59 [aG e,au (fW (b.take (2^j)) (gD (b.drop (2^j))) (2^j)),au g] (au r)):
  xf G 319 [aG e,au a] (au r):=by
 have n:=da j;have Z:=rR (g:=j+1) za
 have B:2^(j+1)=2^j+2^j:=by rw[apK];omega
 have f:=CJ (c:=b) (g:=2^j) za
 have t:=K1 (c:=b) (g:=2^j) (by omega:2^j<=2^(j+1)) h
 have v:=ER i (b.take (2^j)) (gD (b.drop (2^j))) n (by omega:2^j<=1073741824)
 rw[oF h]at c k;have p:=kA (g:=2^j) (N:=2^(j+1)) za
 have o:=rl (g:=2^j) (i:=2^(j+1)) (N:=2^(j+1)) za za
 have d:=vM (g:=j) za
 exact Spec.r i func319 [2] [z3 c,.eb 13 (ne1 j),.eq 26 (bL d),z3 k,z3 z,.eb 33 (GF q),.er 43 (aG e),yu p,.eq 46 f,yu o,.eq 49 t,z3 y,z3 v,z3 x,z3 w]
section model
open zY dH
variable {G:bn->Prop} {K:Type} [dH K] (ι:pD cl K) (s:aw->K)
def abZ{k j:aw}{b:ai cl}(o:eJ (k+1) e)(g:Model ι s e (k+1))(A:j<=k)(r:y6 b=2^(j+1))(f:lv ι s (k+1) b≠0):
  (iN e k (gC e k b)=0->lv ι s k (dV (b.take (2^j)) (b.take (2^j)))≠0)/\(iN e k (gC e k b)≠0->lv ι s k (gC e k b)≠0):=by
 have d:eJ k e:=λj n=>o j za
 have a:Model ι s e k:=⟨λj n=>g.nn j za,λj n=>g.sq j za⟩
 have D:2^(j+1)=2^j+2^j:=by rw[apK];omega
 have w:=da j;have y:y6 b/2=2^j:=by rw[r,fY]
 have low:∀l:ai cl,y6 l<=2^j->lv ι s k l=lv ι s j l:=λl z=>nI ι s z za
 have m:Sh k (b.take (2^j)):=y2 ⟨j,by omega,by rw[apr];omega⟩
 have i:Sh k (b.drop (2^j)):=y2 ⟨j,by omega,by rw[apu];omega⟩
 have B:=o j za
 have u:Sh k (y7 e j []):=y2 ⟨j,by omega,B⟩
 have p:lv ι s (k+1) b=lv ι s k (b.take (2^j))+lv ι s k (b.drop (2^j))*s j:=by
  rw[nI ι s (j:=j+1) za za,Ap ι s b,low _ (by rw[apr];omega),low _ (by rw[apu];omega)]
 have sq:s j*s j=lv ι s k (y7 e j []):=by rw[g.sq j za,low _ za]
 obtain⟨s1,v1,-⟩:=gT ι s k _ _ d a m m;obtain⟨s2,v2,-⟩:=gT ι s k _ _ d a i i;obtain⟨v,q,-⟩:=gT ι s k _ _ d a s2 u;have h:Sh k (gC e k b)/\lv ι s k (gC e k b)=lv ι s k (b.take (2^j))*lv ι s k (b.take (2^j))-lv ι s k (b.drop (2^j))*lv ι s k (b.drop (2^j))*lv ι s k (y7 e j []):=by
  unfold gC;simp only[y,iP];refine⟨s1.plus v.minus,?_⟩;rw[rD,uq,v1,q,v2,sub_def']
 rw[nU ι s k _ d a h.1];rw[p]at f;rw[<-sq]at h;refine⟨λc=>?_,λc t=>c (oL.2 t)⟩
 rw[oL,h.2]at c;have x:(lv ι s k (b.take (2^j))+lv ι s k (b.drop (2^j))*s j)*(lv ι s k (b.take (2^j))-lv ι s k (b.drop (2^j))*s j)=0:=by
  rw[<-c];exact rg [lv ι s k (b.take (2^j)),lv ι s k (b.drop (2^j)),s j]
 have he:=fJ.1 ((mul_eq_zero x).resolve_left f);rw[rD];intro C;refine f ?_;rw[<-he];exact C
def xR(d:aa G){t:aM}{δ:aw}(l:yx δ t):∀(k:aw)(a:ai cl)(n:aw),k<=5->k<=y6 t->eJ k t->Model ι s t k->Sh k a->Bt n a->lv ι s k a≠0->sb δ k n<=NB->ib δ k n<=NB->
  xf G 319 [aG t,au a] (au (jq t k a))
 |0,a,n,_,_,_,_,g,r,i,N,O=>by
  have L:=U4 δ 0 n;have la:=r.fit za
  have c:=ri d g za la
  have P:lv ι s 0 a=ι.φ (y7 a 0 0):=rfl;have C:y7 a 0 0≠0:=λh=>i (by rw[P,h,ι.zero])
  unfold jq;obtain h|⟨x,h⟩|⟨j,h,-⟩:=CK g
  ·exfalso;apply C
   rw[<-kU g,h];rfl
  ·have e:y7 a 0 0=x:=by rw[<-kU g,h];rfl
   rw[e]at C⊢;have o:=(r.short g).fit za x (by rw[h];simp)
   rw[h]at c;exact inv_one d o C c
  ·omega
 |k+1,a,n,M,A,u,B,g,r,i,N,O=>by
  have q:eJ k t:=λj w=>u j za
  have z:Model ι s t k:=⟨λj w=>B.nn j za,λj w=>B.sq j za⟩
  have L:=U4 δ (k+1) n;have J:=sV δ k (n+n+jk (k+1)*δ+ck (k+1));have eS:sb δ (k+1) n=sb δ k (n+n+jk (k+1)*δ+ck (k+1)):=rfl;have Y:ib δ (k+1) n=n+n+ib δ k (n+n+jk (k+1)*δ+ck (k+1))+jk (k+1)*δ+ck (k+1):=rfl;have Z:ck (k+1)=2*ck k+2:=rfl;have la:=r.fit za
  have c:=ri d g za la
  have f:=r.short g;rw[<-n9 ι s g]at i;unfold jq;simp only;obtain h|⟨x,h⟩|⟨j,w,h⟩:=CK g
  ·rw[h]at i
   exact api (BV ι s _) i
  ·rw[aph (by rw[h];rfl)]
   have o:=f.fit za x (by rw[h];simp)
   rw[h]at c i⊢;rw[EN]at i;exact inv_one d o (λe=>i (by rw[show x=0 from e,ι.zero])) c
  ·have e2:2^(j+1)=2^j+2^j:=by rw[apK];omega
   have U:=da j;generalize dN a=b at h c f i;have T:y6 b/2=2^j:=by rw[h,fY]
   rw[ape za,T]
   obtain⟨H,E⟩:=abZ ι s u B za h i
   have y:Sh k (b.take (2^j)):=y2 ⟨j,by omega,by rw[apr];omega⟩
   have o:y6 (b.take (2^j))<=32:=F3 y za
   have X:y6 b<=32:=F3 (g:=k+1) (y2 ⟨j+1,w,h⟩) za
   have v:Sh k (gC t k b):=wF u za h k za za
   have D:=f.norm l k;have F:=Lo d l (k:=k) (j:=j) za za q za za (u j za) h f za
   have cs:=qJ d l k _ _ za za q v D za
   split
   ·rename_i p
    rw[p]at cs;have Q:=(f.take (2^j)).plus (f.take (2^j));have W:=pJ δ k (m:=n+n+1) (n:=n+n+jk (k+1)*δ+ck (k+1)) za
    have V:=Nn δ k (m:=n+n+1) (n:=n+n+jk (k+1)*δ+ck (k+1)) za
    exact inv_zero d c h za F cs (BO d (f.take _) (f.take _) za za o o)
     (xR d l k _ _ za za q z (y.plus y) Q (H p) za za)
   ·rename_i p
    have sc:Sh (k+1) (fW (b.take (2^j)) (gD (b.drop (2^j))) (2^j)):=y2 ⟨j+1,by omega,by rw[kD];omega⟩
    have I:y6 (b.drop (2^j))<=32:=by rw[apu];omega
    obtain⟨i1,-⟩:=Dt ι s k _ q z v (E p);have S:=Bt.inv l k _ _ q v D;have R:=(f.take (2^j)).join (f.drop (2^j)).minus (2^j);exact af2 d c h za p F cs (zg d (f.drop _) za I)
     (xR d l k _ _ za za q z v D (E p) za za)
     (gm d l (k+1) _ _ _ _ M A u sc (i1.mono (by omega:k<=k+1)) R S za)
end model
def D9(a:aa G){q:cl}(h:gY KB q):xf G 42 [F q] (bool bj):=by have:=sk a (k:=gM q) h.ok (apc _);rw[vd]at this;exact this
def Ln(t:aM)(l:ai cl)(i:aw):St:=lay 34 [(2,.aJ [yI (y6 t) aj (t.map au)]),(23,au l),(24,nat (y6 l)),(25,nat i)] []
def abe(b:aa G){l:ai cl}{i:aw}(a:i<y6 l)(f:y6 l<=32)(d:yH KB l):
  xo G (ae f117 0) (Ln e l i) y3 (Ln e l (i+1)):=by
 have t:=fO bS a 0;have c:=D9 b (d _ (aA a 0));exact af.r b [.eb 26 (ah a),yu (ay bS za a),yu (aq bS za a),.eq 28 t,z3 c,.eq 33 (bL (ax a za))]
def afM(a:aa G){l:ai cl}(d:y6 l<=32)(b:yH KB l):
  aI zZq G 34 0 (.loop (ae f117 0)) (Ln e l 0) (y5 0) (Ln e l (y6 l)):=
 aI.c (λi=>Ln e l i) (y6 l)
  (λi c=>abe a c d b) (af.r a [.eb 26 (av (apc (y6 l)))])
def FY(c:aa G){a:ai cl}(hs:Sh (y6 e) a)(t:y6 e<=5)(f:yH KB a):xf G 117 [aG e,au a] xc:=by
 have b:=afM c (e:=e) (F3 hs t) f;obtain rfl|⟨j,m,d⟩:=hs
 ·exact Spec.r c func117 [2] [.code b]
 ·have lv:=uu c (k:=j) za (a.flatMap cF)
  have l:=da j;have i:decide (zNq (2^j)>0)=bj:=by rw[p8];simp only[zKq];omega
  have h:decide (zNq j<0)=aj:=by rw[fH];simp only[zKq];omega
  have g:decide (zNq j>zNq (y6 e))=aj:=by rw[fH];simp only[zKq];omega
  unfold Ln at b;rw[d,oF d]at b;rw[oF d];exact Spec.r c func117 [2] [.eb 10 i,z3 lv,.eb 14 h,.eb 20 g,.code b]
end Tw
namespace fb
open zY dH
structure j7(t:aM):Prop where
 len:t.length<=5
 sh:eJ t.length t
 nn:∀k<t.length,0<=iN (t.take k) k (t.getD k [])
def KU(t:aM)(k j:aw)(h:j<k):(t.take k).getD j []=y7 t j []:=by simp only[bP,gi,nT h]
def RA(t:aM)(k j:aw):(t.take k).getD j []=y7 t j []\/(t.take k).getD j []=[]:=by simp only[bP,gi];split;exact y1 rfl;exact y2 rfl
def yx.take{δ:aw}{t:aM}(h:yx δ t)(k:aw):yx δ (t.take k):=by
 obtain⟨Δ,Β,d,c,b,a⟩:=h;refine⟨Δ,Β,d,c,b,λj=>?_⟩;obtain e|e:=RA t k j
 rw[e];exact a j;rw[e];exact .nil _ _
def eJ.take{n:aw}{t:aM}(h:eJ n t)(k:aw)(b:k<=n):eJ k (t.take k):=λj a=>by rw[KU t k j a];exact h j za
def Model.take{K:Type}[dH K]{ι:pD cl K}{s:aw->K}{t:aM}{n k:aw}(h:Model ι s t n)(b:k<=n):Model ι s (t.take k) k:=
 ⟨λj a=>h.nn j za,λj a=>by rw[KU t k j a];exact h.sq j za⟩
def j7.nil:j7 []:=⟨by simp,λj b=>by simp at b,λk a=>by simp at a⟩
variable {e:aM} {g:aw} {o:Type}
def Model.extend[dH o]{ι:pD cl o}{s:aw->o}(j:Model ι s e g)(d:ai cl)(m:dH.nn (lv ι s g d)):
  ∃(c:Type)(_:dH c)(f:pD o c)(r:c),dH.nn r/\r*r=f.φ (lv ι s g d)/\Model (f.comp ι) (λi=>if i=g then r else f.φ (s i)) e g/\
   (∀k n,k<=g->lv (f.comp ι) (λi=>if i=g then r else f.φ (s i)) k n=f.φ (lv ι s k n)):=by
 obtain⟨c,_,f,r,l,t⟩:=akI o (lv ι s g d) m;have b:∀k n,k<=g->V (f.comp ι) (λi=>if i=g then r else f.φ (s i)) k n=f.φ (V ι s k n):=by
  intro k;induction k with
  |zero=>intro n _;rfl
  |succ k h=>
   intro n a;simp only[V];rw[h _ za,h _ za,ape za,f.add,f.mul]
 refine⟨c,inferInstance,f,r,l,t,⟨λk a=>?_,λk a=>?_⟩,λk n a=>b k _ a⟩;simp only[ks (show k≠g by omega)];obtain n|n:=j.nn k a
 exact y1 (f.pos _ n);rw[n,f.zero];exact y2 rfl;simp only[ks (show k≠g by omega)];rw[<-f.mul,j.sq k a];exact(b k _ za).symm
def j7.model{t:aM}(h:j7 t):∀n≤y6 t,∃(K:Type)(_:dH K)(ι:pD cl K)(s:aw->K),Model ι s t n
 |0,_=>⟨cl,inferInstance,pD.id cl,λ_=>0,⟨λk h=>api h za,λk h=>api h za⟩⟩
 |n+1,p=>by obtain⟨K,_,ι,s,d⟩:=h.model n za;have m:Sh n (y7 t n []):=.of (h.sh n za);have c:=h.nn n za;rw[nU ι s n _ (h.sh.take n za) (d.take (apc n)) m,ZQ]at c;obtain⟨o,_,f,r,j,a,b,g⟩:=d.extend _ c;refine⟨o,inferInstance,f.comp ι,λi=>if i=n then r else f.φ (s i),⟨λk l=>?_,λk l=>?_⟩⟩;by_cases e:k=n;simp only[e,gn];exact j;exact b.nn k za;by_cases e:k=n;subst e;simp only[gn];rw[a];exact(g k _ (apc _)).symm;exact b.sq k za
end fb
namespace Tw
open Go Go.RowKit Go.Proofs fb
variable {G:bn->Prop}
def VC(t:aM)(i:aw):St:=lay 43 [(1,.aJ [yI (y6 t) aj (t.map au)]),(13,yI (y6 t) aj (t.map au)),(14,nat (y6 t)),(15,nat i)] []
variable (a:aa G) {c f:ai cl} {e:aM} {g i p:aw} {j:cl}
def Zv(h:i<=y6 e):D.row ((zNq i).toNat-(0:cA).toNat) aj (((e.map au).drop ((0:cA).toNat*1)).take (((zNq i).toNat-(0:cA).toNat)*1))=yI (e.take i).length aj ((e.take i).map au):=by have b:(zNq i).toNat=i:=rfl;have a:(0:cA).toNat=0:=rfl;rw[b,a,aqH,si,aqx,aqD,arL,apr,arQ h]
def aeZ(h:i<=5):bJ .i64 ((1:cA)*2^min (zNq i).toNat (cn .i64))=zNq (2^i):=by
 have:i=0\/i=1\/i=2\/i=3\/i=4\/i=5:=za
 obtain rfl|rfl|rfl|rfl|rfl|rfl:=this<;>decide
def adu(h:aa G)(ok:j7 e)(l:yx g e)(n:sb g (y6 e) g<=NB)(c:i<y6 e):
    xo G (ae f50 0) (VC e i) y3 (VC e (i+1)):=by
  have w:=ok.len;have t:=ok.sh i c;have b:=l.root i;have p:g<=NB:=apm (sV g (y6 e) g) n;have j:=Zv (e:=e) (i:=i) za
  have v:y6 (e.take i)=i:=by rw[apr];omega
  have o:=FY h (e:=e.take i) (a:=y7 e i []) (by rw[v];exact .of t) za (b.fit p)
  have f:∀m,i<=m->sb g i g<=sb g m g:=by
    intro m r;obtain⟨d,rfl⟩:∃d,m=i+d:=⟨m-i,by omega⟩
    clear r;induction d with
    |zero=>exact apc _
    |succ d q=>exact apm q (ahf g _ g)
  have k:=qJ h (l.take i) i (y7 e i []) g za za (ok.sh.take i za) (.of t) b (apm (f (y6 e) za) n)
  have nn:=ok.nn i c;generalize iN (e.take i) i (y7 e i [])=Z at k nn;have s:decide (Z<0)=aj:=by rw[fH];omega
  have δ:=xy c;generalize y7 e i []=d at*;rw[oF t]at δ o k;exact af.r h [.eb 16 (ah c),yu (pK c),yu (pL c),.eq 19 δ,.eq 23 (bL (aeZ (i:=i) za)),.eb 24 (x:=(zNq (2^i) !=zNq (2^i))) (y:=aj) zb,
     .er 28 (nat i),yu (kA (g:=i) (N:=y6 e) za),.eq 29 j,z3 o,z3 k,.eb 40 s,.eq 42 (bL (ax c za))]
def uR(ok:j7 e)(d:yx g e)(δ:sb g (y6 e) g<=NB):xf G 50 [aG e] xc:=by
 have f:=ok.len;have b:=aI.z zZq G (ae f50 0) (y5 0) (VC e (y6 e)) (λi=>VC e i) (y6 e)
  (λi c=>adu a ok d δ c) (af.r a [.eb 16 (av (apc (y6 e)))])
 have t:decide (zNq (y6 e)>5)=aj:=by rw[fH];simp only[rI];omega
 exact Spec.r a func50 [1] [.eb 10 t,.code b]
structure oY(δ:aw)(t:aM):Prop where
 ok:j7 t
 bt:yx δ t
 sz:sb δ t.length δ<=NB
structure aH(n:aw)(t:aM)(a:ai cl):Prop where
 sh:Sh t.length a
 bt:Bt n a
def aH.nil(n:aw)(t:aM):aH n t []:=⟨.nil _,.nil _⟩
def aH.mono{m n:aw}{t:aM}{a:ai cl}(h:aH m t a)(b:m<=n):aH n t a:=⟨h.sh,h.bt.mono b⟩
def aH.len{n:aw}{t:aM}{a:ai cl}(h:aH n t a)(ok:j7 t):y6 a<=32:=F3 h.sh ok.len
def xI(d:oY g e)(b:aH i e c)(δ:i<=NB):xf G 117 [aG e,au c] xc:=
 FY a b.sh d.ok.len (b.bt.fit δ)
def tt(b:oY g e)(δ:aH i e c)(d:i<=NB):xf G 56 [aG e,yI 1 aj [au c]] xc:=
 Spec.r a func56 [2] [z3 (uR a b.ok b.bt b.sz),z3 (xI a b δ d)]
def p9(d:oY g e)(h:aH i e c)(n:aH p e f)(m:i<=NB)(δ:p<=NB):xf G 56 [aG e,yI 2 aj [au c,au f]] xc:=
 Spec.r a func56 [2] [z3 (uR a d.ok d.bt d.sz),z3 (xI a d h m),z3 (xI a d n δ)]
def TK(n:oY g e)(d:aH i e c)(δ:i<=NB):xf G 157 [aG e,au c] (bool bj):=
 Spec.r a func157 [2] [z3 (tt a n d δ)]
def sf(ok:j7 e)(b:aH g e c)(d:g<=NB):xf G 118 [au c] (au (dN c)):=
 ri a b.sh ok.len (b.bt.fit d)
def aH.plus{m n:aw}{t:aM}{a b:ai cl}(d:aH m t a)(c:aH n t b):aH (m+n+1) t (dV a b):=⟨d.sh.plus c.sh,d.bt.plus c.bt⟩
def aH.minus{n:aw}{t:aM}{a:ai cl}(b:aH n t a):aH n t (gD a):=⟨b.sh.minus,b.bt.minus⟩
def aH.short{n:aw}{t:aM}{a:ai cl}(b:aH n t a):aH n t (dN a):=⟨iF b.sh,b.bt.short b.sh⟩
def tb(δ k:aw):aw:=jk k*δ+ck k
def aH.times{m n δ:aw}{t:aM}{a b:ai cl}(e:oY δ t)(d:aH m t a)(c:aH n t b):aH (m+n+tb δ (y6 t)) t (bH t (y6 t) a b):=
 ⟨(f_ _ _ _ e.ok.sh d.sh c.sh).1,(d.bt.times e.bt c.bt (y6 t)).mono (by unfold tb;omega)⟩
def aH.inv{n δ:aw}{t:aM}{a:ai cl}(b:oY δ t)(c:aH n t a)(f:aL t a≠0):aH (ib δ (y6 t) n) t (jq t (y6 t) a):=by refine⟨?_,Bt.inv b.bt _ _ _ b.ok.sh c.sh c.bt⟩;obtain⟨K,_,ι,s,d⟩:=b.ok.model (y6 t) (apc _);refine(Dt ι s _ _ b.ok.sh d c.sh λe=>f ?_).1;unfold aL;rw[nU ι s _ _ b.ok.sh d c.sh,e,dH.iU]
def zf(ok:j7 e)(b:aH g e c)(d:g<=NB):xf G 64 [au c] (au (gD c)):=
 zg a b.bt d (b.len ok)
def BN(ok:j7 e)(d:aH g e c)(m:aH i e f)(t:g<=NB)(n:i<=NB):xf G 119 [au c,au f] (au (dV c f)):=
 BO a d.bt m.bt t n (d.len ok) (m.len ok)
def FK(δ:oY g e)(m:aH i e c)(d:aH p e f)(h:i+p+tb g (y6 e)<=NB):xf G 59 [aG e,au c,au f] (au (bH e (y6 e) c f)):=
 gm a δ.bt _ _ _ _ _ δ.ok.len (apc _) δ.ok.sh m.sh d.sh m.bt d.bt (by unfold tb at h;omega)
def mI(b:oY g e)(d:aH i e c)(h:sb g (y6 e) i<=NB):xf G 65 [aG e,au c] (int (aL e c)):=
 qJ a b.bt _ _ _ b.ok.len (apc _) b.ok.sh d.sh d.bt h
def Ki(f:aa G){t:aM}{δ n:aw}{a:ai cl}(b:oY δ t)(c:aH n t a)(g:aL t a≠0)(h:sb δ t.length n<=NB)(i:ib δ t.length n<=NB):
  Spec zZq G 319 [aG t,au a] (au (jq t t.length a)):=by
 obtain⟨K,_,ι,s,d⟩:=b.ok.model t.length (apc _);refine xR ι s f b.bt _ _ _ b.ok.len (apc _) b.ok.sh d c.sh c.bt (λe=>g ?_) h i;unfold aL;rw[nU ι s _ _ b.ok.sh d c.sh,e,dH.iU]
def ph(d:oY g e)(δ:aH i e c)(h:sb g (y6 e) i<=NB):xf G 23 [aG e,au c] (.aP [int (aL e c),xc]):=
 Spec.r a func23 [2] [z3 (tt a d δ (apm (sV _ _ _) h)),z3 (mI a d δ h)]
def z6(n:oY g e)(d:aH i e c)(δ:i<=NB):xf G 51 [aG e,au c] (.aP [au (wH c),xc]):=
 Spec.r a func51 [2] [z3 (tt a n d δ),z3 (zf a n.ok d δ),z3 (sf a n.ok d.minus δ)]
def Ea(m:oY g e)(δ:aH i e c)(d:aH p e f)(h:i+p+1<=NB):xf G 316 [aG e,au c,au f] (.aP [au (oX c f),xc]):=
 Spec.r a func316 [3] [z3 (p9 a m δ d za za),z3 (BN a m.ok δ d za za),z3 (sf a m.ok (δ.plus d) h)]
def Q5(δ:oY g e)(m:aH i e c)(d:aH p e f)(h:i+p+1<=NB):xf G 312 [aG e,au c,au f] (.aP [au (g8 c f),xc]):=
 Spec.r a func312 [3] [z3 (p9 a δ m d za za),z3 (zf a δ.ok d za),z3 (BN a δ.ok m d.minus za za),z3 (sf a δ.ok (m.plus d.minus) h)]
def l6(d:oY g e)(m:aH i e c)(δ:aH p e f)(h:i+p+tb g (y6 e)<=NB):xf G 317 [aG e,au c,au f] (.aP [au (mulL e c f),xc]):=
 Spec.r a func317 [3] [z3 (p9 a d m δ za za),z3 (FK a d m δ h),z3 (sf a d.ok (m.times d δ) h)]
def Rb(d:oY g e)(m:aH i e c)(δ:aH p e f)(n:aL e f≠0)(j:sb g (y6 e) p<=NB)(h:i+ib g (y6 e) p+tb g (y6 e)<=NB):
  xf G 284 [aG e,au c,au f] (.aP [au (x_ e c f),xc]):=by
 have t:=δ.inv d n;have s1:=U4 g (y6 e) p;exact Spec.r a func284 [3] [z3 (p9 a d m δ za za),z3 (mI a d δ j),.eb 20 (GF n),z3 (Ki a d δ n j za),z3 (FK a d m t h),z3 (sf a d.ok (m.times d t) h)]
def D_(δ:oY g e)(m:aH i e c)(d:aH p e f)(h:sb g (y6 e) (i+p+1)<=NB):xf G 52 [aG e,au c,au f] (.aP [int (aL e (dV c (gD f))),xc]):=by have s1:=sV g (y6 e) (i+p+1);exact Spec.r a func52 [3] [z3 (p9 a δ m d za za),z3 (zf a δ.ok d za),z3 (BN a δ.ok m d.minus za za),z3 (mI a δ (m.plus d.minus) h)]
def dL(b:aa G)(h:gY KB j):xf G 86 [F j] (au (iq j)):=by have c:=ah4 b h.uV (apc _);have s:=ri b (c:=[j]) (g:=0) (.of rfl) za (λx d=>by rw[apg]at d;rw[d];exact h);exact Spec.r b func86 [1] [z3 c,z3 s]
end Tw
namespace fb
open zY dH
variable {c:ai cl}
def Sh.Cw(h:Sh 0 c):c=[]\/∃x,c=[x]:=by
 obtain h|⟨j,a,b⟩:=h
 exact y1 h;obtain rfl:j=0:=za
 exact y2 (ap_.1 b)
def TX(j:aw)(t u:aM):Prop:=∀i<j,y7 t i []=y7 u i []
def TX.mono{j k:aw}{t u:aM}(h:TX k t u)(a:j<=k):TX j t u:=λi b=>h i za
def TX.snoc(t:aM)(x:ai cl):TX (y6 t) (t++[x]) t:=λi a=>by simp only[bP,g6 a]
def aeA(t u:aM):∀(k:aw)(a b:ai cl),Sh 0 a->Sh 0 b->bH t k a b=bH u 0 a b
 |0,_,_,_,_=>rfl
 |k+1,a,b,e,d=>by
  simp only[bH];split;rfl;rename_i c;obtain rfl|⟨x,rfl⟩:=e.Cw
  exact api (by rw[jF];rfl) c;obtain rfl|⟨y,rfl⟩:=d.Cw
  exact api (by rw[jF,Bool.or_true]) c;rfl
def CD{t u:aM}:∀(k j:aw)(a b:ai cl),j<=k->TX j t u->eJ j t->Sh j a->Sh j b->bH t k a b=bH u j a b
 |k,0,a,b,_,_,_,o,l=>aeA t u k a b o l
 |0,j+1,_,_,h,_,_,_,_=>by omega
 |k+1,j+1,a,b,U,z,E,o,l=>by
  have G:eJ j t:=λi D=>E i za
  have c:=λx y M L=>CD (t:=t) (u:=u) k j x y za (z.mono za) G M L
  rw[bH,bH];split
  ·rfl
  ·rename_i f
   have key:∀p q:ai cl,Sh (j+1) p->Sh (j+1) q->p≠[]->y6 q<=y6 p->
     (if y6 p=1 then [y7 p 0 0*y7 q 0 0]else if y6 q<=y6 p/2 then fW (bH t k (p.take (y6 p/2)) q) (bH t k (p.drop (y6 p/2)) q) (y6 p/2)else
      fW (dV (bH t k (p.take (y6 p/2)) (q.take (y6 p/2))) (bH t k (bH t k (p.drop (y6 p/2)) (q.drop (y6 p/2))) (y7 t (kG (y6 p/2)) [])))
       (dV (bH t k (p.take (y6 p/2)) (q.drop (y6 p/2))) (bH t k (p.drop (y6 p/2)) (q.take (y6 p/2)))) (y6 p/2))=
     (if y6 p=1 then [y7 p 0 0*y7 q 0 0]else if y6 q<=y6 p/2 then fW (bH u j (p.take (y6 p/2)) q) (bH u j (p.drop (y6 p/2)) q) (y6 p/2)else
      fW (dV (bH u j (p.take (y6 p/2)) (q.take (y6 p/2))) (bH u j (bH u j (p.drop (y6 p/2)) (q.drop (y6 p/2))) (y7 u (kG (y6 p/2)) [])))
       (dV (bH u j (p.take (y6 p/2)) (q.drop (y6 p/2))) (bH u j (p.drop (y6 p/2)) (q.take (y6 p/2)))) (y6 p/2)):=by
    intro p q O C K hle;obtain rfl|⟨m,Q,I⟩:=O
    ·exact api rfl K
    ·cases m with
     |zero=>
      have F:y6 p=1:=by simpa using I
      simp only[nT F]
     |succ m=>
      have pm:=da m;have T:2^(m+1)=2^m+2^m:=by rw[apK];omega
      have P:y6 p/2=2^m:=by rw[I,fY]
      have R:¬y6 p=1:=za
      simp only[ks R,P,iP];have r:Sh j (p.take (2^m)):=y2 ⟨m,by omega,by rw[apr];omega⟩
      have g:Sh j (p.drop (2^m)):=y2 ⟨m,by omega,by rw[apu];omega⟩
      by_cases d:y6 q<=2^m
      ·simp only[nT d]
       have sq:Sh j q:=by
        obtain rfl|⟨i,hi1,A⟩:=C
        ·exact .nil _
        ·refine y2 ⟨i,?_,A⟩
         have:i<=m:=Nat.not_lt.1 λh=>by
          have:=arG (a:=2) za h
          omega
         omega
       rw[c _ _ r sq,c _ _ g sq]
      ·simp only[ks d]
       have N:y6 q=2^(m+1):=by
        obtain rfl|⟨i,hi1,A⟩:=C
        ·exact api (apJ _) d
        ·have F:m<i:=Nat.not_le.1 λh=>by
          have:=apI (n:=2) za h
          omega
         have S:i<=m+1:=Nat.not_lt.1 λh=>by
          have:=arG (a:=2) za h
          omega
         rw[A,show i=m+1 by omega]
       have B:Sh j (q.take (2^m)):=y2 ⟨m,by omega,by rw[apr];omega⟩
       have s:Sh j (q.drop (2^m)):=y2 ⟨m,by omega,by rw[apu];omega⟩
       have J:Sh j (y7 t m []):=y2 ⟨m,by omega,E m za⟩
       have sp:=(f_ j _ _ (λi D=>by rw[<-z i za];exact G i D) g s:Sh j (bH u j _ _)/\_).1
       rw[c _ _ r B,c _ _ g s,c _ _ r s,c _ _ g B,c _ _ sp J,z m za]
   simp only[nv,Bool.or_eq_false_iff]at f;have w:a≠[]:=λe=>by rw[e,jF]at f;cases f.1
   have v:b≠[]:=λe=>by rw[e,jF]at f;cases f.2
   by_cases H:y6 a<y6 b
   ·simp only[nT H]
    exact key b a l o v za
   ·simp only[ks H]
    exact key a b o l w za
def Py{t u:aM}{k j m:aw}{a:ai cl}(g:j<=k)(b:TX (j+1) t u)(n:eJ (j+1) t)(e:m<=j)(q:a.length=2^(m+1)):gC t k a=gC u j a:=by
 have d:eJ j t:=λi l=>n i za
 have f:eJ j u:=λi l=>by rw[<-b i za];exact d i l
 have r:2^(m+1)=2^m+2^m:=by rw[apK];omega
 have p:a.length/2=2^m:=by rw[q,fY]
 have h:Sh j (a.take (2^m)):=.inr ⟨m,e,by rw[apr];omega⟩
 have c:Sh j (a.drop (2^m)):=.inr ⟨m,e,by rw[apu];omega⟩
 have o:Sh j (t.getD m []):=.inr ⟨m,e,n m za⟩
 unfold gC;simp only[p,iP];rw[CD k j _ _ g (b.mono za) d h h,CD k j _ _ g (b.mono za) d c c,CD k j _ _ g (b.mono za) d (f_ j _ _ f c c).1 o,b m za]
def tJ(t:aM):∀k,iN t k []=0
 |0=>by unfold iN;decide
 |k+1=>by unfold iN;have:dN []=[]:=rfl;simp only[this,fl,gn]
def tK(x:cl):dN [x]=if x=0 then []else [x]:=by
 unfold dN;have a:kG ([x]:ai cl).length=0:=by rw[rj];decide
 rw[ape zb,a]
 simp only[GD];have:fp [x]=decide (x=0):=by simp[fp]
 rw[this];by_cases h:x=0<;>simp[h]
def alg:nV (0:cl)=0:=zv
def HQ{t u:aM}:∀(k j:aw)(a:ai cl),j<=k->TX j t u->eJ j t->Sh j a->iN t k a=iN u j a
 |0,0,_,_,_,_,_=>rfl
 |0,j+1,_,h,_,_,_=>by omega
 |k+1,0,a,_,_,_,l=>by
  obtain rfl|⟨x,rfl⟩:=l.Cw
  ·rw[tJ,tJ]
  ·unfold iN
   simp only[tK];by_cases h:x=0
   ·subst h;simp[alg]
   ·simp[h]
 |k+1,j+1,a,C,e,d,l=>by
  have A:eJ j t:=λi g=>d i za
  have n:=iF l;rw[iN,iN];generalize dN a=b at n;simp only;split
  ·rfl
  ·split
   ·rfl
   ·rename_i z y
    obtain rfl|⟨m,w,f⟩:=n
    ·exact api rfl z
    ·cases m with
     |zero=>exact api (by simpa using f) y
     |succ m=>
      have B:2^(m+1)=2^m+2^m:=by rw[apK];omega
      have v:y6 b/2=2^m:=by rw[f,fY]
      have p:Sh j (b.take (2^m)):=y2 ⟨m,by omega,by rw[apr];omega⟩
      have o:Sh j (b.drop (2^m)):=y2 ⟨m,by omega,by rw[apu];omega⟩
      have q:Sh j (y7 t m []):=y2 ⟨m,by omega,d m za⟩
      have r:Sh j (gC u j b):=wF (t:=u) (k:=j+1) (j:=m) (λi g=>by rw[<-e i g];exact d i g) za f j za za
      have c:=λx s=>HQ (t:=t) (u:=u) k j x za (e.mono za) A s
      simp only[v,iP];rw[c _ p,c _ o,c _ q,e m za,Py (u:=u) (j:=j) za e d za f,c _ r]
def Ds(t:aM):∀k,jq t k []=[0]
 |0=>by unfold jq;rw[show([]:ai cl).getD 0 0=0 from rfl,asW]
 |k+1=>by unfold jq;have e:dN []=[]:=rfl;have a:dV [] []=[]:=rfl;simp only[e,fl,uk,wG,tJ,gn,a];rw[ape za,Ds t k]
def Xq(t:aM)(k:aw)(h:dN c=[]):jq t (k+1) c=[0]:=by
 have a:dV [] []=[]:=rfl;have b:iN t k (gC t k [])=0:=by rw[wG,tJ]
 rw[jq,h];simp only[uk,List.drop_nil];rw[ape zb,aph b,a,Ds]
def G5(t:aM):∀(k:aw)(a:ai cl),eJ k t->Sh k a->Sh k (jq t k a)
 |0,a,_,_=>.of rfl
 |k+1,a,d,p=>by
  have g:eJ k t:=λi s=>d i za
  have f:=iF p;rw[jq];generalize dN a=b at f;simp only;split
  ·exact y2 ⟨0,by omega,rfl⟩
  ·rename_i r
   have sb:b=[]\/∃m,m<=k/\y6 b=2^(m+1):=by
    obtain rfl|⟨m,o,l⟩:=f
    ·exact y1 rfl
    ·cases m with
     |zero=>exact api (by simpa using l) r
     |succ m=>exact y2 ⟨m,by omega,l⟩
   split
   ·refine(G5 t k _ g ?_).mono za
    obtain rfl|⟨m,hm,c⟩:=sb
    ·exact y1 rfl
    ·have h:2^(m+1)=2^m+2^m:=by rw[apK];omega
     rw[c,fY];have e:Sh k (b.take (2^m)):=y2 ⟨m,hm,by rw[apr];omega⟩
     exact e.plus e
   ·rename_i q
    obtain rfl|⟨m,hm,c⟩:=sb
    ·exact api (by rw[wG,tJ]) q
    ·have h:2^(m+1)=2^m+2^m:=by rw[apK];omega
     have n:Sh k (gC t k b):=wF (t:=t) (k:=k+1) (j:=m) d za c k za za
     refine(f_ (k+1) _ _ d (y2 ⟨m+1,by omega,by rw[kD,c,fY,h]⟩) ((G5 t k _ g n).mono za)).1
def U3{t u:aM}:∀(k j:aw)(a:ai cl),j<=k->TX j t u->eJ j t->Sh j a->jq t k a=jq u j a
 |0,0,_,_,_,_,_=>rfl
 |0,j+1,_,h,_,_,_=>by omega
 |k+1,0,a,_,_,_,l=>by
  obtain rfl|⟨x,rfl⟩:=l.Cw
  ·rw[Ds,Ds]
  ·by_cases h:x=0
   ·subst h
    rw[Xq t k (by rw[tK,aph rfl])]
    show [0]=[(0:cl)⁻¹];rw[asW]
   ·show jq t (k+1) [x]=[x⁻¹]
    rw[jq,tK,ape h];rfl
 |k+1,j+1,a,A,c,e,l=>by
  have s:eJ j t:=λi d=>e i za
  have r:eJ (j+1) u:=λi d=>by rw[<-c i d];exact e i d
  have q:=iF l;rw[jq,jq];generalize dN a=b at q;simp only;split
  ·rfl
  ·rename_i z
   obtain rfl|⟨m,y,f⟩:=q
   ·have n:dV [] []=[]:=rfl
    simp only[wG,tJ,gn,uk,n,Ds]
   ·cases m with
    |zero=>exact api (by simpa using f) z
    |succ m=>
     have n:2^(m+1)=2^m+2^m:=by rw[apK];omega
     have w:y6 b/2=2^m:=by rw[f,fY]
     have o:Sh j (b.take (2^m)):=y2 ⟨m,by omega,by rw[apr];omega⟩
     have g:Sh j (gC u j b):=wF (t:=u) (k:=j+1) (j:=m) r za f j za za
     have p:=λx v=>U3 (t:=t) (u:=u) k j x za (c.mono za) s v
     rw[Py (u:=u) (j:=j) za c e za f,HQ k j _ za (c.mono za) s g]
     simp only[w];split
     ·exact p _ (o.plus o)
     ·rw[p _ g]
      refine CD (k+1) (j+1) _ _ A c e (y2 ⟨m+1,by omega,by rw[kD,n]⟩) ?_
      exact(G5 u j _ (λi d=>r i za) g).mono za
section
open Tw (aH oY tb)
variable {K:Type} [dH K] (ι:pD cl K) (s:aw->K) {t:aM}
def vl(t:aM)(a:ai cl):K:=lv ι s (y6 t) a
def Ht:vl ι s t []=0:=BV ι s _
def gV(q:cl):vl ι s t (iq q)=ι.φ q:=by unfold vl iq;rw[n9 ι s (Sh.single 0 q),EN]
def qD{a b:ai cl}(d:Sh (y6 t) a)(c:Sh (y6 t) b):vl ι s t (oX a b)=vl ι s t a+vl ι s t b:=by unfold vl oX;rw[n9 ι s (d.plus c),rD]
def dU{a b:ai cl}(d:Sh (y6 t) a)(c:Sh (y6 t) b):vl ι s t (g8 a b)=vl ι s t a-vl ι s t b:=by unfold vl g8;rw[n9 ι s (d.plus c.minus),rD,uq,sub_def']
def Hu{a:ai cl}(b:Sh (y6 t) a):vl ι s t (wH a)= -vl ι s t a:=by unfold vl wH;rw[n9 ι s b.minus,uq]
def cZ(e:eJ (y6 t) t)(f:Model ι s t (y6 t)){a b:ai cl}(d:Sh (y6 t) a)(c:Sh (y6 t) b):vl ι s t (mulL t a b)=vl ι s t a*vl ι s t b:=by have h:=gT ι s (y6 t) a b e f d c;unfold vl mulL;rw[n9 ι s h.1,h.2.1]
def ku(c:eJ (y6 t) t)(d:Model ι s t (y6 t)){a:ai cl}(b:Sh (y6 t) a):aL t a=sg (vl ι s t a):=nU ι s _ _ c d b
def lD(d:eJ (y6 t) t)(f:Model ι s t (y6 t)){a b:ai cl}(i:Sh (y6 t) a)(g:Sh (y6 t) b)(j:vl ι s t b≠0):vl ι s t (x_ t a b)*vl ι s t b=vl ι s t a:=by
 have c:=Dt ι s (y6 t) b d f g j;have h:=gT ι s (y6 t) a (jq t (y6 t) b) d f i c.1;have e:vl ι s t (x_ t a b)=vl ι s t a*lv ι s (y6 t) (jq t (y6 t) b):=by unfold vl x_;rw[n9 ι s h.1,h.2.1]
 rw[e,oP];have k:lv ι s (y6 t) (jq t (y6 t) b)*vl ι s t b=1:=c.2;rw[k,pU]
def aeq{x a:ai cl}(b:Sh (y6 t) a):vl ι s (t++[x]) a=vl ι s t a:=by unfold vl;rw[ap4,rj];exact nI ι s b.len za
end
open Tw (aH oY tb)
def Sh.add{k:aw}{a b:ai cl}(d:Sh k a)(c:Sh k b):Sh k (oX a b):=iF (d.plus c)
def Sh.sub{k:aw}{a b:ai cl}(d:Sh k a)(c:Sh k b):Sh k (g8 a b):=iF (d.plus c.minus)
def Sh.neg{k:aw}{a:ai cl}(b:Sh k a):Sh k (wH a):=iF b.minus
def Sh.mul{t:aM}(e:eJ (y6 t) t){a b:ai cl}(d:Sh (y6 t) a)(c:Sh (y6 t) b):Sh (y6 t) (mulL t a b):=iF (f_ _ _ _ e d c).1
def Sh.div{t:aM}(c:eJ (y6 t) t){a b:ai cl}(e:Sh (y6 t) a)(d:Sh (y6 t) b):Sh (y6 t) (x_ t a b):=iF (f_ _ _ _ c e (G5 t _ _ c d)).1
def Sh.l7(k:aw)(q:cl):Sh k (iq q):=(iF (Sh.single k q))
def GL{t:aM}:∀(k:aw)(a b:ai cl),Sh k a->Sh 0 b->∀i,(bH t k a b).getD i 0=y7 a i 0*y7 b 0 0
 |0,a,b,d,c,i=>by
  unfold bH;split
  ·rename_i h
   rw[ap6]at h;obtain h|h:=h
   ·rw[qz.1 h i,arZ];simp
   ·rw[qz.1 h 0,asX];simp
  ·cases i with
   |zero=>rfl
   |succ i=>
    rw[pX (l:=a) (i:=i+1) (by have:=d.len;simp at this;omega),arZ];rfl
 |k+1,a,b,d,c,i=>by
  rw[bH];split
  ·rename_i h
   rw[ap6]at h;obtain h|h:=h
   ·rw[qz.1 h i,arZ];simp
   ·rw[qz.1 h 0,asX];simp
  ·rename_i n
   have v:y6 b<=1:=by have:=c.len;simpa using this
   obtain rfl|⟨j,o,e⟩:=d
   ·exact api (by rw[jF];rfl) n
   ·have r:=da j
    have q:¬y6 a<y6 b:=za
    simp only[ks q];cases j with
    |zero=>
     have p:y6 a=1:=by simpa using e
     rw[aph p];cases i with
     |zero=>rfl
     |succ i=>rw[pX (l:=a) (i:=i+1) za,arZ];rfl
    |succ j=>
     have m:=da j;have u:2^(j+1)=2^j+2^j:=by rw[apK];omega
     rw[ape za,e,fY,aph za]
     have g:Sh k (a.take (2^j)):=y2 ⟨j,by omega,by rw[apr];omega⟩
     have f:Sh k (a.drop (2^j)):=y2 ⟨j,by omega,by rw[apu];omega⟩
     unfold fW;rw[I',fy,lh,lh,GL k _ _ g c,GL k _ _ f c];have t1:i<2^j->(a.take (2^j)).getD i 0=y7 a i 0:=λh=>by simp only[bP,gi,nT h]
     have t2:¬i<2^j->(a.drop (2^j)).getD (i-2^j) 0=y7 a i 0:=λh=>by simp only[bP,lf];rw[show 2^j+(i-2^j)=i by omega]
     split
     ·rename_i h;rw[t1 h]
     ·rename_i h
      rw[t2 h];split
      ·rfl
      ·rw[pX (l:=a) za,arZ]
def V8{t:aM}(k:aw){a b:ai cl}(d:Sh k a)(c:Sh 0 b)(i:aw):(bH t k b a).getD i 0=y7 a i 0*y7 b 0 0:=by
 rw[<-GL (t:=t) k a b d c i];have o:y6 b<=1:=by have:=c.len;simpa using this
 cases k with
 |zero=>
  unfold bH;rw[Bool.or_comm,Rat.mul_comm]
 |succ k=>
  rw[bH,bH,Bool.or_comm];split
  ·rfl
  ·rename_i f
   have g:1<=y6 a:=by
    obtain rfl|⟨j,_,n⟩:=d
    ·exact api (by rw[jF];rfl) f
    ·have:=da j;omega
   have h:¬y6 a<y6 b:=za
   simp only[ks h];by_cases e:y6 b<y6 a
   ·simp only[nT e]
   ·have m:y6 a=1:=za
    have l:y6 b=1:=za
    simp only[ks e,nT m,nT l,Rat.mul_comm]
def iC(r:aw)(q:cl):Prop:=q.num.natAbs<=2^r/\q.den<=2^r
def iC.mono{r m:aw}{q:cl}(h:iC r q)(a:r<=m):iC m q:=⟨apm h.1 (iZ a),apm h.2 (iZ a)⟩
def Ms.rat{t:aM}{k D B:aw}{a b:ai cl}{q:cl}(h:Ms D B a)(e:Sh k a)(d:Sh 0 b)(c:y7 b 0 0=q):Ms (D*q.den) (B*q.num.natAbs) (bH t k a b)/\Ms (D*q.den) (B*q.num.natAbs) (bH t k b a):=by
 have key:∀l:ai cl,(∀i,y7 l i 0=y7 a i 0*q)->Ms (D*q.den) (B*q.num.natAbs) l:=λl f i=>by
  obtain⟨z,j,g⟩:=h i;refine⟨z*q.num,?_,?_⟩;rw[f];have:=Df q
  push_cast
  rw[<-j,<-this];grind;rw[ara];exact apB _ g
 exact⟨key _ λi=>by rw[GL k a b e d,c],key _ λi=>by rw[V8 k e d,c]⟩
structure gP(n:aw)(t:aM)(l:ai (ai cl)):Prop where
 sh:∀a∈l,Sh t.length a
 ms:∃D B,0<D/\D<=2^n/\B<=2^n/\∀a∈l,Ms D B a
def gP.num{n:aw}{t:aM}{l:ai (ai cl)}(h:gP n t l){a:ai cl}(b:a∈l):aH n t a:=by obtain⟨D,B,f,e,d,c⟩:=h.ms;exact⟨h.sh a b,D,B,f,e,d,c a b⟩
def gP.sub{n:aw}{t:aM}{l m:ai (ai cl)}(h:gP n t l)(hs:∀a∈m,a∈l):gP n t m:=by obtain⟨D,B,f,e,d,c⟩:=h.ms;exact⟨λa b=>h.sh a (hs a b),D,B,f,e,d,λa b=>c a (hs a b)⟩
def gP.mono{m n:aw}{t:aM}{l:ai (ai cl)}(h:gP m t l)(a:m<=n):gP n t l:=by obtain⟨D,B,e,d,c,b⟩:=h.ms;exact⟨h.sh,D,B,e,apm d (iZ a),apm c (iZ a),b⟩
def gP.one{n:aw}{t:aM}{a:ai cl}(h:aH n t a):gP n t [a]:=by obtain⟨D,B,g,f,e,d⟩:=h.bt;exact⟨λb c=>by rw[apg]at c;rw[c];exact h.sh,D,B,g,f,e,λb c=>by rw[apg]at c;rw[c];exact d⟩
def mul_pow{a b m n:aw}(d:a<=2^m)(c:b<=2^n):a*b<=2^(m+n):=by rw[ap7];exact apR d c
def gP.both{m n:aw}{t:aM}{l l':ai (ai cl)}(h:gP m t l)(d:gP n t l'):gP (m+n) t (l++l'):=by
 obtain⟨D,B,i,c,g,f⟩:=h.ms;obtain⟨E,C,o,e,k,j⟩:=d.ms;refine⟨λa b=>(aps.1 b).elim (h.sh a) (d.sh a),D*E,max (B*E) (C*D),aqm i o,mul_pow c e,Nat.max_le.2 ⟨mul_pow g e,by rw[aqF];exact mul_pow k c⟩,λa b=>?_⟩;obtain b|b:=aps.1 b
 exact((f a b).scale E).mono (arP _ _);have:=(j a b).scale D;rw[apC E]at this;exact this.mono (arI _ _)
def gP.aik{n:aw}{t:aM}{l:ai (ai cl)}(h:gP n t l){m:ai (ai cl)}(j:∀a∈m,∃b c,b∈l/\c∈l/\(a=oX b c\/a=g8 b c)):gP (n+1) t m:=by
 obtain⟨D,B,k,p,o,g⟩:=h.ms;have e:2^(n+1)=2*2^n:=by rw[apK];omega
 refine⟨λa i=>?_,D,B+B,k,by omega,by omega,λa i=>?_⟩
 ·obtain⟨b,c,f,d,rfl|rfl⟩:=j a i
  ·exact(h.sh b f).add (h.sh c d)
  ·exact(h.sh b f).sub (h.sh c d)
 ·obtain⟨b,c,f,d,rfl|rfl⟩:=j a i
  ·exact((g b f).plus (g c d)).short ((h.sh b f).plus (h.sh c d))
  ·exact((g b f).plus (g c d).minus).short ((h.sh b f).plus (h.sh c d).minus)
def gP.Ic{m n δ:aw}{t:aM}{l l':ai (ai cl)}(f:oY δ t)(h:gP m t l)(g:gP n t l'){p:ai (ai cl)}(j:∀a∈p,∃b c,b∈l/\c∈l'/\(a=mulL t b c\/a=mulL t c b)):gP (m+n+tb δ (y6 t)) t p:=by obtain⟨D,B,u,r,q,k⟩:=h.ms;obtain⟨E,C,x,w,v,o⟩:=g.ms;obtain⟨Δ,Β,d1,d2,d3,d4⟩:=f.bt;have z:Δ^jk (y6 t)<=2^(jk (y6 t)*δ):=C4 d2;have y:=Hf d2 d3 (y6 t);refine⟨λa i=>?_,D*E*Δ^jk (y6 t),B*C*cc Δ Β (y6 t),aqm (aqm u x) (aqC d1),?_,?_,λa i=>?_⟩;obtain⟨b,c,e,d,rfl|rfl⟩:=j a i;exact(h.sh b e).mul f.ok.sh (g.sh c d);exact(g.sh c d).mul f.ok.sh (h.sh b e);refine apm (mul_pow (mul_pow r w) z) (iZ (by unfold tb;omega));refine apm (mul_pow (mul_pow q v) y) (iZ (by unfold tb;omega));obtain⟨b,c,e,d,rfl|rfl⟩:=j a i;exact(mU d1 d4 _ _ _ D E B C (k b e) (o c d)).short (f_ _ _ _ f.ok.sh (h.sh b e) (g.sh c d)).1;have:=(mU d1 d4 (y6 t) _ _ E D C B (o c d) (k b e)).short (f_ _ _ _ f.ok.sh (g.sh c d) (h.sh b e)).1;rw[apC E,apC C]at this;exact this
def gP.alF{n r:aw}{t:aM}{l:ai (ai cl)}(d:eJ (y6 t) t)(h:gP n t l){x y:cl}(f:iC r x)(e:iC r y){p:ai (ai cl)}
  (j:∀a∈p,∃b q,b∈l/\(q=x\/q=y)/\(a=mulL t b (iq q)\/a=mulL t (iq q) b)):gP (n+r+r) t p:=by
 obtain⟨D,B,w,v,u,o⟩:=h.ms;have i:∀q:cl,Sh 0 (iq q)/\(iq q).getD 0 0=q:=λq=>⟨Sh.l7 0 q,by unfold iq;rw[kU (Sh.single 0 q)];rfl⟩
 refine⟨λa g=>?_,D*(x.den*y.den),B*(2^r*2^r),aqm w (aqm x.den_pos y.den_pos),?_,?_,λa g=>?_⟩;obtain⟨b,q,c,_,rfl|rfl⟩:=j a g;exact(h.sh b c).mul d (Sh.l7 _ q);exact(Sh.l7 _ q).mul d (h.sh b c);rw[arf];exact mul_pow v (mul_pow f.2 e.2);rw[arf];exact mul_pow u (mul_pow (apc _) (apc _));obtain⟨b,q,c,k,z⟩:=j a g;have m:=(o b c).rat (t:=t) (h.sh b c) (i q).1 (i q).2;have key:Ms (D*q.den) (B*q.num.natAbs) a:=by
  obtain rfl|rfl:=z
  exact m.1.short (f_ _ _ _ d (h.sh b c) (Sh.l7 _ q)).1;exact m.2.short (f_ _ _ _ d (Sh.l7 _ q) (h.sh b c)).1
 obtain rfl|rfl:=k
 have:=key.scale y.den;rw[apx,apx]at this;exact this.mono (apT _ (apR f.1 e.2));have:=key.scale x.den;rw[apx,apx,apC q.den]at this;exact this.mono (apT _ (apR e.1 f.2))
end fb
open Go Go.RowKit Go.Proofs
def az{P:cp}{G:bn->Prop}(l:ai c7)(ro:c7->ai aw:=λ_=>[]):sC P G where
 orc _ _:=bk
 ok _ _ _ h:=by cases h
 ro:=ro
 stop f:=l.contains f
 afD _ _:=bk
 okF _ _ _ h:=by cases h
 afC _ _ _ _:=bk
 okI _ _ _ _ _ _ _ h:=by cases h
 fr:=aj
variable {S U X:ai D} {Z:ai aw} {o:Type}
def kh.shrink{P:cp}{G:bn->Prop}{fn:kf}{d:D}{blks':ai (bF (ai D))}(h:kh P G fn 1 S [a6 U] [] d blks' Z)
  (n:y7 blks' 0 bk=a6 X) (R:dX X=aj) (J:d.refs=[]):kh P G fn 1 S [a6 U] [] d [a6 X] []:=by
 intro f I c w β args vals E C B A z y Q s L r;refine(h f I c w β args vals E C B A z y Q s L r).mono λe T M=>?_
 obtain⟨v,q,g,rfl,a,H,_⟩:=M;have k1:∀k cs',([a6 X]:ai (bF (ai D))).getD k bk=a6 cs'->k=0/\cs'=X:=λk cs' e=>by
  cases k with
  |zero=>exact⟨rfl,(ap0 e).symm⟩
  |succ k=>simp at e
 refine⟨v,q,g,rfl,⟨a.defers,a.size,λt=>.c (.p (.any _)),λt k b=>by simp[D.refs]at b,λk cs' b=>?_,λk cs' b x F V o=>?_,λk i b j _=>?_,a.F,a.uZ,a.oH,⟨a.below.uX,a.below.nc,a.below.sz⟩,a.gh,λp u k b=>?_,⟨a.kp.obj,a.kp.x,a.kp.lt,λk b i j=>?_⟩⟩,H,λk b=>by rw[J]at b;cases b⟩;obtain⟨rfl,rfl⟩:=k1 k cs' b;exact a.blk 0 cs' n;obtain⟨rfl,rfl⟩:=k1 k cs' b;rw[je R x F]at o;cases o;obtain⟨m,l⟩:=apn.1 b;obtain⟨O,N⟩:=apn.1 j;rw[(k1 k m l).1,(k1 i O N).1];obtain⟨K,ns'⟩:=a.i_ p u k b;have:k=0:=za
 subst this;exact⟨K,rfl⟩;obtain⟨m,l⟩:=apn.1 j;obtain⟨rfl,rfl⟩:=k1 i m l;exact a.kp.off k b 0 (by show(y7 blks' 0 bk).isSome=bj;rw[n];rfl)
abbrev iy(P:cp)(G:bn->Prop)(fn:kf)(args cs:ai D)(r:D)(cs':ai D):Prop:=kh P G fn 1 args [a6 cs] [] r [a6 cs'] []
def runM(P:cp){G:bn->Prop}(ro:ai aw)(m:aw)(fn:kf)(args cs:ai D)(a:ai (Item P G)):bF (D×ai D×ai (cY×cY)):=
 match wK P (mX P m) 1 ro fn args [a6 cs] [] a with
 |some (d,blks',_,_,eqs)=>match y7 blks' 0 bk with
  |some cs'=>match d.refs.isEmpty&& !dX cs' with
   |true=>a6 (d,cs',eqs)
   |false=>bk
  |none=>bk
 |none=>bk
def afz{α:Type}(f:ai (cY×cY)->α)(o:bF (D×ai D×ai (cY×cY))):bF (D×ai D×α):=o.map λo=>(o.1,o.2.1,f o.2.2)
def iy.bK{P:cp}{G:bn->Prop}(p:aa G)(A:sC P G)(fn:kf){ro:ai aw}{m:aw}{r:D}(b:ai (Item P G))
  (h:afz yV (runM P ro m fn S U (.auto A::b))=a6 (r,X,said b):=by kernel_rfl) (f:afz IP (runM P ro m fn S U (.auto A::b))=afz BJ (runM P ro m fn S U (.auto A::b)):=by kernel_rfl):iy P G fn S U r X:=by
 unfold afz at h f;cases a:runM P ro m fn S U (.auto A::b)with
 |none=>rw[a]at h;cases h
 |some o=>
  obtain⟨d,u,c⟩:=o;rw[a]at h f;simp only[dm,eE,gu,true_and]at h f;obtain⟨rfl,rfl,h⟩:=h;unfold runM at a;split at a;rename_i d blks' ns' tr' c j;split at a;rename_i v q;split at a;rename_i g;simp only[dT,na,fV]at g;cases a;exact(n_ (λro t k s b e i tr' c l n=>iK p m ro t k s b e i tr' c l n) _ _ _ _ _ _ _ _ _ _ _ _ j (w8 h f)).shrink q g.2 g.1;cases a;cases a;cases a
def adV{p:o->Prop}:∀x∈([]:ai o),p x:=λ_ h=>by cases h
def zU{p:o->Prop}{a:o}{l:ai o}(h:p a)(t:∀x∈l,p x):∀x∈a::l,p x:=λx b=>(apo.1 b).elim (λe=>e▸h) (t x)
namespace Tw
open fb
variable {G:bn->Prop}
def ad8(l:ai (ai cl)):D:=yI (y6 l) aj (l.map au)
def UC(t:aM)(l:ai (ai cl))(i:aw):St:=lay 31 [(2,.aJ [yI (y6 t) aj (t.map au)]),(15,ad8 l),(16,nat (y6 l)),(17,nat i)] []
variable (a:aa G) {e:aM} {g i p:aw} {q:ai (ai cl)}
def aaP(h:oY g e)(n:∀d∈q,aH i e d)(f:i<=NB)(j:y6 q<=60)(b:p<y6 q):
  xo G (ae f280 0) (UC e q p) y3 (UC e q (p+1)):=by
 have δ:=xy b;have c:=z6 a h (n (y7 q p []) (by rw[apf,apj b];exact apD b)) f;exact af.r a [.eb 18 (ah b),yu (pK b),yu (pL b),.eq 20 δ,z3 c,.eq 30 (bL (ax b za))]
def Pf(c:aa G){t:aM}{δ n:aw}(b:oY δ t){l:ai (ai cl)}(g:∀a∈l,aH n t a)(f:n<=NB)(d:l.length<=60):
  Spec zZq G 280 [aG t,ad8 l] (.lit .nilIface):=by
 have e:=aI.z zZq G (ae f280 0) (.exit 0) (UC t l l.length) (λi=>UC t l i) l.length
  (λi h=>aaP c b g f d h) (af.r c [.eb 18 (av (apc l.length))])
 exact Spec.r c func280 [2] [.call (uR c b.ok b.bt b.sz),.code e]
def MB:aw:=17592186044415
def aea:MB=17592186044415:=rfl
def JU:MB+MB+MB+MB<=NB:=by rw[aea,ad_];omega
abbrev Ok(t:aM)(a:ai cl):Prop:=aH MB t a
structure dn(δ:aw)(t:aM):Prop where
 b:oY δ t
 tb:tb δ t.length<=MB
def Ck(δ:aw)(t:aM)(a:ai cl):Prop:=∃n,aH n t a/\sb δ (y6 t) n<=NB
def TW(δ:aw)(t:aM)(a:ai cl):Prop:=∃n,aH n t a/\sb δ (y6 t) n<=NB/\ib δ (y6 t) n<=MB
variable {t:aM} {δ:aw}
def DW(d:dn δ t)(c:∀e∈q,Ok t e)(b:y6 q<=60):xf G 280 [aG t,ad8 q] xc:=
 Pf a d.b c (by have:=JU;omega) b
def vA(b:dn δ t):xf G 50 [aG t] xc:=uR a b.b.ok b.b.bt b.b.sz
variable {c f:ai cl}
def kP(e:dn δ t)(d:Ok t c)(b:Ok t f):xf G 316 [aG t,au c,au f] (.aP [au (oX c f),xc]):=
 Ea a e.b d b (by have:=JU;have:=aea;omega)
def b8(e:dn δ t)(d:Ok t c)(b:Ok t f):xf G 312 [aG t,au c,au f] (.aP [au (g8 c f),xc]):=
 Q5 a e.b d b (by have:=JU;have:=aea;omega)
def cP(b:dn δ t)(e:Ok t c)(d:Ok t f):xf G 317 [aG t,au c,au f] (.aP [au (mulL t c f),xc]):=
 l6 a b.b e d (by have:=JU;have:=b.tb;omega)
def gZ(d:dn δ t)(b:Ok t c):xf G 51 [aG t,au c] (.aP [au (wH c),xc]):=
 z6 a d.b b (by have:=JU;omega)
def akL(d:dn δ t)(h:Ck δ t c):xf G 23 [aG t,au c] (.aP [int (aL t c),xc]):=by obtain⟨n,e,b⟩:=h;exact ph a d.b e b
def vz(h:dn δ t)(g:Ok t c)(b:TW δ t f)(i:aL t f≠0):xf G 284 [aG t,au c,au f] (.aP [au (x_ t c f),xc]):=by obtain⟨n,e,d,j⟩:=b;exact Rb a h.b g e i d (by have:=JU;have:=h.tb;omega)
abbrev Pt:=ai cl×ai cl
def mg(p:Pt):D:=y4 [au p.1,au p.2]
def Rh(p:Pt):ai D:=[au p.1,au p.2]
def jD(t:aM)(p:Pt):Prop:=Ok t p.1/\Ok t p.2
variable {l m:Pt}
def QQ(b:aa G)(c:dn δ t)(a:jD t l):xf G 219 [aG t,yI 1 aj (Rh l)] xc:=
 Spec.y b (az [280]) func219 [] [z3 (DW b c (q:=[l.1,l.2]) (zU a.1 (zU a.2 adV)) zb)]
def r_(c:aa G)(d:dn δ t)(b:jD t l)(a:jD t m):xf G 219 [aG t,yI 2 aj (Rh l++Rh m)] xc:=
 Spec.y c (az [280]) func219 [] [z3 (DW c d (q:=[l.1,l.2,m.1,m.2]) (zU b.1 (zU b.2 (zU a.1 (zU a.2 adV)))) zb)]
def kO(c:dn δ t)(b:jD t l):xf G 272 [aG t,mg l] xc:=
 Spec.y a (az [219]) func272 [] [z3 (QQ a c b)]
def A5(p q:Pt):Pt:=(oX p.1 q.1,oX p.2 q.2)
def kv(p q:Pt):Pt:=(g8 p.1 q.1,g8 p.2 q.2)
def vP(t:aM)(p q:Pt):ai cl:=oX (mulL t p.1 q.1) (mulL t p.2 q.2)
def qZ(t:aM)(p q:Pt):ai cl:=g8 (mulL t p.1 q.2) (mulL t p.2 q.1)
def yQ(t:aM)(k:ai cl)(p:Pt):Pt:=(mulL t k p.1,mulL t k p.2)
def u5(t:aM)(c s:ai cl)(p:Pt):Pt:=(g8 (mulL t c p.1) (mulL t s p.2),oX (mulL t s p.1) (mulL t c p.2))
def yC(x y:cl):Pt:=(iq x,iq y)
def Ka:ai c7:=[316,312,317,284,23,52,51,50,86,280,219]
def agY(d:dn δ t)(c:jD t l)(b:jD t m):xf G 287 [aG t,mg l,mg m] (.aP [mg (A5 l m),xc]):=
 Spec.y a (az Ka) func287 [] [z3 (r_ a d c b),z3 (kP a d c.1 b.1),z3 (kP a d c.2 b.2)]
def vv(d:dn δ t)(c:jD t l)(b:jD t m):xf G 211 [aG t,mg l,mg m] (.aP [mg (kv l m),xc]):=
 Spec.y a (az Ka) func211 [] [z3 (r_ a d c b),z3 (b8 a d c.1 b.1),z3 (b8 a d c.2 b.2)]
def agX(b:dn δ t)(d:jD t l)(c:jD t m)(f:Ok t (mulL t l.1 m.1))(e:Ok t (mulL t l.2 m.2)):xf G 158 [aG t,mg l,mg m] (.aP [au (vP t l m),xc]):=
 Spec.y a (az Ka) func158 [] [z3 (r_ a b d c),z3 (cP a b d.1 c.1),z3 (cP a b d.2 c.2),z3 (kP a b f e)]
def YI(b:dn δ t)(d:jD t l)(c:jD t m)(f:Ok t (mulL t l.1 m.2))(e:Ok t (mulL t l.2 m.1)):xf G 252 [aG t,mg l,mg m] (.aP [au (qZ t l m),xc]):=
 Spec.y a (az Ka) func252 [] [z3 (r_ a b d c),z3 (cP a b d.1 c.2),z3 (cP a b d.2 c.1),z3 (b8 a b f e)]
def Mf(b:aa G)(d:dn δ t)(p:Ok t c)(a:jD t l):xf G 210 [aG t,au c,mg l] (.aP [mg (yQ t c l),xc]):=
 Spec.y b (az Ka) func210 [] [z3 (DW b d (q:=[c,l.1,l.2]) (zU p (zU a.1 (zU a.2 adV))) zb),z3 (cP b d p a.1),z3 (cP b d p a.2)]
def ad7(a:aa G)(b:dn δ t)(e:Ok t c)(hs:Ok t f)(d:jD t l)(i:Ok t (mulL t c l.1))(h:Ok t (mulL t f l.2))(g:Ok t (mulL t f l.1))(p:Ok t (mulL t c l.2)):
  xf G 253 [aG t,au c,au f,mg l] (.aP [mg (u5 t c f l),xc]):=
 Spec.y a (az Ka) func253 [] [z3 (DW a b (q:=[c,f,l.1,l.2]) (zU e (zU hs (zU d.1 (zU d.2 adV)))) zb),
  z3 (cP a b e d.1),z3 (cP a b hs d.2),z3 (b8 a b i h),z3 (cP a b hs d.1),z3 (cP a b e d.2),z3 (kP a b g p)]
def w_(b:dn δ t)(e:jD t l)(d:jD t m)(c:jD t (kv m l))(g:Ok t (mulL t (kv m l).1 (kv m l).1))(f:Ok t (mulL t (kv m l).2 (kv m l).2)):
  xf G 314 [aG t,mg l,mg m] (.aP [au (vP t (kv m l) (kv m l)),xc]):=
 Spec.y a (az Ka) func314 [] [z3 (r_ a b e d),z3 (b8 a b d.1 e.1),z3 (b8 a b d.2 e.2),z3 (cP a b c.1 c.1),z3 (cP a b c.2 c.2),z3 (kP a b g f)]
def Oh{x y:cl}(c:gY KB x)(b:gY KB y):xf G 194 [F x,F y] (mg (yC x y)):=
 Spec.y a (az Ka) func194 [] [z3 (dL a c),z3 (dL a b)]
structure Pl where
 c:ai cl
 s:ai cl
 x:ai cl
 y:ai cl
def Hg(b:Pl):ai D:=[au b.c,au b.s,au b.x,au b.y]
def PlD(b:Pl):D:=y4 (Hg b)
def J4(t:aM)(b:Pl)(x y:cl):Pt:=A5 (u5 t b.c b.s (yC x y)) (b.x,b.y)
structure akQ(t:aM)(b:Pl):Prop where
 c:Ok t b.c
 s:Ok t b.s
 x:Ok t b.x
 y:Ok t b.y
variable {Q:Pl}
def akP(c:aa G)(d:dn δ t)(a:akQ t Q){x y:cl}(f:gY KB x)(e:gY KB y)
  (h:xf G 253 [aG t,au Q.c,au Q.s,mg (yC x y)] (.aP [mg (u5 t Q.c Q.s (yC x y)),xc])) (g:jD t (u5 t Q.c Q.s (yC x y))):
  xf G 218 [aG t,PlD Q,F x,F y] (.aP [mg (J4 t Q x y),xc]):=
 Spec.y c (az ([194,253,287]++Ka)) func218 [] [z3 (DW c d (q:=[Q.c,Q.s,Q.x,Q.y]) (zU a.c (zU a.s (zU a.x (zU a.y adV)))) zb),z3 (Oh c f e),z3 h,z3 (agY c d (m:=(Q.x,Q.y)) g ⟨a.x,a.y⟩)]
def z8:MB<=NB:=by have:=JU;omega
def Ok.szl(h:Ok t c):yH KB c:=h.bt.fit z8
def Ok.len(b:dn δ t){a:ai cl}(h:Ok t a):y6 a<=1073741824:=apm (aH.len h b.b.ok) za
def DQ(b:dn δ t)(h:Ok t c):xf G 174 [au c] (au c):=jT a (h.len b) h.szl (apc _)
def ahl(a:aa G):xf G 279 [nat 0] (au (cg 0)):=
 Spec.y a (az [28]) func279 [] [z3 (dM a (i:=1) za za)]
def ahk(a:aa G):xf G 279 [nat 1] (au (cg 1)):=
 Spec.y a (az [28]) func279 [] [z3 (dM a (i:=1) za za)]
def ahj(a:aa G):xf G 279 [nat 2] (au (cg 2)):=
 Spec.y a (az [28]) func279 [] [z3 (dM a (i:=1) za za)]
def ahi(a:aa G):xf G 279 [nat 3] (au (cg 3)):=
 Spec.y a (az [28]) func279 [] [z3 (dM a (i:=1) za za)]
def Gx:ai c7:=[56,174,176,65,279,278]
def AM(b:dn δ t)(h:Ok t c):xf G 56 [aG t,yI 1 aj [au c]] xc:=tt a b.b h z8
def Mm(c:ai cl){n:aw}(b:n<=1073741824):xf G 176 [au c,nat n] (au (aZ c n)):=Ek a c b
def ahC(a:aa G)(d:dn δ [])(b:Ok [] c):xf G 278 [aG [],au c] (.aP [au (aZ c (2^0)),xc]):=
 Spec.y a (az Gx) func278 [] [z3 (AM a d b),z3 (DQ a d b),z3 (Mm a c (n:=1) za)]
def ahB(a:aa G)(e:dn δ [c])(d:Ok [c] f):xf G 278 [aG [c],au f] (.aP [au (aZ f (2^1)),xc]):=
 Spec.y a (az Gx) func278 [] [z3 (AM a e d),z3 (DQ a e d),z3 (Mm a f (n:=2) za)]
variable {C:cA} {I J:ai cl} {M j k:cl}
def ahA(a:aa G)(d:dn δ [c,f])(e:Ok [c,f] I):xf G 278 [aG [c,f],au I] (.aP [au (aZ I (2^2)),xc]):=
 Spec.y a (az Gx) func278 [] [z3 (AM a d e),z3 (DQ a d e),z3 (Mm a I (n:=4) za)]
def ahz(a:aa G)(g:dn δ [f,c,I])(d:Ok [f,c,I] J):xf G 278 [aG [f,c,I],au J] (.aP [au (aZ J (2^3)),xc]):=
 Spec.y a (az Gx) func278 [] [z3 (AM a g d),z3 (DQ a g d),z3 (Mm a J (n:=8) za)]
def aoz(d:dn δ [])(g:δ<=NB)(f:Ok [] c){n:aw}(hw:aH n [] (aZ c (2^0)))(hs:sb δ 0 n<=NB)(h:0<=aL [] (aZ c (2^0))):
  xf G 207 [aG [],au c] (.aP [aG ([]++[aZ c (2^0)]),au (cg 0),xc]):=by
 have sg:=mI a d.b hw hs;have i:=(jG [] 0 (aZ c (2^0))).2;have e:aL [] (aZ c (2^0))=iN [] 0 (aZ c (2^0)):=rfl;have b:aL [] (aZ c (2^0))=0\/aL [] (aZ c (2^0))=1:=za
 obtain b|b:=b<;>rw[b]at sg;exact Spec.y a (az Gx) func207 [1009] [z3 (ahC a d f),z3 sg,z3 (ahl a)];exact Spec.y a (az Gx) func207 [1009] [z3 (ahC a d f),z3 sg,z3 (ahl a)]
def aoy(b:aa G)(d:dn δ [c])(h:δ<=NB)(g:Ok [c] f){n:aw}(hw:aH n [c] (aZ f (2^1)))(hs:sb δ 1 n<=NB)(i:0<=aL [c] (aZ f (2^1))):
  xf G 207 [aG [c],au f] (.aP [aG ([c]++[aZ f (2^1)]),au (cg 1),xc]):=by
 have c0:=jT b (l:=c) (k:=KB) (by have:=d.b.ok.sh 0 zb;have e:([c]:aM).getD 0 []=c:=rfl;rw[e]at this;rw[this];decide) (by have:=(d.b.bt.root 0).fit h;exact this) (apc _);have sg:=mI b d.b hw hs;have j:=(jG [c] 1 (aZ f (2^1))).2;have e:aL [c] (aZ f (2^1))=iN [c] 1 (aZ f (2^1)):=rfl;have a:aL [c] (aZ f (2^1))=0\/aL [c] (aZ f (2^1))=1:=za
 obtain a|a:=a<;>rw[a]at sg;exact Spec.y b (az Gx) func207 [1009] [z3 (ahB b d g),z3 sg,z3 c0,z3 (ahk b)];exact Spec.y b (az Gx) func207 [1009] [z3 (ahB b d g),z3 sg,z3 c0,z3 (ahk b)]
def aox(d:aa G)(a:dn δ [c,f])(h:δ<=NB)(i:Ok [c,f] I){n:aw}(hw:aH n [c,f] (aZ I (2^2)))(hs:sb δ 2 n<=NB)(m:0<=aL [c,f] (aZ I (2^2))):
  xf G 207 [aG [c,f],au I] (.aP [aG ([c,f]++[aZ I (2^2)]),au (cg 2),xc]):=by
 have c0:=jT d (l:=c) (k:=KB) (by have:=a.b.ok.sh 0 zb;have e:([c,f]:aM).getD 0 []=c:=rfl;rw[e]at this;rw[this];decide) (by have:=(a.b.bt.root 0).fit h;exact this) (apc _);have j:=jT d (l:=f) (k:=KB) (by have:=a.b.ok.sh 1 zb;have e:([c,f]:aM).getD 1 []=f:=rfl;rw[e]at this;rw[this];decide) (by have:=(a.b.bt.root 1).fit h;exact this) (apc _);have sg:=mI d a.b hw hs;have o:=(jG [c,f] 2 (aZ I (2^2))).2;have e:aL [c,f] (aZ I (2^2))=iN [c,f] 2 (aZ I (2^2)):=rfl;have g:aL [c,f] (aZ I (2^2))=0\/aL [c,f] (aZ I (2^2))=1:=za
 obtain g|g:=g<;>rw[g]at sg;exact Spec.y d (az Gx) func207 [1009] [z3 (ahA d a i),z3 sg,z3 c0,z3 j,z3 (ahj d)];exact Spec.y d (az Gx) func207 [1009] [z3 (ahA d a i),z3 sg,z3 c0,z3 j,z3 (ahj d)]
def Qw(d:aa G)(g:dn δ [c,f,I])(i:δ<=NB)(j:Ok [c,f,I] J){n:aw}(hw:aH n [c,f,I] (aZ J (2^3)))(hs:sb δ 3 n<=NB)(p:0<=aL [c,f,I] (aZ J (2^3))):
  xf G 207 [aG [c,f,I],au J] (.aP [aG ([c,f,I]++[aZ J (2^3)]),au (cg 3),xc]):=by
 have c0:=jT d (l:=c) (k:=KB) (by have:=g.b.ok.sh 0 zb;have e:([c,f,I]:aM).getD 0 []=c:=rfl;rw[e]at this;rw[this];decide) (by have:=(g.b.bt.root 0).fit i;exact this) (apc _);have o:=jT d (l:=f) (k:=KB) (by have:=g.b.ok.sh 1 zb;have e:([c,f,I]:aM).getD 1 []=f:=rfl;rw[e]at this;rw[this];decide) (by have:=(g.b.bt.root 1).fit i;exact this) (apc _);have m:=jT d (l:=I) (k:=KB) (by have:=g.b.ok.sh 2 zb;have e:([c,f,I]:aM).getD 2 []=I:=rfl;rw[e]at this;rw[this];decide) (by have:=(g.b.bt.root 2).fit i;exact this) (apc _);have sg:=mI d g.b hw hs;have q:=(jG [c,f,I] 3 (aZ J (2^3))).2;have e:aL [c,f,I] (aZ J (2^3))=iN [c,f,I] 3 (aZ J (2^3)):=rfl;have h:aL [c,f,I] (aZ J (2^3))=0\/aL [c,f,I] (aZ J (2^3))=1:=za
 obtain h|h:=h<;>rw[h]at sg;exact Spec.y d (az Gx) func207 [1009] [z3 (ahz d g j),z3 sg,z3 c0,z3 o,z3 m,z3 (ahi d)];exact Spec.y d (az Gx) func207 [1009] [z3 (ahz d g j),z3 sg,z3 c0,z3 o,z3 m,z3 (ahi d)]
def Ec(t:aM):ai D:=[yI (y6 t) aj (t.map au),xc]
def iv{x:cl}(h:gY KB x):xf G 112 [F x,F 0] (F x):=ah4 a h.uV (apc _)
def anU:iy zZq G f315 [y0 0 0] (Ec []) (aG []) (Ec []):=
 iy.bK a (az [112]) _ (ro:=[998]) (m:=60) []
def aoZ:xf G 195 [aG []] (aG []):=
 Spec.y a (az [112]) func195 [] []
def anT(b:gY KB j):iy zZq G f315 [y0 0 0] (Ec [[j]]) (aG [[j]]) (Ec [[j]]):=
 iy.bK a (az [112]) _ (ro:=[998,1003,1011006]) (m:=60) [z3 (iv a b)]
def aoY(b:gY KB j):xf G 195 [aG [[j]]] (aG [[j]]):=
 Spec.y a (az [112]) func195 [1003,1011006] [z3 (iv a b)]
def anS(e:gY KB j)(d:gY KB k)(f:gY KB M):iy zZq G f315 [y0 0 0] (Ec [[j],[k,M]]) (aG [[j],[k,M]]) (Ec [[j],[k,M]]):=
 iy.bK a (az [112]) _ (ro:=[998,1003,1011006]) (m:=60) [z3 (iv a e),z3 (iv a d),z3 (iv a f)]
def aoX(e:gY KB j)(d:gY KB k)(f:gY KB M):xf G 195 [aG [[j],[k,M]]] (aG [[j],[k,M]]):=
 Spec.y a (az [112]) func195 [1003,1011006] [z3 (iv a e),z3 (iv a d),z3 (iv a f)]
def anR{c0 d c b:cl}(l:gY KB j)(f:gY KB k)(n:gY KB M)(e:gY KB c0)(i:gY KB d)(h:gY KB c)(g:gY KB b):iy zZq G f315 [y0 0 0] (Ec [[j],[k,M],[c0,d,c,b]]) (aG [[j],[k,M],[c0,d,c,b]]) (Ec [[j],[k,M],[c0,d,c,b]]):=
 iy.bK a (az [112]) _ (ro:=[998,1003,1011006]) (m:=60) [z3 (iv a l),z3 (iv a f),z3 (iv a n),z3 (iv a e),z3 (iv a i),z3 (iv a h),z3 (iv a g)]
def aoW{c0 h g f:cl}(l:gY KB k)(i:gY KB j)(m:gY KB M)(e:gY KB c0)(d:gY KB h)(c:gY KB g)(b:gY KB f):xf G 195 [aG [[k],[j,M],[c0,h,g,f]]] (aG [[k],[j,M],[c0,h,g,f]]):=
 Spec.y a (az [112]) func195 [1003,1011006] [z3 (iv a l),z3 (iv a i),z3 (iv a m),z3 (iv a e),z3 (iv a d),z3 (iv a c),z3 (iv a b)]
def anQ{c0 d c b d0 d1 d2 d3 d4 d5 d6 d7:cl}(v:gY KB j)(s:gY KB k)(w:gY KB M)(r:gY KB c0)(q:gY KB d)(p:gY KB c)(o:gY KB b)(u:gY KB d0)(n:gY KB d1)(l:gY KB d2)(f:gY KB d3)(e:gY KB d4)(i:gY KB d5)(h:gY KB d6)(g:gY KB d7):iy zZq G f315 [y0 0 0] (Ec [[j],[k,M],[c0,d,c,b],[d0,d1,d2,d3,d4,d5,d6,d7]]) (aG [[j],[k,M],[c0,d,c,b],[d0,d1,d2,d3,d4,d5,d6,d7]]) (Ec [[j],[k,M],[c0,d,c,b],[d0,d1,d2,d3,d4,d5,d6,d7]]):=
 iy.bK a (az [112]) _ (ro:=[998,1003,1011006]) (m:=60) [z3 (iv a v),z3 (iv a s),z3 (iv a w),z3 (iv a r),z3 (iv a q),z3 (iv a p),z3 (iv a o),z3 (iv a u),z3 (iv a n),z3 (iv a l),z3 (iv a f),z3 (iv a e),z3 (iv a i),z3 (iv a h),z3 (iv a g)]
def aoV{c0 o n m d0 d1 d2 d3 d4 d5 d6 d7:cl}(u:gY KB j)(r:gY KB k)(v:gY KB M)(l:gY KB c0)(q:gY KB o)(p:gY KB n)(i:gY KB m)(s:gY KB d0)(h:gY KB d1)(g:gY KB d2)(f:gY KB d3)(e:gY KB d4)(d:gY KB d5)(c:gY KB d6)(b:gY KB d7):xf G 195 [aG [[j],[k,M],[c0,o,n,m],[d0,d1,d2,d3,d4,d5,d6,d7]]] (aG [[j],[k,M],[c0,o,n,m],[d0,d1,d2,d3,d4,d5,d6,d7]]):=
 Spec.y a (az [112]) func195 [1003,1011006] [z3 (iv a u),z3 (iv a r),z3 (iv a v),z3 (iv a l),z3 (iv a q),z3 (iv a p),z3 (iv a i),z3 (iv a s),z3 (iv a h),z3 (iv a g),z3 (iv a f),z3 (iv a e),z3 (iv a d),z3 (iv a c),z3 (iv a b)]
structure Cr where
 o:Pt
 r:ai cl
def cCr(c:Cr):ai D:=[au c.o.1,au c.o.2,au c.r]
def Om(c:Cr):D:=y4 (cCr c)
structure A7(δ:aw)(t:aM)(c:Cr):Prop where
 o:jD t c.o
 r:Ok t c.r
 rs:Ck δ t c.r
 pos:aL t c.r=1
def MX:ai c7:=[316,312,317,284,23,52,51,50,86,207,28,272,314,158,252,315,259]
def roM:c7->ai aw:=λf=>if f=269 then [996]else []
def fa(b:dn δ t)(h:Ck δ t c)(e:aL t c=C):xf G 23 [aG t,au c] (.aP [int C,xc]):=e▸akL a b h
variable {E H:Cr}
def wI(d:dn δ t)(f:A7 δ t E)(e:A7 δ t H):xf G 259 [aG t,yI 2 aj (cCr E++cCr H)] xc:=
 Spec.y a (az (MX.erase 259)) func259 [] [z3 (vA a d),z3 (kO a d f.o),z3 (gZ a d f.r),z3 (kO a d e.o),z3 (gZ a d e.r),z3 (fa a d f.rs f.pos),z3 (fa a d e.rs e.pos)]
def cV(a b:Cr):Pt:=kv b.o a.o
def cD(t:aM)(a b:Cr):ai cl:=vP t (cV a b) (cV a b)
def cS(t:aM)(a b:Cr):ai cl:=g8 (oX a.r (cD t a b)) b.r
def cX(t:aM)(a b:Cr):ai cl:=g8 (mulL t (iq 4) (mulL t a.r (cD t a b))) (mulL t (cS t a b) (cS t a b))
def Bl(t:aM)(a b:Cr):ai cl:=mulL t (iq 2) (cD t a b)
def cG(t:aM)(a b:Cr):ai cl:=x_ t (cS t a b) (Bl t a b)
def cM(t:aM)(p:Pt)(k:ai cl)(v:Pt):Pt:=(oX p.1 (mulL t k v.1),oX p.2 (mulL t k v.2))
def Eh(t:aM)(a b:Cr):Pt:=cM t a.o (cG t a b) (cV a b)
structure YQ(δ:aw)(t:aM)(a b:Cr):Prop where
 v:jD t (cV a b)
 m1:Ok t (mulL t (cV a b).1 (cV a b).1)
 m2:Ok t (mulL t (cV a b).2 (cV a b).2)
 d:Ok t (cD t a b)
 ds:Ck δ t (cD t a b)
 ad:Ok t (oX a.r (cD t a b))
 s:Ok t (cS t a b)
 f4:Ok t (iq 4)
 rd:Ok t (mulL t a.r (cD t a b))
 q1:Ok t (mulL t (iq 4) (mulL t a.r (cD t a b)))
 q2:Ok t (mulL t (cS t a b) (cS t a b))
 x:Ok t (cX t a b)
 xs:Ck δ t (cX t a b)
def CG:gY KB ((4:cA):cl):=Mx (by rw[pn];omega) za za
def Uc:gY KB ((2:cA):cl):=Mx (by rw[pn];omega) za za
def Ub:gY KB ((-1:cA):cl):=Mx (by rw[pn];omega) za za
def z7(t:aM)(a:ai D):D:=y4 [yI (y6 t) aj (t.map au),yI (y6 a/2) aj a]
def Yg(d:aa G)(e:dn δ t)(f:A7 δ t E)(g:A7 δ t H)(c:YQ δ t E H)(k:iy zZq G f315 [y0 0 0] (Ec t) (aG t) (Ec t))(j:aL t (cD t E H)=1)(h:aL t (cX t E H)= -1):
  xf G 199 [aG t,Om E,Om H] (.aP [z7 t [],xc]):=
 Spec.y d (az MX roM) func199 [] [z3 (wI d e f g),z3 (w_ d e f.o g.o c.v c.m1 c.m2),z3 (kP d e f.r c.d),z3 (b8 d e c.ad g.r),z3 (cP d e f.r c.d),z3 (dM d (i:=4) za za),z3 (dL d CG),z3 (cP d e c.f4 c.rd),z3 (cP d e c.s c.s),z3 (b8 d e c.q1 c.q2),z3 (fa d e c.ds j),z3 (fa d e c.xs h),.a9 func315 k]
structure aej(δ:aw)(t:aM)(a b:Cr):Prop where
 f2:Ok t (iq 2)
 w:TW δ t (Bl t a b)
 w0:aL t (Bl t a b)≠0
 g:Ok t (cG t a b)
 g1:Ok t (mulL t (cG t a b) (cV a b).1)
 g2:Ok t (mulL t (cG t a b) (cV a b).2)
def adr(d:aa G)(f:dn δ t)(g:A7 δ t E)(h:A7 δ t H)(c:YQ δ t E H)(l:iy zZq G f315 [y0 0 0] (Ec t) (aG t) (Ec t))(e:aej δ t E H)(k:aL t (cD t E H)=1)(j:aL t (cX t E H)=0):
  xf G 199 [aG t,Om E,Om H] (.aP [z7 t (Rh (Eh t E H)),xc]):=
 Spec.y d (az MX roM) func199 [] [z3 (wI d f g h),z3 (w_ d f g.o h.o c.v c.m1 c.m2),z3 (kP d f g.r c.d),z3 (b8 d f c.ad h.r),z3 (cP d f g.r c.d),z3 (dM d (i:=4) za za),z3 (dL d CG),z3 (cP d f c.f4 c.rd),z3 (cP d f c.s c.s),z3 (b8 d f c.q1 c.q2),z3 (fa d f c.ds k),z3 (fa d f c.xs j),z3 (b8 d f h.o.1 g.o.1),z3 (b8 d f h.o.2 g.o.2),z3 (dM d (i:=2) za za),z3 (dL d Uc),z3 (cP d f e.f2 c.d),z3 (kP d f g.r c.d),z3 (b8 d f c.ad h.r),z3 (vz d f c.s e.w e.w0),z3 (cP d f e.g c.v.1),z3 (kP d f g.o.1 e.g1),z3 (cP d f e.g c.v.2),z3 (kP d f g.o.2 e.g2),.a9 func315 l]
def Tv(d:aa G)(e:dn δ t)(f:A7 δ t E)(g:A7 δ t H)(c:YQ δ t E H)(j:iy zZq G f315 [y0 0 0] (Ec t) (aG t) (Ec t))(h:aL t (cD t E H)=0)(k:C=1\/C= -1)(ss:Ck δ t (g8 E.r H.r))(sz:aL t (g8 E.r H.r)=C):
  xf G 199 [aG t,Om E,Om H] (.aP [z7 t [],xc]):=by
 obtain rfl|rfl:=k
 all_goals exact Spec.y d (az MX roM) func199 [] [z3 (wI d e f g),z3 (w_ d e f.o g.o c.v c.m1 c.m2),z3 (kP d e f.r c.d),z3 (b8 d e c.ad g.r),z3 (cP d e f.r c.d),z3 (dM d (i:=4) za za),z3 (dL d CG),z3 (cP d e c.f4 c.rd),z3 (cP d e c.s c.s),z3 (b8 d e c.q1 c.q2),z3 (fa d e c.ds h),z3 (b8 d e f.r g.r),z3 (fa d e ss sz),.a9 func315 j]
def Yf(d:aa G)(e:dn δ t)(f:A7 δ t E)(g:A7 δ t H)(c:YQ δ t E H)(h:aL t (cD t E H)=0)(ss:Ck δ t (g8 E.r H.r))(sz:aL t (g8 E.r H.r)=0):
  xf G 199 [aG t,Om E,Om H] (.aP [y4 [yI 0 aj [],yI 0 aj []],lY 15]):=
 Spec.y d (az MX roM) func199 [] [z3 (wI d e f g),z3 (w_ d e f.o g.o c.v c.m1 c.m2),z3 (kP d e f.r c.d),z3 (b8 d e c.ad g.r),z3 (cP d e f.r c.d),z3 (dM d (i:=4) za za),z3 (dL d CG),z3 (cP d e c.f4 c.rd),z3 (cP d e c.s c.s),z3 (b8 d e c.q1 c.q2),z3 (fa d e c.ds h),z3 (b8 d e f.r g.r),z3 (fa d e ss sz),z3 (fa d e f.rs f.pos)]
def cT(t:aM)(a b:Cr):aM:=t++[aZ (cX t a b) (2^y6 t)]
def cH(t:aM)(a b:Cr):ai cl:=x_ (cT t a b) (cg (y6 t)) (Bl t a b)
def cN(t:aM)(a b:Cr):Pt:=(mulL (cT t a b) (iq (-1)) (cV a b).2,(cV a b).1)
def Yo(t:aM)(a b:Cr):ai cl:=mulL (cT t a b) (iq (-1)) (cH t a b)
def Za(t:aM)(a b:Cr):Pt:=cM (cT t a b) (Eh t a b) (cH t a b) (cN t a b)
def Y_(t:aM)(a b:Cr):Pt:=cM (cT t a b) (Eh t a b) (Yo t a b) (cN t a b)
structure anh(η:aw)(t:aM)(a b:Cr):Prop where
 r:Ok (cT t a b) (cg t.length)
 w:TW η (cT t a b) (Bl t a b)
 w0:aL (cT t a b) (Bl t a b)≠0
 fm:Ok (cT t a b) (iq (-1))
 v:jD (cT t a b) (cV a b)
 f:jD (cT t a b) (Eh t a b)
 h:Ok (cT t a b) (cH t a b)
 n1:Ok (cT t a b) (cN t a b).1
 h1:Ok (cT t a b) (mulL (cT t a b) (cH t a b) (cN t a b).1)
 h2:Ok (cT t a b) (mulL (cT t a b) (cH t a b) (cN t a b).2)
 h':Ok (cT t a b) (Yo t a b)
 I6:Ok (cT t a b) (mulL (cT t a b) (Yo t a b) (cN t a b).1)
 Te:Ok (cT t a b) (mulL (cT t a b) (Yo t a b) (cN t a b).2)
def adp(d:aa G)(f:dn δ t)(h:A7 δ t E)(j:A7 δ t H)(c:YQ δ t E H)(n:iy zZq G f315 [y0 0 0] (Ec (cT t E H)) (aG (cT t E H)) (Ec (cT t E H)))(e:aej δ t E H){η:aw}(g:dn η (cT t E H))(k:anh η t E H)(ex:xf G 207 [aG t,au (cX t E H)] (.aP [aG (cT t E H),au (cg (y6 t)),xc]))(m:aL t (cD t E H)=1)(l:aL t (cX t E H)=1):
  xf G 199 [aG t,Om E,Om H] (.aP [z7 (cT t E H) (Rh (Za t E H)++Rh (Y_ t E H)),xc]):=
 Spec.y d (az MX roM) func199 [] [z3 (wI d f h j),z3 (w_ d f h.o j.o c.v c.m1 c.m2),z3 (kP d f h.r c.d),z3 (b8 d f c.ad j.r),z3 (cP d f h.r c.d),z3 (dM d (i:=4) za za),z3 (dL d CG),z3 (cP d f c.f4 c.rd),z3 (cP d f c.s c.s),z3 (b8 d f c.q1 c.q2),z3 (fa d f c.ds m),z3 (fa d f c.xs l),z3 (b8 d f j.o.1 h.o.1),z3 (b8 d f j.o.2 h.o.2),z3 (dM d (i:=2) za za),z3 (dL d Uc),z3 (cP d f e.f2 c.d),z3 (kP d f h.r c.d),z3 (b8 d f c.ad j.r),z3 (vz d f c.s e.w e.w0),z3 (cP d f e.g c.v.1),z3 (kP d f h.o.1 e.g1),z3 (cP d f e.g c.v.2),z3 (kP d f h.o.2 e.g2),z3 ex,z3 (vz d g k.r k.w k.w0),z3 (dM d (i:= -1) za za),z3 (dL d Ub),z3 (cP d g k.fm k.v.2),z3 (cP d g k.h k.n1),z3 (kP d g k.f.1 k.h1),z3 (cP d g k.h k.v.1),z3 (kP d g k.f.2 k.h2),z3 (dM d (i:= -1) za za),z3 (dL d Ub),z3 (cP d g k.fm k.h),z3 (cP d g k.h' k.n1),z3 (kP d g k.f.1 k.I6),z3 (cP d g k.h' k.v.1),z3 (kP d g k.f.2 k.Te),.a9 func315 n]
structure Mk where
 nm:cB
 x:cl
 y:cl
 deriving Inhabited
def cPc(x y:cl):ai D:=cF x++cF y
def vt(m:Mk):ai D:=yT (.string m.nm)::cPc m.x m.y
structure Bd where
 nm:cB
 aC:ai Mk
 deriving Inhabited
def A4(b:Bd):ai D:=[yT (.string b.nm),aQ vt b.aC]
structure Jt where
 nm:cB
 kind:aw
 a:aw
 p:aw
 b:aw
 on:aw
 to:aw
 deriving Inhabited
def Hh(j:Jt):ai D:=[yT (.string j.nm),nat j.kind,nat j.a,nat j.p,nat j.b,nat j.on,nat j.to]
structure Dr where
 nm:cB
 body:aw
 deriving Inhabited
def Ky(d:Dr):ai D:=[yT (.string d.nm),nat d.body]
structure Lk where
 nm:cB
 bs:ai Bd
 js:ai Jt
 ds:ai Dr
def yJ(l:Lk):ai D:=[yT (.string l.nm),aQ A4 l.bs,aQ Hh l.js,aQ Ky l.ds]
def nD(l:ai aw):D:=yI (y6 l) aj (l.map nat)
def sZ(l:ai cA):D:=yI (y6 l) aj (l.map int)
structure Gp where
 kind:aw
 bs:ai aw
 js:ai aw
 dr:aw
def kg(g:Gp):ai D:=[nat g.kind,nD g.bs,nD g.js,nat g.dr]
structure As where
 t:aM
 bs:ai Pl
 ms:ai cA
def Bm(a:As):ai D:=[yI (y6 a.t) aj (a.t.map au),aQ Hg a.bs,sZ a.ms]
def kQ(l:Lk)(g:Gp)(a:As):ai D:=yJ l++kg g++Bm a++[xc]
def p_(m:Mk):y6 (vt m)=7:=rfl
def AP(b:Bd):y6 (A4 b)=2:=rfl
def bQ(j:Jt):y6 (Hh j)=7:=rfl
def gd(d:Dr):y6 (Ky d)=2:=rfl
def fN(b:Pl):y6 (Hg b)=4:=rfl
def j5{f:o->ai D}{sz:aw}(c:∀x,y6 (f x)=sz){l:ai o}{i:aw}(h:i<y6 l)(d:o)(j:aw)(b:j<sz):
  (((l.flatMap f).drop ((zNq i).toNat*sz)).drop j).headD .any=(f (y7 l i d)).getD j .any:=by
 have e:=fO (sz:=sz) c h d;simp only[D.agg.injEq]at e;rw[<-e];generalize(l.flatMap f).drop ((zNq i).toNat*sz)=r;rw[apf,aq8,aph b];cases a:r.drop j with
 |nil=>rw[apL (by simpa using a)];rfl
 |cons x xs=>
  have:r[j]? =a6 x:=by have:=aql (λl=>l[0]?) a;simpa using this
  rw[this];rfl
def bA{f:o->ai D}{sz:aw}(a:∀x,y6 (f x)=sz){l:ai o}{i:aw}(h:i<y6 l)(j:aw)(b:j<sz):0<1/\1<=y6 (((l.flatMap f).drop ((zNq i).toNat*sz)).drop j):=by have:=aq (sz:=sz) a za h;rw[apu];omega
def PcD(x y:cl):D:=y4 (cPc x y)
def dQ(l:Lk)(body k:aw):Mk:=(y7 l.bs body bc).aC.getD k bc
def nM(l:Lk)(g:Gp)(i:As){body k:aw}(c:body<y6 l.bs)(b:k<(y7 l.bs body bc).aC.length):
  iy zZq G f249 [y0 0 0,nat body,nat k] (kQ l g i) (PcD (dQ l body k).x (dQ l body k).y) (kQ l g i):=by
 have n:=j5 AP c bc 1 za;have h:=bA AP c 1 za;have j:=fO p_ b bc;have f:=ay AP za c;have e:=ay p_ za b;have d:=aq p_ za b;exact iy.bK a (az []) _ (ro:=[998]) (m:=60) [.er 13 (nat body),yu f,yu h,.eq 16 n,yu e,yu d,.eq 19 j]
def dt(a:As)(body:aw):Pl:=y7 a.bs body ⟨[],[],[],[]⟩
def kS(l:Lk)(a:As)(body k:aw):Pt:=J4 a.t (dt a body) (dQ l body k).x (dQ l body k).y
def Rd(G:bn->Prop)(l:Lk)(a:As)(body k:aw):Prop:=
 xf G 218 [aG a.t,PlD (dt a body),F (dQ l body k).x,F (dQ l body k).y] (.aP [mg (kS l a body k),xc])
def tj(c:aa G)(l:Lk)(g:Gp)(a:As){body k:aw}(h:body<y6 l.bs)(f:k<(y7 l.bs body bc).aC.length)(b:body<y6 a.bs)(at':Rd G l a body k):
  iy zZq G f250 [y0 0 0,nat body,nat k] (kQ l g a) (mg (kS l a body k)) (kQ l g a):=by
 have i:=fO fN b ⟨[],[],[],[]⟩;have e:=ay fN za b;have d:=aq fN za b;exact iy.bK c (az [249,218]) _ (ro:=[998]) (m:=60) [.a9 func249 (nM c l g a h f),.er 25 (nat body),yu e,yu d,.eq 27 i,z3 at']
def fc(l:Lk)(g:Gp)(k:aw):Jt:=y7 l.js (y7 g.js k 0) bc
def uh{l:ai aw}{i:aw}(h:i<y6 l):((0:cA)<=zNq i/\zNq i<(y6 l:cA))/\(zNq i).toNat*1<y6 (l.map nat):=by have e:(zNq i).toNat=i:=rfl;rw[apq,e,aqx];exact⟨⟨by simp,by simpa using h⟩,h⟩
def um{l:ai aw}{i:aw}(h:i<y6 l):0<1/\1<=y6 ((l.map nat).drop ((zNq i).toNat*1)):=by have e:(zNq i).toNat=i:=rfl;rw[apu,apq,e];omega
def zc{l:ai aw}{i:aw}(h:i<y6 l):((l.map nat).drop ((zNq i).toNat*1)).headD .any=nat (y7 l i 0):=by have e:(zNq i).toNat=i:=rfl;rw[e,aqx,<-List.map_drop,aqr h,are,asy,apf,apj h];rfl
def aa0:ai c7:=[249,250,192,255,218]
def tB(l:Lk)(body k:aw):Prop:=body<y6 l.bs/\k<(y7 l.bs body bc).aC.length
def jX(l:Lk)(g:Gp)(k body:aw):Mk:=if(fc l g k).a=body then dQ l body (fc l g k).p else dQ l body (fc l g k).on
def il(l:Lk)(g:Gp)(a:As)(k body:aw):Pt:=if(fc l g k).a=body then kS l a (fc l g k).b (fc l g k).on else kS l a (fc l g k).a (fc l g k).p
def gI{i j:aw}(h:i=j):(zNq i==zNq j)=bj:=by subst h;simp
def fh{i j:aw}(h:i≠j):(zNq i==zNq j)=aj:=by rw[c4];intro e;exact h (Int.ofNat.inj e)
def alO(l:Lk)(g:Gp)(b:As){k body:aw}(j:k<y6 g.js)(i:y7 g.js k 0<y6 l.js)
  (v:(fc l g k).a=body->tB l body (fc l g k).p/\tB l (fc l g k).b (fc l g k).on/\(fc l g k).b<y6 b.bs/\Rd G l b (fc l g k).b (fc l g k).on)
  (u:(fc l g k).a≠body->tB l body (fc l g k).on/\tB l (fc l g k).a (fc l g k).p/\(fc l g k).a<y6 b.bs/\Rd G l b (fc l g k).a (fc l g k).p):
  iy zZq G f192 [y0 0 0,nat k,nat body] (kQ l g b) (.aP [PcD (jX l g k body).x (jX l g k body).y,mg (il l g b k body)]) (kQ l g b):=by
 have q:=uh j;have p:=um j;have s:=zc j;have o:=ay bQ za i;have n:=aq bQ za i;have r:=fO bQ i bc;unfold jX il;by_cases h:(fc l g k).a=body;obtain⟨d,c,f,e⟩:=v h;rw[aph h,aph h];have m:=nM a l g b d.1 d.2;have pl:=tj a l g b c.1 c.2 f e;exact iy.bK a (az aa0) _ (ro:=[998]) (m:=60) [.er 19 (nat k),yu q,yu p,.eq 21 s,yu o,yu n,.eq 23 r,.eb 27 (gI h),.a9 func249 m,.a9 func250 pl];obtain⟨d,c,f,e⟩:=u h;rw[ape h,ape h];have m:=nM a l g b d.1 d.2;have pl:=tj a l g b c.1 c.2 f e;exact iy.bK a (az aa0) _ (ro:=[998]) (m:=60) [.er 19 (nat k),yu q,yu p,.eq 21 s,yu o,yu n,.eq 23 r,.eb 27 (fh h),.a9 func249 m,.a9 func250 pl]
def alQ(l:Lk)(g:Gp)(b:As){body:aw}(d:2<y6 g.js)(c:y7 g.js 2 0<y6 l.js)
  (n:(fc l g 2).a=body->tB l body (fc l g 2).p) (k:(fc l g 2).a≠body->tB l body (fc l g 2).on):
  iy zZq G f255 [y0 0 0,nat body] (kQ l g b) (PcD (jX l g 2 body).x (jX l g 2 body).y) (kQ l g b):=by
 have j:=uh d;have i:=um d;have p:=zc d;have f:=ay bQ za c;have e:=aq bQ za c;have o:=fO bQ c bc;have q:(kQ l g b).headD .any=(kQ l g b).headD .any:=rfl;unfold jX;by_cases h:(fc l g 2).a=body;rw[aph h];have m:=nM a l g b (n h).1 (n h).2;exact iy.bK a (az aa0) _ (ro:=[998]) (m:=60) [.er 15 (nD g.js),yu j,yu i,.eq 17 p,yu f,yu e,.eq 19 o,.eb 23 (gI h),.a9 func249 m];rw[ape h];have m:=nM a l g b (k h).1 (k h).2;exact iy.bK a (az aa0) _ (ro:=[998]) (m:=60) [.er 15 (nD g.js),yu j,yu i,.eq 17 p,yu f,yu e,.eq 19 o,.eb 23 (fh h),.a9 func249 m]
abbrev Qk(q:cl):Prop:=gY KB q
def agW{x y:cl}(b:Qk x)(c:Qk y):xf G 70 [F x,F y] (F (x-y)):=Mh a b.uV c.uV (apc _) (apc _)
def YH{x y:cl}(b:Qk x)(c:Qk y):xf G 112 [F x,F y] (F (x+y)):=xa a b.uV c.uV (apc _) (apc _)
def Og{x y:cl}(b:Qk x)(c:Qk y):xf G 45 [F x,F y] (F (x*y)):=FC a b.uV c.uV (apc _) (apc _)
def ad6{x:cl}(b:Qk x)(e:nV x=C):xf G 43 [F x] (int C):=e▸uQ a b.uV (apc _)
structure V2 where
 x:cl
 y:cl
def V2.sub(p q:V2):V2:=⟨p.1-q.1,p.2-q.2⟩
def V2.sq(v:V2):cl:=v.1*v.1+v.2*v.2
def V2.Cd(v:V2):D:=PcD v.1 v.2
def V2.cK(v:V2):ai D:=cPc v.1 v.2
structure V2.Fit(v:V2):Prop where
 x:Qk v.1
 y:Qk v.2
structure V2.yj(v:V2):Prop where
 f:V2.Fit v
 xx:Qk (v.1*v.1)
 yy:Qk (v.2*v.2)
 s:Qk v.sq
def Ph:ai c7:=[70,112,45,43,86]
variable {A:V2}
def gQ{q:V2}(c:A.Fit)(b:q.Fit):xf G 198 [A.Cd,q.Cd] (A.sub q).Cd:=
 Spec.y a (az Ph) func198 [] [z3 (agW a c.x b.x),z3 (agW a c.y b.y)]
def tZ(h:A.yj):xf G 251 [A.Cd] (au (iq A.sq)):=
 Spec.y a (az Ph) func251 [] [z3 (Og a h.f.x h.f.x),z3 (Og a h.f.y h.f.y),z3 (YH a h.xx h.yy),z3 (dL a h.s)]
def Bw(a:aa G){v:V2}(h:v.yj){z:cA}(e:nV v.sq=z):ai (Item zZq G):=[z3 (Og a h.f.x h.f.x),z3 (Og a h.f.y h.f.y),z3 (YH a h.xx h.yy),z3 (ad6 a h.s e)]
def Zc(h:A.yj)(e:nV A.sq=1):xf G 197 [yI 1 aj A.cK] (bool aj):=
 Spec.y a (az Ph) func197 [] (Bw a h e) zk zk
def VX(h:A.yj)(e:nV A.sq=0):xf G 197 [yI 1 aj A.cK] (bool bj):=
 Spec.y a (az Ph) func197 [] (Bw a h e) zk zk
def Ov{w:V2}(h:A.yj)(e:nV A.sq=1)(b:w.yj)(c:nV w.sq=1):xf G 197 [yI 2 aj (A.cK++w.cK)] (bool aj):=
 Spec.y a (az Ph) func197 [] (Bw a h e++Bw a b c) zk zk
def VW{w:V2}(h:A.yj)(e:nV A.sq=0):xf G 197 [yI 2 aj (A.cK++w.cK)] (bool bj):=
 Spec.y a (az Ph) func197 [] (Bw a h e) zk zk
def VV{w:V2}(h:A.yj)(e:nV A.sq=1)(b:w.yj)(c:nV w.sq=0):xf G 197 [yI 2 aj (A.cK++w.cK)] (bool bj):=
 Spec.y a (az Ph) func197 [] (Bw a h e++Bw a b c) zk zk
structure Hd where
 p:V2
 o:Pt
 c:V2
def Yn(h:Hd):ai D:=h.p.cK++Rh h.o++h.c.cK
def TU(h:Hd):D:=y4 (Yn h)
def Hd.v(h:Hd):V2:=h.c.sub h.p
def Hd.cr(h:Hd):Cr:=⟨h.o,iq h.v.sq⟩
variable {K R:Hd}
def zN(d:K.c.Fit)(c:K.p.Fit)(b:K.v.yj):xf G 200 [TU K] (Om K.cr):=
 Spec.y a (az [198,251]) func200 [] [z3 (gQ a d c),z3 (tZ a b)]
def mQ(u:V2):Pt:=yC u.1 u.2
def D3(t:aM)(u:V2)(w:Pt):ai cl:=x_ t (vP t (mQ u) w) (iq u.sq)
def D2(t:aM)(u:V2)(w:Pt):ai cl:=x_ t (qZ t (mQ u) w) (iq u.sq)
def zP(t:aM)(u:V2)(w:Pt)(p:V2):Pt:=u5 t (D3 t u w) (D2 t u w) (yC p.1 p.2)
def s_(t:aM)(u:V2)(w:Pt)(p:V2)(o:Pt):Pl:=⟨D3 t u w,D2 t u w,g8 o.1 (zP t u w p).1,g8 o.2 (zP t u w p).2⟩
structure BOk(G:bn->Prop)(δ:aw)(t:aM)(u:V2)(w:Pt)(p:V2)(o:Pt):Prop where
 hu:u.yj
 hp:p.Fit
 dot:Spec zZq G 158 [aG t,mg (mQ u),mg w] (.aP [au (vP t (mQ u) w),yT .nilIface])
 crs:Spec zZq G 252 [aG t,mg (mQ u),mg w] (.aP [au (qZ t (mQ u) w),yT .nilIface])
 d:Ok t (vP t (mQ u) w)
 c:Ok t (qZ t (mQ u) w)
 n:TW δ t (iq u.sq)
 n0:aL t (iq u.sq)≠0
 trn:Spec zZq G 253 [aG t,au (D3 t u w),au (D2 t u w),mg (yC p.1 p.2)] (.aP [mg (zP t u w p),yT .nilIface])
 ho:jD t o
 q:jD t (zP t u w p)
def re(b:dn δ t){p:V2}(h:BOk G δ t A l p m):
  iy zZq G f193 [y0 0 0,A.Cd,mg l,p.Cd,mg m] (Ec t) (PlD (s_ t A l p m)) (Ec t):=
 iy.bK a (az ([251,194,158,252,253]++Ka)) _ (ro:=[998]) (m:=60)
  [z3 (Oh a h.hu.f.x h.hu.f.y),z3 (tZ a h.hu),z3 h.dot,z3 (vz a b h.d h.n h.n0),z3 h.crs,z3 (vz a b h.c h.n h.n0),z3 (Oh a h.hp.x h.hp.y),z3 h.trn,z3 (b8 a b h.ho.1 h.q.1),z3 (b8 a b h.ho.2 h.q.2)]
def n8(m:Mk):V2:=⟨m.x,m.y⟩
def AX(l:Lk)(g:Gp)(a:As)(k body:aw):Hd:=⟨n8 (jX l g k body),il l g a k body,n8 (jX l g 2 body)⟩
def alz(l:Lk)(g:As){kd i k j0 c b dr:aw}
  (e:iy zZq G f192 [y0 0 0,nat 0,nat i] (kQ l ⟨kd,[i,k],[j0,c,b],dr⟩ g) (.aP [(n8 (jX l ⟨kd,[i,k],[j0,c,b],dr⟩ 0 i)).Cd,mg (il l ⟨kd,[i,k],[j0,c,b],dr⟩ g 0 i)]) (kQ l ⟨kd,[i,k],[j0,c,b],dr⟩ g))
  (d:iy zZq G f192 [y0 0 0,nat 1,nat k] (kQ l ⟨kd,[i,k],[j0,c,b],dr⟩ g) (.aP [(n8 (jX l ⟨kd,[i,k],[j0,c,b],dr⟩ 1 k)).Cd,mg (il l ⟨kd,[i,k],[j0,c,b],dr⟩ g 1 k)]) (kQ l ⟨kd,[i,k],[j0,c,b],dr⟩ g))
  (f:iy zZq G f255 [y0 0 0,nat i] (kQ l ⟨kd,[i,k],[j0,c,b],dr⟩ g) (n8 (jX l ⟨kd,[i,k],[j0,c,b],dr⟩ 2 i)).Cd (kQ l ⟨kd,[i,k],[j0,c,b],dr⟩ g))
  (o1:iy zZq G f255 [y0 0 0,nat k] (kQ l ⟨kd,[i,k],[j0,c,b],dr⟩ g) (n8 (jX l ⟨kd,[i,k],[j0,c,b],dr⟩ 2 k)).Cd (kQ l ⟨kd,[i,k],[j0,c,b],dr⟩ g)):
  iy zZq G f196 [y0 0 0] (kQ l ⟨kd,[i,k],[j0,c,b],dr⟩ g) (.aP [TU (AX l ⟨kd,[i,k],[j0,c,b],dr⟩ g 0 i),TU (AX l ⟨kd,[i,k],[j0,c,b],dr⟩ g 1 k)]) (kQ l ⟨kd,[i,k],[j0,c,b],dr⟩ g):=
 iy.bK a (az aa0) _ (ro:=[998]) (m:=60) [.a9 func192 e,.a9 func192 d,.a9 func255 f,.a9 func255 o1]
def cSd(T:aM)(a:ai Pl)(mode:cA):ai D:=[yI (y6 T) aj (T.map au),aQ Hg a,int mode]
structure Bdy(G:bn->Prop)(δ:aw)(T:aM)(c:Pt)(h:Hd):Prop where
 pc:jD T c
 po:jD T h.o
 hc:h.c.Fit
 hp:h.p.Fit
 b:BOk G δ T h.v (kv c h.o) h.p h.o
def oO(T:aM)(c:Pt)(h:Hd):Pl:=s_ T h.v (kv c h.o) h.p h.o
def WQ:ai c7:=[195,312,198,193]
def aaG{T:aM}(c:dn δ T)(d:xf G 195 [aG T] (aG T)):
  xf G 201 [z7 T ([]),yI 1 aj (Yn K)] (.aP [yI 0 aj [],xc]):=
 Spec.y a (az WQ) func201 [34,1015010] []
def Pd{T:aM}(d:dn δ T)(e:xf G 195 [aG T] (aG T)):
  xf G 201 [z7 T ([]),yI 2 aj (Yn K++Yn R)] (.aP [yI 0 aj [],xc]):=
 Spec.y a (az WQ) func201 [34,1015010] []
def aaF{T:aM}(c:dn δ T)(e:xf G 195 [aG T] (aG T))(d:Bdy G δ T l K):
  xf G 201 [z7 T (Rh l),yI 1 aj (Yn K)] (.aP [yI 1 aj (cSd T [oO T l K] 0),xc]):=
 Spec.y a (az WQ) func201 [34,1015010] [z3 e,z3 (b8 a c d.pc.1 d.po.1),z3 (b8 a c d.pc.2 d.po.2),z3 (gQ a d.hc d.hp),.a9 func193 (re a c d.b)]
def aaE{T:aM}(d:dn δ T)(g:xf G 195 [aG T] (aG T))(c:Bdy G δ T l K)(b:Bdy G δ T l R):
  xf G 201 [z7 T (Rh l),yI 2 aj (Yn K++Yn R)] (.aP [yI 1 aj (cSd T [oO T l K,oO T l R] 0),xc]):=
 Spec.y a (az WQ) func201 [34,1015010] [z3 g,z3 (b8 a d c.pc.1 c.po.1),z3 (b8 a d c.pc.2 c.po.2),z3 (gQ a c.hc c.hp),.a9 func193 (re a d c.b),z3 (b8 a d b.pc.1 b.po.1),z3 (b8 a d b.pc.2 b.po.2),z3 (gQ a b.hc b.hp),.a9 func193 (re a d b.b)]
def aaD{T:aM}(d:dn δ T)(g:xf G 195 [aG T] (aG T))(c:Bdy G δ T l K)(b:Bdy G δ T m K):
  xf G 201 [z7 T (Rh l++Rh m),yI 1 aj (Yn K)] (.aP [yI 2 aj (cSd T [oO T l K] 1++cSd T [oO T m K] (-1)),xc]):=
 Spec.y a (az WQ) func201 [34,1015010] [z3 g,z3 (b8 a d c.pc.1 c.po.1),z3 (b8 a d c.pc.2 c.po.2),z3 (gQ a c.hc c.hp),.a9 func193 (re a d c.b),z3 g,z3 (b8 a d b.pc.1 b.po.1),z3 (b8 a d b.pc.2 b.po.2),z3 (gQ a b.hc b.hp),.a9 func193 (re a d b.b)]
def aaC{T:aM}(b:dn δ T)(j:xf G 195 [aG T] (aG T))(e:Bdy G δ T l K)(c:Bdy G δ T l R)(d:Bdy G δ T m K)(f:Bdy G δ T m R):
  xf G 201 [z7 T (Rh l++Rh m),yI 2 aj (Yn K++Yn R)] (.aP [yI 2 aj (cSd T [oO T l K,oO T l R] 1++cSd T [oO T m K,oO T m R] (-1)),xc]):=
 Spec.y a (az WQ) func201 [34,1015010] [z3 j,z3 (b8 a b e.pc.1 e.po.1),z3 (b8 a b e.pc.2 e.po.2),z3 (gQ a e.hc e.hp),.a9 func193 (re a b e.b),z3 (b8 a b c.pc.1 c.po.1),z3 (b8 a b c.pc.2 c.po.2),z3 (gQ a c.hc c.hp),.a9 func193 (re a b c.b),z3 j,z3 (b8 a b d.pc.1 d.po.1),z3 (b8 a b d.pc.2 d.po.2),z3 (gQ a d.hc d.hp),.a9 func193 (re a b d.b),z3 (b8 a b f.pc.1 f.po.1),z3 (b8 a b f.pc.2 f.po.2),z3 (gQ a f.hc f.hp),.a9 func193 (re a b f.b)]
def SA:D:=yI 0 bj []
structure Tn where
 t:cl
 half:b5
def J5(x:Tn):D:=y4 (cF x.t++[bool x.half])
def opsV:ai c7:=[163,164,192,196,28,194,193,195,198,197,200,199,203,201]
def E9(l:Lk)(a:As)(g:Gp)(b:aw)(c s:cl):Pl:=s_ a.t ⟨((1:cA):cl),0⟩ (yC c s) (n8 (jX l g 0 b)) (il l g a 0 b)
def acZ(e:aa G)(l:Lk)(a:As){kd b c d:aw}{x:Tn}(h:dn δ a.t)(g:Qk j)(hs:Qk M)
  (cos:xf G 163 [J5 x] (.aP [F j,xc])) (sin:xf G 164 [J5 x] (.aP [F M,xc]))
  (f:iy zZq G f192 [y0 0 0,nat 0,nat b] (kQ l ⟨kd,[b],[c],d⟩ a) (.aP [(n8 (jX l ⟨kd,[b],[c],d⟩ 0 b)).Cd,mg (il l ⟨kd,[b],[c],d⟩ a 0 b)]) (kQ l ⟨kd,[b],[c],d⟩ a))
  (o:BOk G δ a.t ⟨((1:cA):cl),0⟩ (yC j M) (n8 (jX l ⟨kd,[b],[c],d⟩ 0 b)) (il l ⟨kd,[b],[c],d⟩ a 0 b))
  (n:xf G 195 [aG a.t] (aG a.t)):
  iy zZq G f149 [y0 0 0,J5 x] (kQ l ⟨kd,[b],[c],d⟩ a) (.aP [yI 1 bj (cSd a.t [E9 l a ⟨kd,[b],[c],d⟩ b j M] 1),xc]) (kQ l ⟨kd,[b],[c],d⟩ a):=
 iy.bK e (az opsV) _ (ro:=[998]) (m:=60) [z3 cos,z3 sin,.a9 func192 f,z3 (dM e (i:=1) za za),z3 (Oh e g hs),.a9 func193 (re e h o),z3 n]
section
variable (l:Lk) (a:As) {kd k j0 j1 j2 dr:aw} {A B:Hd}
def MG(b:aa G){T:aM}{n:aw}
  (h:iy zZq G f196 [y0 0 0] (kQ l ⟨kd,[i,k],[j0,j1,j2],dr⟩ a) (.aP [TU A,TU B]) (kQ l ⟨kd,[i,k],[j0,j1,j2],dr⟩ a))
  (a1:A.c.Fit) (g:A.p.Fit) (f:A.v.yj) (o:nV A.v.sq=1) (e:B.c.Fit) (d:B.p.Fit) (c:B.v.yj) (j:nV B.v.sq=1)
  (ci:xf G 199 [aG a.t,Om A.cr,Om B.cr] (.aP [z7 T S,xc])) (pl:xf G 201 [z7 T S,yI 2 aj (Yn A++Yn B)] (.aP [yI n aj U,xc])):
  iy zZq G f150 [y0 0 0] (kQ l ⟨kd,[i,k],[j0,j1,j2],dr⟩ a) (.aP [yI n aj U,xc]) (kQ l ⟨kd,[i,k],[j0,j1,j2],dr⟩ a):=
 iy.bK b (az opsV) _ (ro:=[998]) (m:=60) [.a9 func196 h,z3 (gQ b a1 g),z3 (gQ b e d),z3 (Ov b f o c j),z3 (zN b a1 g f),z3 (zN b e d c),z3 ci,z3 pl]
def Z7(b:aa G)
  (h:iy zZq G f196 [y0 0 0] (kQ l ⟨kd,[i,k],[j0,j1,j2],dr⟩ a) (.aP [TU A,TU B]) (kQ l ⟨kd,[i,k],[j0,j1,j2],dr⟩ a))
  (a1:A.c.Fit) (g:A.p.Fit) (f:A.v.yj) (n:nV A.v.sq=1) (e:B.c.Fit) (d:B.p.Fit) (c:B.v.yj) (j:nV B.v.sq=1)
  (ci:xf G 199 [aG a.t,Om A.cr,Om B.cr] (.aP [y4 [yI 0 aj [],yI 0 aj []],lY 15])):
  iy zZq G f150 [y0 0 0] (kQ l ⟨kd,[i,k],[j0,j1,j2],dr⟩ a) (.aP [SA,lY 15]) (kQ l ⟨kd,[i,k],[j0,j1,j2],dr⟩ a):=
 iy.bK b (az opsV) _ (ro:=[998]) (m:=60) [.a9 func196 h,z3 (gQ b a1 g),z3 (gQ b e d),z3 (Ov b f n c j),z3 (zN b a1 g f),z3 (zN b e d c),z3 ci]
def OW(b:aa G)
  (c:iy zZq G f196 [y0 0 0] (kQ l ⟨kd,[i,k],[j0,j1,j2],dr⟩ a) (.aP [TU A,TU B]) (kQ l ⟨kd,[i,k],[j0,j1,j2],dr⟩ a))
  (a1:A.c.Fit) (f:A.p.Fit) (e:B.c.Fit) (d:B.p.Fit) (z:xf G 197 [yI 2 aj (A.v.cK++B.v.cK)] (bool bj)):
  iy zZq G f150 [y0 0 0] (kQ l ⟨kd,[i,k],[j0,j1,j2],dr⟩ a) (.aP [SA,lY 15]) (kQ l ⟨kd,[i,k],[j0,j1,j2],dr⟩ a):=
 iy.bK b (az opsV) _ (ro:=[998]) (m:=60) [.a9 func196 c,z3 (gQ b a1 f),z3 (gQ b e d),z3 z]
end
def lV(p q:Pt):Pt:=kv q p
def lW(c:Cr)(p:Pt):Pt:=kv c.o p
def lQ(t:aM)(p q:Pt):ai cl:=vP t (lV p q) (lV p q)
def lE(t:aM)(c:Cr)(p q:Pt):ai cl:=vP t (lV p q) (lW c p)
def lC(t:aM)(c:Cr)(p q:Pt):ai cl:=qZ t (lV p q) (lW c p)
def lX(t:aM)(c:Cr)(p q:Pt):ai cl:=g8 (mulL t (lQ t p q) c.r) (mulL t (lC t c p q) (lC t c p q))
structure ag0(G:bn->Prop)(δ:aw)(t:aM)(c:Cr)(p q:Pt):Prop where
 hp:jD t p
 hq:jD t q
 v:jD t (lV p q)
 sqr:Spec zZq G 158 [aG t,mg (lV p q),mg (lV p q)] (.aP [au (lQ t p q),yT .nilIface])
 qo:Ok t (lQ t p q)
 qs:Ck δ t (lQ t p q)
 q1:aL t (lQ t p q)=1
 e:Spec zZq G 158 [aG t,mg (lV p q),mg (lW c p)] (.aP [au (lE t c p q),yT .nilIface])
 k:Spec zZq G 252 [aG t,mg (lV p q),mg (lW c p)] (.aP [au (lC t c p q),yT .nilIface])
 eo:Ok t (lE t c p q)
 ko:Ok t (lC t c p q)
 m1:Ok t (mulL t (lQ t p q) c.r)
 m2:Ok t (mulL t (lC t c p q) (lC t c p q))
 x:Ok t (lX t c p q)
 xs:Ck δ t (lX t c p q)
 d:TW δ t (lQ t p q)
def Xh(b:dn δ t)(d:A7 δ t E)(w:ag0 G δ t E l m)(f:iy zZq G f315 [y0 0 0] (Ec t) (aG t) (Ec t))(e:aL t (lX t E l m)= -1):
  xf G 203 [aG t,Om E,mg l,mg m] (.aP [z7 t [],xc]):=
 Spec.y a (az MX roM) func203 [] [z3 (vA a b),z3 (kO a b d.o),z3 (gZ a b d.r),z3 (kO a b w.hp),z3 (kO a b w.hq),z3 (fa a b d.rs d.pos),z3 (b8 a b w.hq.1 w.hp.1),z3 (b8 a b w.hq.2 w.hp.2),z3 (b8 a b d.o.1 w.hp.1),z3 (b8 a b d.o.2 w.hp.2),z3 w.sqr,z3 (fa a b w.qs w.q1),z3 w.e,z3 w.k,z3 (cP a b w.qo d.r),z3 (cP a b w.ko w.ko),z3 (b8 a b w.m1 w.m2),z3 (fa a b w.xs e),.a9 func315 f]
def lF(t:aM)(c:Cr)(p q:Pt):ai cl:=x_ t (lE t c p q) (lQ t p q)
structure ah2(t:aM)(c:Cr)(p q:Pt):Prop where
 f:Ok t (lF t c p q)
 f1:Ok t (mulL t (lF t c p q) (lV p q).1)
 f2:Ok t (mulL t (lF t c p q) (lV p q).2)
def abL(b:dn δ t)(d:A7 δ t E)(w:ag0 G δ t E l m)(g:iy zZq G f315 [y0 0 0] (Ec t) (aG t) (Ec t))(e:ah2 t E l m)(f:aL t (lX t E l m)=0):
  xf G 203 [aG t,Om E,mg l,mg m] (.aP [z7 t (Rh (cM t l (lF t E l m) (lV l m))),xc]):=
 Spec.y a (az MX roM) func203 [] [z3 (vA a b),z3 (kO a b d.o),z3 (gZ a b d.r),z3 (kO a b w.hp),z3 (kO a b w.hq),z3 (fa a b d.rs d.pos),z3 (b8 a b w.hq.1 w.hp.1),z3 (b8 a b w.hq.2 w.hp.2),z3 (b8 a b d.o.1 w.hp.1),z3 (b8 a b d.o.2 w.hp.2),z3 w.sqr,z3 (fa a b w.qs w.q1),z3 w.e,z3 w.k,z3 (cP a b w.qo d.r),z3 (cP a b w.ko w.ko),z3 (b8 a b w.m1 w.m2),z3 (fa a b w.xs f),z3 (vz a b w.eo w.d (by rw[w.q1];decide)),z3 (cP a b e.f w.v.1),z3 (kP a b w.hp.1 e.f1),z3 (cP a b e.f w.v.2),z3 (kP a b w.hp.2 e.f2),.a9 func315 g]
def lT(t:aM)(c:Cr)(p q:Pt):aM:=t++[aZ (lX t c p q) (2^y6 t)]
def lA(t:aM)(c:Cr)(p q:Pt):ai cl:=oX (lE t c p q) (cg (y6 t))
def lB(t:aM)(c:Cr)(p q:Pt):ai cl:=g8 (lE t c p q) (cg (y6 t))
def lG(t:aM)(c:Cr)(p q:Pt):ai cl:=x_ (lT t c p q) (lA t c p q) (lQ t p q)
def lH(t:aM)(c:Cr)(p q:Pt):ai cl:=x_ (lT t c p q) (lB t c p q) (lQ t p q)
structure ane(η:aw)(t:aM)(c:Cr)(p q:Pt):Prop where
 r:Ok (lT t c p q) (cg t.length)
 e:Ok (lT t c p q) (lE t c p q)
 a:Ok (lT t c p q) (lA t c p q)
 b:Ok (lT t c p q) (lB t c p q)
 d:TW η (lT t c p q) (lQ t p q)
 d0:aL (lT t c p q) (lQ t p q)≠0
 v:jD (lT t c p q) (lV p q)
 hp:jD (lT t c p q) p
 g:Ok (lT t c p q) (lG t c p q)
 h:Ok (lT t c p q) (lH t c p q)
 g1:Ok (lT t c p q) (mulL (lT t c p q) (lG t c p q) (lV p q).1)
 g2:Ok (lT t c p q) (mulL (lT t c p q) (lG t c p q) (lV p q).2)
 h1:Ok (lT t c p q) (mulL (lT t c p q) (lH t c p q) (lV p q).1)
 h2:Ok (lT t c p q) (mulL (lT t c p q) (lH t c p q) (lV p q).2)
def abJ(b:dn δ t)(e:A7 δ t E)(w:ag0 G δ t E l m)(g:iy zZq G f315 [y0 0 0] (Ec (lT t E l m)) (aG (lT t E l m)) (Ec (lT t E l m))){η:aw}(d:dn η (lT t E l m))(k:ane η t E l m)(ex:xf G 207 [aG t,au (lX t E l m)] (.aP [aG (lT t E l m),au (cg (y6 t)),xc]))(f:aL t (lX t E l m)=1):
  xf G 203 [aG t,Om E,mg l,mg m] (.aP [z7 (lT t E l m) (Rh (cM (lT t E l m) l (lG t E l m) (lV l m))++Rh (cM (lT t E l m) l (lH t E l m) (lV l m))),xc]):=
 Spec.y a (az MX roM) func203 [] [z3 (vA a b),z3 (kO a b e.o),z3 (gZ a b e.r),z3 (kO a b w.hp),z3 (kO a b w.hq),z3 (fa a b e.rs e.pos),z3 (b8 a b w.hq.1 w.hp.1),z3 (b8 a b w.hq.2 w.hp.2),z3 (b8 a b e.o.1 w.hp.1),z3 (b8 a b e.o.2 w.hp.2),z3 w.sqr,z3 (fa a b w.qs w.q1),z3 w.e,z3 w.k,z3 (cP a b w.qo e.r),z3 (cP a b w.ko w.ko),z3 (b8 a b w.m1 w.m2),z3 (fa a b w.xs f),z3 ex,z3 (kP a d k.e k.r),z3 (vz a d k.a k.d k.d0),z3 (cP a d k.g k.v.1),z3 (kP a d k.hp.1 k.g1),z3 (cP a d k.g k.v.2),z3 (kP a d k.hp.2 k.g2),z3 (b8 a d k.e k.r),z3 (vz a d k.b k.d k.d0),z3 (cP a d k.h k.v.1),z3 (kP a d k.hp.1 k.h1),z3 (cP a d k.h k.v.2),z3 (kP a d k.hp.2 k.h2),.a9 func315 g]
section
variable (l:Lk) (a:As) {kd j0 j1 dr:aw}
def Ul(e:aa G)(b:j1<y6 l.js):iy zZq G f270 [y0 0 0] (kQ l ⟨kd,[i],[j0,j1],dr⟩ a) (y4 (Hh (y7 l.js j1 bc))) (kQ l ⟨kd,[i],[j0,j1],dr⟩ a):=by have d:=ay bQ za b;have c:=aq bQ za b;have f:=fO bQ b bc;exact iy.bK e (az []) _ (ro:=[998]) (m:=60) [.er 14 (nat j1),yu d,yu c,.eq 16 f]
def Ku(g:Gp)(j:Jt):Hd:=⟨n8 (jX l g 0 i),il l g a 0 i,n8 (dQ l i j.p)⟩
def afF:ai c7:=[270,192,249,250,202]++opsV
def anM(b:aa G){j:Jt}(o:y7 l.js j1 bc=j)(r:j1<y6 l.js)
  (n:iy zZq G f192 [y0 0 0,nat 0,nat i] (kQ l ⟨kd,[i],[j0,j1],dr⟩ a) (.aP [(n8 (jX l ⟨kd,[i],[j0,j1],dr⟩ 0 i)).Cd,mg (il l ⟨kd,[i],[j0,j1],dr⟩ a 0 i)]) (kQ l ⟨kd,[i],[j0,j1],dr⟩ a))
  (g:tB l i j.p) (f:tB l j.b j.on) (e:tB l j.b j.to) (d:j.b<y6 a.bs) (k:Rd G l a j.b j.on) (h:Rd G l a j.b j.to):
  iy zZq G f202 [y0 0 0] (kQ l ⟨kd,[i],[j0,j1],dr⟩ a) (.aP [TU (Ku l a (i:=i) ⟨kd,[i],[j0,j1],dr⟩ j),mg (kS l a j.b j.on),mg (kS l a j.b j.to)]) (kQ l ⟨kd,[i],[j0,j1],dr⟩ a):=by
 have c:=Ul l a (kd:=kd) (i:=i) (j0:=j0) (dr:=dr) b r;rw[o]at c;exact iy.bK b (az afF) _ (ro:=[998]) (m:=60) [.a9 func270 c,.a9 func192 n,.a9 func249 (nM b l ⟨kd,[i],[j0,j1],dr⟩ a g.1 g.2),.a9 func250 (tj b l ⟨kd,[i],[j0,j1],dr⟩ a f.1 f.2 d k),.a9 func250 (tj b l ⟨kd,[i],[j0,j1],dr⟩ a e.1 e.2 d h)]
variable {A:Hd} {p q:Pt}
def aax(b:aa G){T:aM}{n:aw}
  (e:iy zZq G f202 [y0 0 0] (kQ l ⟨kd,[i],[j0,j1],dr⟩ a) (.aP [TU A,mg p,mg q]) (kQ l ⟨kd,[i],[j0,j1],dr⟩ a))
  (a1:A.c.Fit) (d:A.p.Fit) (c:A.v.yj) (f:nV A.v.sq=1)
  (li:xf G 203 [aG a.t,Om A.cr,mg p,mg q] (.aP [z7 T S,xc])) (pl:xf G 201 [z7 T S,yI 1 aj (Yn A)] (.aP [yI n aj U,xc])):
  iy zZq G f151 [y0 0 0] (kQ l ⟨kd,[i],[j0,j1],dr⟩ a) (.aP [yI n aj U,xc]) (kQ l ⟨kd,[i],[j0,j1],dr⟩ a):=
 iy.bK b (az afF) _ (ro:=[998]) (m:=60) [.a9 func202 e,z3 (gQ b a1 d),z3 (Zc b c f),z3 (zN b a1 d c),z3 li,z3 pl]
def aft(b:aa G)
  (c:iy zZq G f202 [y0 0 0] (kQ l ⟨kd,[i],[j0,j1],dr⟩ a) (.aP [TU A,mg p,mg q]) (kQ l ⟨kd,[i],[j0,j1],dr⟩ a))
  (a1:A.c.Fit) (f:A.p.Fit) (e:A.v.yj) (d:nV A.v.sq=0):
  iy zZq G f151 [y0 0 0] (kQ l ⟨kd,[i],[j0,j1],dr⟩ a) (.aP [SA,lY 15]) (kQ l ⟨kd,[i],[j0,j1],dr⟩ a):=
 iy.bK b (az afF) _ (ro:=[998]) (m:=60) [.a9 func202 c,z3 (gQ b a1 f),z3 (VX b e d)]
end
def V2.qw(v w:V2):cl:=v.x*w.y-v.y*w.x
def DN(b:aa G){w:V2}(c:A.Fit)(hw:w.Fit)(e:Qk (A.x*w.y))(d:Qk (A.y*w.x)):xf G 276 [A.Cd,w.Cd] (F (A.qw w)):=
 Spec.y b (az Ph) func276 [] [z3 (Og b c.x hw.y),z3 (Og b c.y hw.x),z3 (agW b e d)]
structure Rp where
 p:V2
 o:Pt
 v:V2
 f:V2
 q:Pt
def Rp.u(x:Rp):V2:=x.f.sub x.p
def Rp.h(x:Rp):ai cl:=iq (x.v.qw x.u)
def Rp.n(x:Rp):ai cl:=iq x.v.sq
def Rp.mc(x:Rp):Pt:=kv x.q x.o
def Rp.d(t:aM)(x:Rp):ai cl:=vP t x.mc x.mc
def Rp.r(t:aM)(x:Rp):ai cl:=g8 (mulL t x.n (x.d t)) (mulL t x.h x.h)
structure am8(G:bn->Prop)(δ:aw)(t:aM)(x:Rp)(to:V2):Prop where
 hp:x.p.Fit
 hf:x.f.Fit
 ht:to.Fit
 hv:x.v=to.sub x.f
 v:x.v.yj
 hu:x.u.Fit
 c1:Qk (x.v.x*x.u.y)
 c2:Qk (x.v.y*x.u.x)
 c:Qk (x.v.qw x.u)
 ho:jD t x.o
 hq:jD t x.q
 w:jD t x.mc
 dd:Spec zZq G 158 [aG t,mg x.mc,mg x.mc] (.aP [au (x.d t),yT .nilIface])
 h:Ok t x.h
 hs:Ck δ t x.h
 n:Ok t x.n
 d:Ok t (x.d t)
 ds:Ck δ t (x.d t)
 m1:Ok t (mulL t x.n (x.d t))
 m2:Ok t (mulL t x.h x.h)
 r:Ok t (x.r t)
 rs:Ck δ t (x.r t)
def Rp.b(t:aM)(x:Rp):Pt:=yQ t x.h (wH x.mc.2,x.mc.1)
def Rp.w(t:aM)(x:Rp)(root:ai cl):Pt:=kv (yQ t root x.mc) (x.b t)
def Rp.z(t:aM)(x:Rp)(T:aM)(root:ai cl):Pt:=(x_ T (x.w T root).1 (x.d t),x_ T (x.w T root).2 (x.d t))
def Rp.pl(t:aM)(x:Rp)(T:aM)(root:ai cl):Pl:=s_ T x.v (x.z t T root) x.p x.o
structure agS(G:bn->Prop)(η:aw)(t:aM)(T:aM)(x:Rp)(root:ai cl):Prop where
 a:Spec zZq G 210 [aG T,au root,mg x.mc] (.aP [mg (yQ T root x.mc),yT .nilIface])
 ng:Ok T x.mc.2
 b:Spec zZq G 210 [aG T,au x.h,mg (wH x.mc.2,x.mc.1)] (.aP [mg (x.b T),yT .nilIface])
 ao:jD T (yQ T root x.mc)
 bo:jD T (x.b T)
 w:jD T (x.w T root)
 d:TW η T (x.d t)
 d0:aL T (x.d t)≠0
 body:BOk G η T x.v (x.z t T root) x.p x.o
section
variable (l:Lk) (a:As) {kd j0 j1 dr:aw}
def aaZ:ai c7:=[276,251,86,211,158,210,207,51,23,317,312,284]++afF
def Rp.T(t:aM)(x:Rp):aM:=t++[aZ (x.r t) (2^y6 t)]
def HZ(b:aa G){j:Jt}(A:y7 l.js j1 bc=j)(B:j1<y6 l.js)(c:dn δ a.t){x:Rp}(s:iy zZq G f192 [y0 0 0,nat 0,nat i] (kQ l ⟨kd,[i],[j0,j1],dr⟩ a) (.aP [x.p.Cd,mg x.o]) (kQ l ⟨kd,[i],[j0,j1],dr⟩ a))(z:x.f=n8 (dQ l i j.on))(y:x.q=kS l a j.a j.p)(f1:tB l i j.on)(f2:tB l i j.to)(g:tB l j.a j.p)(q:j.a<y6 a.bs)(p:Rd G l a j.a j.p)(w:am8 G δ a.t x (n8 (dQ l i j.to))):
  let M:=λr:D=>iy zZq G f152 [y0 0 0] (kQ l ⟨kd,[i],[j0,j1],dr⟩ a) r (kQ l ⟨kd,[i],[j0,j1],dr⟩ a)
  (True->aL a.t (x.d a.t)=0->aL a.t x.h=0->M (.aP [SA,lY 15]))/\
  (aL a.t (x.r a.t)= -1->aL a.t (x.d a.t)=1->M (.aP [SA,xc]))/\
  (aL a.t (x.r a.t)= -1->aL a.t (x.d a.t)=0->aL a.t x.h=1\/aL a.t x.h= -1->M (.aP [SA,xc]))/\
  (xf G 195 [aG a.t] (aG a.t)->agS G δ a.t a.t x []->aL a.t (x.r a.t)=0->aL a.t (x.d a.t)=1->M (.aP [yI 1 aj (cSd a.t [x.pl a.t a.t []] 0),xc]))/\
  (∀η:aw,dn η (x.T a.t)->xf G 195 [aG (x.T a.t)] (aG (x.T a.t))->Ok (x.T a.t) (cg (y6 a.t))->agS G η a.t (x.T a.t) x (cg (y6 a.t))->agS G η a.t (x.T a.t) x (wH (cg (y6 a.t)))->xf G 207 [aG a.t,au (x.r a.t)] (.aP [aG (x.T a.t),au (cg (y6 a.t)),xc])->aL a.t (x.r a.t)=1->aL a.t (x.d a.t)=1->M (.aP [yI 2 aj (cSd (x.T a.t) [x.pl a.t (x.T a.t) (cg (y6 a.t))] 1++cSd (x.T a.t) [x.pl a.t (x.T a.t) (wH (cg (y6 a.t)))] (-1)),xc])):=by
 have n:=Ul l a (kd:=kd) (i:=i) (j0:=j0) (dr:=dr) b B;rw[A]at n;obtain⟨F,H,C,I,E⟩:=x;simp only at z y;have v:=w.hv;simp only at v;subst z y v;refine⟨λk h o=>iy.bK b (az aaZ) _ (ro:=[998]) (m:=60) [.a9 func270 n,.a9 func192 s,.a9 func249 (nM b l ⟨kd,[i],[j0,j1],dr⟩ a f1.1 f1.2),.a9 func249 (nM b l ⟨kd,[i],[j0,j1],dr⟩ a f2.1 f2.2),z3 (gQ b w.ht w.hf),z3 (gQ b w.hf w.hp),z3 (DN b w.v.f w.hu w.c1 w.c2),z3 (dL b w.c),z3 (tZ b w.v),.a9 func250 (tj b l ⟨kd,[i],[j0,j1],dr⟩ a g.1 g.2 q p),z3 (vv b c w.hq w.ho),z3 w.dd,z3 (cP b c w.n w.d),z3 (cP b c w.h w.h),z3 (b8 b c w.m1 w.m2),z3 (fa b c w.rs rfl),z3 (fa b c w.ds h),z3 (fa b c w.hs o)],λk h=>iy.bK b (az aaZ) _ (ro:=[998]) (m:=60) [.a9 func270 n,.a9 func192 s,.a9 func249 (nM b l ⟨kd,[i],[j0,j1],dr⟩ a f1.1 f1.2),.a9 func249 (nM b l ⟨kd,[i],[j0,j1],dr⟩ a f2.1 f2.2),z3 (gQ b w.ht w.hf),z3 (gQ b w.hf w.hp),z3 (DN b w.v.f w.hu w.c1 w.c2),z3 (dL b w.c),z3 (tZ b w.v),.a9 func250 (tj b l ⟨kd,[i],[j0,j1],dr⟩ a g.1 g.2 q p),z3 (vv b c w.hq w.ho),z3 w.dd,z3 (cP b c w.n w.d),z3 (cP b c w.h w.h),z3 (b8 b c w.m1 w.m2),z3 (fa b c w.rs k),z3 (fa b c w.ds h)],λk h o=>?_,λu e k h=>iy.bK b (az aaZ) _ (ro:=[998]) (m:=60) [.a9 func270 n,.a9 func192 s,.a9 func249 (nM b l ⟨kd,[i],[j0,j1],dr⟩ a f1.1 f1.2),.a9 func249 (nM b l ⟨kd,[i],[j0,j1],dr⟩ a f2.1 f2.2),z3 (gQ b w.ht w.hf),z3 (gQ b w.hf w.hp),z3 (DN b w.v.f w.hu w.c1 w.c2),z3 (dL b w.c),z3 (tZ b w.v),.a9 func250 (tj b l ⟨kd,[i],[j0,j1],dr⟩ a g.1 g.2 q p),z3 (vv b c w.hq w.ho),z3 w.dd,z3 (cP b c w.n w.d),z3 (cP b c w.h w.h),z3 (b8 b c w.m1 w.m2),z3 (fa b c w.rs k),z3 (fa b c w.ds h),z3 e.a,z3 (gZ b c e.ng),z3 e.b,z3 (vv b c e.ao e.bo),z3 (vz b c e.w.1 e.d e.d0),z3 (vz b c e.w.2 e.d e.d0),z3 u,.a9 func193 (re b c e.body)],λ_ f u rt e d ex k h=>iy.bK b (az aaZ) _ (ro:=[998]) (m:=60) [.a9 func270 n,.a9 func192 s,.a9 func249 (nM b l ⟨kd,[i],[j0,j1],dr⟩ a f1.1 f1.2),.a9 func249 (nM b l ⟨kd,[i],[j0,j1],dr⟩ a f2.1 f2.2),z3 (gQ b w.ht w.hf),z3 (gQ b w.hf w.hp),z3 (DN b w.v.f w.hu w.c1 w.c2),z3 (dL b w.c),z3 (tZ b w.v),.a9 func250 (tj b l ⟨kd,[i],[j0,j1],dr⟩ a g.1 g.2 q p),z3 (vv b c w.hq w.ho),z3 w.dd,z3 (cP b c w.n w.d),z3 (cP b c w.h w.h),z3 (b8 b c w.m1 w.m2),z3 (fa b c w.rs k),z3 (fa b c w.ds h),z3 ex,z3 (gZ b f rt),z3 e.a,z3 (gZ b f e.ng),z3 e.b,z3 (vv b f e.ao e.bo),z3 (vz b f e.w.1 e.d e.d0),z3 (vz b f e.w.2 e.d e.d0),z3 u,.a9 func193 (re b f e.body),z3 d.a,z3 (gZ b f d.ng),z3 d.b,z3 (vv b f d.ao d.bo),z3 (vz b f d.w.1 d.d d.d0),z3 (vz b f d.w.2 d.d d.d0),z3 u,.a9 func193 (re b f d.body)]⟩;obtain o|o:=o<;>exact iy.bK b (az aaZ) _ (ro:=[998]) (m:=60) [.a9 func270 n,.a9 func192 s,.a9 func249 (nM b l ⟨kd,[i],[j0,j1],dr⟩ a f1.1 f1.2),.a9 func249 (nM b l ⟨kd,[i],[j0,j1],dr⟩ a f2.1 f2.2),z3 (gQ b w.ht w.hf),z3 (gQ b w.hf w.hp),z3 (DN b w.v.f w.hu w.c1 w.c2),z3 (dL b w.c),z3 (tZ b w.v),.a9 func250 (tj b l ⟨kd,[i],[j0,j1],dr⟩ a g.1 g.2 q p),z3 (vv b c w.hq w.ho),z3 w.dd,z3 (cP b c w.n w.d),z3 (cP b c w.h w.h),z3 (b8 b c w.m1 w.m2),z3 (fa b c w.rs k),z3 (fa b c w.ds h),z3 (fa b c w.hs o)]
end
def am'{x y:cl}(b:Qk x)(c:Qk y)(h:y≠0):xf G 320 [F x,F y] (.aP [F (x/y),xc]):=FD a b.uV c.uV (apc _) (apc _) h
def WR:ai c7:=[42,43,28,112,70,45,320,38,222]
def TL{x:Tn}(c:Qk x.t)(d:x.half=bj->x.t=0):xf G 38 [J5 x] xc:=by
 obtain⟨q,b⟩:=x;cases b with
 |false=>exact Spec.y a (az (WR.erase 38)) func38 [] [z3 (D9 a c)]
 |true=>
  have e:nV q=0:=by rw[show q=0 from d rfl];decide
  exact Spec.y a (az (WR.erase 38)) func38 [] [z3 (D9 a c),z3 (ad6 a c e)]
def Tn.den(x:Tn):cl:=((1:cA):cl)+x.t*x.t
def Tn.cos(x:Tn):cl:=if x.half then((-1:cA):cl)else(((1:cA):cl)-x.t*x.t)/x.den
def Tn.sin(x:Tn):cl:=if x.half then 0 else(x.t+x.t)/x.den
structure agR(x:Tn):Prop where
 q:Qk x.t
 hh:x.half=bj->x.t=0
 q2:Qk (x.t*x.t)
 d:Qk x.den
 d0:x.den≠0
 n:Qk (((1:cA):cl)-x.t*x.t)
 m:Qk (x.t+x.t)
def u6:Qk ((1:cA):cl):=Mx (by rw[pn];omega) za za
def am6(a:aa G){x:Tn}(h:agR x):xf G 222 [J5 x] (.aP [F x.cos,F x.sin]):=by
 obtain⟨q,b⟩:=x;cases b with
 |true=>exact Spec.y a (az (WR.erase 222)) func222 [] [z3 (dM a (i:= -1) za za)]
 |false=>exact Spec.y a (az (WR.erase 222)) func222 [] [z3 (dM a (i:=1) za za),z3 (Og a h.q h.q),z3 (YH a u6 h.q2),z3 (agW a u6 h.q2),z3 (am' a h.n h.d h.d0),z3 (YH a h.q h.q),z3 (am' a h.m h.d h.d0)]
def ao_{x:Tn}(h:agR x):xf G 163 [J5 x] (.aP [F x.cos,xc]):=
 Spec.y a (az WR) func163 [] [z3 (TL a h.q h.hh),z3 (am6 a h)]
def ao9{x:Tn}(h:agR x):xf G 164 [J5 x] (.aP [F x.sin,xc]):=
 Spec.y a (az WR) func164 [] [z3 (TL a h.q h.hh),z3 (am6 a h)]
def lM(l:Lk):D:=y4 (yJ l)
def qx(a:As):D:=y4 (Bm a)
def JtD(j:Jt):D:=y4 (Hh j)
end Tw
namespace fb
section
set_option synthInstance.maxSize 100000
set_option synthInstance.maxHeartbeats 2000000
open zY dH
variable {K:Type} [zY K]
def rg3(ρ:ai K){a b p q l g k d:K}(c n m:K){e f:Ex}(r:p=q)(o:l=g)(s:k=d)[i:Qt ρ a e][j:Qt ρ (b+c*(p-q)+n*(l-g)+m*(k-d)) f](h:(Ex.sub e f).norm=[]:=by kernel_rfl):a=b:=by have:=rg ρ (a:=a) (b:=b+c*(p-q)+n*(l-g)+m*(k-d)) h;rw[this,fJ.2 r,fJ.2 o,fJ.2 s,bB,bB,bB,add_zero',add_zero',add_zero']
end
section
set_option synthInstance.maxSize 100000
set_option synthInstance.maxHeartbeats 2000000
open zY dH
variable {K:Type} [dH K]
def aif:(1:K)+1≠0:=ub (gB j_ j_)
def Jl{d:K}(h:d≠0):d+d≠0:=by have e:d+d=(1+1)*d:=rg [d];rw[e];exact ji aif h
def agD{w e:K}(hw:w≠0)(h:w*e=0):e=0:=(mul_eq_zero h).resolve_left hw
def pf{w a b:K}(hw:w≠0)(h:w*(a-b)=0):a=b:=fJ.1 (agD hw h)
def VB{v1 v2 G H a b d S W r:K}(h:d=v1*v1+v2*v2)(i:S=a+d-b)(e:W=d+d)(d0:d≠0)(f:G*W=S)(j:H*W=r)(g:r*r=(1+1+1+1)*(a*d)-S*S):
  (G*v1-H*v2)*(G*v1-H*v2)+(G*v2+H*v1)*(G*v2+H*v1)=a/\(G*v1-H*v2-v1)*(G*v1-H*v2-v1)+(G*v2+H*v1-v2)*(G*v2+H*v1-v2)=b:=by
 have c:W≠0:=by rw[e];exact Jl d0
 subst h i e;have k1:(G*v1-H*v2)*(G*v1-H*v2)+(G*v2+H*v1)*(G*v2+H*v1)=a:=by
  refine pf (ji c c) ?_;exact rg3 [v1,v2,G,H,a,b,r] ((v1*v1+v2*v2)*(G*(v1*v1+v2*v2+(v1*v1+v2*v2))+(a+(v1*v1+v2*v2)-b))) ((v1*v1+v2*v2)*(H*(v1*v1+v2*v2+(v1*v1+v2*v2))+r)) (v1*v1+v2*v2) f j g
 refine⟨k1,?_⟩;exact rg2 [v1,v2,G,H,a,b,r] 1 (-1) k1 f
def afV{v1 v2 b a G R Q E C r:K}(d:Q=v1*v1+v2*v2)(h:Q≠0)(f:E=v1*b+v2*a)(g:C=v1*a-v2*b)(e:G*Q=E+r)(c:r*r=Q*R-C*C):
  (G*v1-b)*(G*v1-b)+(G*v2-a)*(G*v2-a)=R:=by
 subst d f g;refine pf h ?_;exact rg2 [v1,v2,b,a,G,R,r] (G*(v1*v1+v2*v2)-(v1*b+v2*a)+r) 1 e c
def aiF{b a e d c s n:K}(h:n=b*b+a*a)(f:n≠0)(g:c*n=b*e+a*d)(hs:s*n=b*d-a*e)(hw:e*e+d*d=n):
  c*c+s*s=1/\c*b-s*a=e/\s*b+c*a=d:=by
 subst h;refine⟨?_,?_,?_⟩;refine pf (ji f f) ?_;exact rg3 [b,a,e,d,c,s] (c*(b*b+a*a)+(b*e+a*d)) (s*(b*b+a*a)+(b*d-a*e)) (b*b+a*a) g hs hw;refine pf f ?_;exact rg2 [b,a,e,d,c,s] b (-a) g hs;refine pf f ?_;exact rg2 [b,a,e,d,c,s] a b g hs
def aeD{v1 v2 g f b a n d h r e c:K}(l:n=v1*v1+v2*v2)(o:d=b*b+a*a)(d0:d≠0)(m:h=v1*f-v2*g)(k:r*r=n*d-h*h)(j:e*d=r*b-h* -a)(i:c*d=r*a-h*b):
  e*e+c*c=n/\e*a-c*b=h:=by
 subst l o m;refine⟨?_,?_⟩;refine pf (ji d0 d0) ?_;exact rg3 [v1,v2,g,f,b,a,r,e,c] (e*(b*b+a*a)+(r*b-(v1*f-v2*g)* -a)) (c*(b*b+a*a)+(r*a-(v1*f-v2*g)*b)) (b*b+a*a) j i k;refine pf d0 ?_;exact rg2 [v1,v2,g,f,b,a,r,e,c] a (-b) j i
def FL{a b:K}(h:a*a+b*b=0):a=0/\b=0:=by
 have c:a*a=0:=Nd (rN a) (alX (rN b) (by
  have e:b*b= -(a*a)+(a*a+b*b):=rg [a,b];rw[h,add_zero']at e;exact e.symm))
 have d:b*b=0:=by rw[c,iD]at h;exact h
 exact⟨qI c,qI d⟩
end
end fb
namespace Tw
open fb
def Rt(r:aw)(q:cl):Prop:=∃(D:aw)(z:cA),0<D/\D<=2^r/\q*(D:cl)=(z:cl)/\z.natAbs<=2^r
end Tw
namespace fb
open Tw
variable {j:cl}
def iC.rt{r:aw}(h:iC r j):Rt r j:=⟨j.den,j.num,j.den_pos,h.2,Df j,h.1⟩
end fb
namespace Tw
open fb
variable {C:cA} {j:cl}
def XY{D B:aw}(c:0<D)(b:D<=B)(a:C.natAbs<=B):(hU C D).num.natAbs<=B/\(hU C D).den<=B:=by refine⟨?_,?_⟩;rw[Rat.num_divInt];have e:(D:cA).sign=1:=arz za;rw[e,Int.one_mul];exact apm (sH _ _) a;rw[Rat.den_divInt,ape za];exact apm (aqg _ _) (by simpa using b)
def Rt.rtb{r:aw}(h:Rt r j):iC r j:=by
 obtain⟨D,z,d,c,b,a⟩:=h;have d0:((D:cA):cl)≠0:=by intro e;have:(D:cA)=0:=arK.1 e;omega
 have e:j=hU z D:=by rw[asO,<-b,asi,ar5];rw[show((D:aw):cl)=((D:cA):cl)from rfl,arN _ d0,asI]
 rw[e];exact XY d c a
end Tw
namespace fb
open Tw
variable {j k:cl}
def iC.mul{m n:aw}(h:iC m j)(a:iC n k):iC (m+n) (j*k):=by
 obtain⟨D,z,a0,a1,g,f⟩:=h.rt;obtain⟨E,y,e,d,c,b⟩:=a.rt;refine Rt.rtb ⟨D*E,z*y,aqm a0 e,mul_pow a1 d,?_,by rw[ara];exact mul_pow f b⟩
 push_cast
 rw[<-g,<-c];grind
end fb
namespace Tw
open fb
def afu{m:aw}:2^(m+1)=2^m+2^m:=by rw[apK];omega
end Tw
namespace fb
open Tw
variable {j k:cl}
def iC.add{m n:aw}(h:iC m j)(b:iC n k):iC (m+n+1) (j+k):=by
 obtain⟨D,z,a0,a1,p,i⟩:=h.rt;obtain⟨E,y,g,a,f,d⟩:=b.rt;have k1:=mul_pow a1 a;have k2:=mul_pow i a;have k3:=mul_pow d a1;have e:=afu (m:=m+n);have c:n+m=m+n:=za
 rw[c]at k3;refine Rt.rtb ⟨D*E,z*E+y*D,aqm a0 g,by omega,?_,?_⟩
 push_cast
 rw[<-p,<-f];grind;have l:(z*(E:cA)).natAbs=z.natAbs*E:=by rw[ara,aqv]
 have q:(y*(D:cA)).natAbs=y.natAbs*D:=by rw[ara,aqv]
 have:=Int.natAbs_add_le (z*(E:cA)) (y*D);omega
def iC.neg{m:aw}(h:iC m j):iC m (-j):=by refine⟨?_,?_⟩;rw[show(-j).num= -j.num from rfl,arw];exact h.1;exact h.2
def iC.sub{m n:aw}(h:iC m j)(a:iC n k):iC (m+n+1) (j-k):=by rw[arM];exact h.add a.neg
def iC.inv{m:aw}(h:iC m j)(b:j≠0):iC m j⁻¹:=by
 have d:j.num≠0:=by intro e;exact b (asx.1 e)
 have e:=Df j;have f:=arN j b;by_cases c:0<j.num;refine Rt.rtb ⟨j.num.natAbs,j.den,by omega,h.1,?_,by rw[aqv];exact h.2⟩;have a:((j.num.natAbs:aw):cl)=(j.num:cl):=by
  have:((j.num.natAbs:aw):cA)=j.num:=za
  rw[show((j.num.natAbs:aw):cl)=(((j.num.natAbs:aw):cA):cl)from rfl,this]
 rw[a,<-e]
 push_cast
 grind
 refine Rt.rtb ⟨j.num.natAbs,-(j.den:cA),by omega,h.1,?_,by rw[arw,aqv];exact h.2⟩;have a:((j.num.natAbs:aw):cl)= -(j.num:cl):=by
  have:((j.num.natAbs:aw):cA)= -j.num:=za
  rw[show((j.num.natAbs:aw):cl)=(((j.num.natAbs:aw):cA):cl)from rfl,this]
  push_cast;rfl
 rw[a,<-e]
 push_cast
 grind
def iC.int{m:aw}(z:cA)(h:z.natAbs<=2^m):iC m (z:cl):=⟨by simpa using h,aqC za⟩
def iC.zero(m:aw):iC m 0:=iC.int 0 (apJ _)
def iC.bt{m:aw}(h:iC m j):Bt m [j]:=by
 refine⟨j.den,j.num.natAbs,j.den_pos,h.2,h.1,λi=>?_⟩;cases i with
 |zero=>exact⟨j.num,Df j,apc _⟩
 |succ i=>exact⟨0,by simp,by simp⟩
def iC.num{m:aw}(h:iC m j)(t:aM):aH m t (iq j):=⟨Sh.l7 _ j,h.bt.short (Sh.single 0 j)⟩
def iC.qk{m:aw}(h:iC m j)(a:m<=NB):gY KB j:=h.bt.fit a j (apg.2 rfl)
end fb
namespace Tw
open fb
structure V2.B(r:aw)(v:V2):Prop where
 x:iC r v.x
 y:iC r v.y
def V2.B.mono{r m:aw}{v:V2}(h:V2.B r v)(a:r<=m):V2.B m v:=⟨h.x.mono a,h.y.mono a⟩
def V2.B.sub{r:aw}{v w:V2}(h:V2.B r v)(a:V2.B r w):V2.B (r+r+1) (v.sub w):=⟨h.x.sub a.x,h.y.sub a.y⟩
variable {A:V2}
def V2.B.fit{r:aw}(h:V2.B r A)(a:r<=NB):A.Fit:=⟨h.x.qk a,h.y.qk a⟩
def V2.B.sq{r:aw}{v:V2}(h:V2.B r v):iC (r+r+(r+r)+1) v.sq:=(h.x.mul h.x).add (h.y.mul h.y)
def V2.B.ZG{r:aw}(h:V2.B r A)(a:r+r+(r+r)+1<=NB):A.yj:=⟨h.fit za,(h.x.mul h.x).qk za,(h.y.mul h.y).qk za,h.sq.qk a⟩
def V2.B.qw{r:aw}{v w:V2}(h:V2.B r v)(a:V2.B r w):iC (r+r+(r+r)+1) (v.qw w):=(h.x.mul a.y).sub (h.y.mul a.x)
variable {t T:aM} {δ η:aw}
variable {c f:ai cl}
def aH.add{m n:aw}(d:aH m t c)(a:aH n t f):aH (m+n+1) t (oX c f):=(d.plus a).short
def aH.sub{m n:aw}(d:aH m t c)(a:aH n t f):aH (m+n+1) t (g8 c f):=(d.plus a.minus).short
def aH.neg{n:aw}(b:aH n t c):aH n t (wH c):=b.minus.short
def aH.mul{m n:aw}(e:oY δ t)(d:aH m t c)(a:aH n t f):aH (m+n+tb δ (y6 t)) t (mulL t c f):=(d.times e a).short
end Tw
namespace fb
open Tw
variable {t T:aM} {δ η:aw}
variable {q s:ai (ai cl)}
def gP.grow{n:aw}(h:gP n t q)(j:∀a∈s,a∈q\/∃b c,b∈q/\c∈q/\(a=oX b c\/a=g8 b c)):gP (n+1) t s:=by
 obtain⟨D,B,k,p,o,i⟩:=h.ms;have e:2^(n+1)=2*2^n:=by rw[apK];omega
 refine⟨λa g=>?_,D,B+B,k,by omega,by omega,λa g=>?_⟩
 ·obtain g|⟨b,c,f,d,rfl|rfl⟩:=j a g
  ·exact h.sh a g
  ·exact(h.sh b f).add (h.sh c d)
  ·exact(h.sh b f).sub (h.sh c d)
 ·obtain g|⟨b,c,f,d,rfl|rfl⟩:=j a g
  ·exact(i a g).mono za
  ·exact((i b f).plus (i c d)).short ((h.sh b f).plus (h.sh c d))
  ·exact((i b f).plus (i c d).minus).short ((h.sh b f).plus (h.sh c d).minus)
def gP.aak{n r:aw}{l:ai (ai cl)}(g:eJ t.length t)(h:gP n t l){x y:cl}(f:iC r x)(e:iC r y){p:ai (ai cl)}
  (j:∀a∈p,a∈l\/∃b q,b∈l/\(q=x\/q=y)/\(a=mulL t b (iq q)\/a=mulL t (iq q) b)):gP (n+r+r) t p:=by
 obtain⟨D,B,v,u,s,k⟩:=h.ms;have i:∀q:cl,Sh 0 (iq q)/\(iq q).getD 0 0=q:=λq=>⟨Sh.l7 0 q,by unfold iq;rw[kU (Sh.single 0 q)];rfl⟩
 refine⟨λa d=>?_,D*(x.den*y.den),B*(2^r*2^r),aqm v (aqm x.den_pos y.den_pos),?_,?_,λa d=>?_⟩;obtain d|⟨b,q,c,_,rfl|rfl⟩:=j a d
 exact h.sh a d;exact(h.sh b c).mul g (Sh.l7 _ q);exact(Sh.l7 _ q).mul g (h.sh b c);rw[arf];exact mul_pow u (mul_pow f.2 e.2);rw[arf];exact mul_pow s (mul_pow (apc _) (apc _));obtain d|⟨b,q,c,o,w⟩:=j a d
 exact((k a d).scale (x.den*y.den)).mono (apT _ (apR f.2 e.2));have m:=(k b c).rat (t:=t) (h.sh b c) (i q).1 (i q).2;have key:Ms (D*q.den) (B*q.num.natAbs) a:=by
  obtain rfl|rfl:=w
  exact m.1.short (f_ _ _ _ g (h.sh b c) (Sh.l7 _ q)).1;exact m.2.short (f_ _ _ _ g (Sh.l7 _ q) (h.sh b c)).1
 obtain rfl|rfl:=o
 have:=key.scale y.den;rw[apx,apx]at this;exact this.mono (apT _ (apR f.1 e.2));have:=key.scale x.den;rw[apx,apx,apC q.den]at this;exact this.mono (apT _ (apR e.1 f.2))
def gP.V5{n r:aw}(f:eJ (y6 t) t){c s:ai cl}{l:ai (ai cl)}(h:gP n t (c::s::l)){x y:cl}(e:iC r x)(d:iC r y):
  gP (n+r+r) t [mulL t c (iq x),mulL t s (iq y),mulL t s (iq x),mulL t c (iq y)]/\gP (n+r+r+1) t ((u5 t c s (yC x y)).1::(u5 t c s (yC x y)).2::c::s::l):=by
 have k:=h.aak f e d (p:=mulL t c (iq x)::mulL t s (iq y)::mulL t s (iq x)::mulL t c (iq y)::c::s::l) (by
  intro a b;simp only[b4]at b;obtain rfl|rfl|rfl|rfl|b:=b
  exact y2 ⟨c,x,by simp,y1 rfl,y1 rfl⟩;exact y2 ⟨s,y,by simp,y2 rfl,y1 rfl⟩;exact y2 ⟨s,x,by simp,y1 rfl,y1 rfl⟩;exact y2 ⟨c,y,by simp,y2 rfl,y1 rfl⟩;exact y1 (by simpa using b))
 refine⟨k.sub (by intro a b;simp only[b4,bI,or_false]at b⊢;obtain h|h|h|h:=b<;>simp[h]),k.grow λa b=>?_⟩;simp only[b4]at b;obtain rfl|rfl|b:=b
 exact y2 ⟨mulL t c (iq x),mulL t s (iq y),by simp,by simp,y2 rfl⟩;exact y2 ⟨mulL t s (iq x),mulL t c (iq y),by simp,by simp,y1 rfl⟩;exact y1 (by simp only[b4];exact y2 (y2 (y2 (y2 b))))
end fb
namespace Tw
open fb
variable {t T:aM} {δ η:aw}
def z5(n:aw)(t:aM)(b:Pl):Prop:=gP n t [b.c,b.s,b.x,b.y]
def mR(n:aw)(t:aM)(p:Pt):Prop:=gP n t [p.1,p.2]
def z5.mono{m n:aw}{b:Pl}(h:z5 m t b)(a:m<=n):z5 n t b:=gP.mono h a
def mR.mono{m n:aw}{p:Pt}(h:mR m t p)(a:m<=n):mR n t p:=gP.mono h a
variable {Q:Pl} {l:Pt}
def mR.x{n:aw}(h:mR n t l):aH n t l.1:=h.num zb
def mR.y{n:aw}(h:mR n t l):aH n t l.2:=h.num zb
def mR.ok{n:aw}{p:Pt}(h:mR n t p)(a:n<=MB):jD t p:=⟨h.x.mono a,h.y.mono a⟩
def z5.ok{n:aw}(h:z5 n t Q)(a:n<=MB):akQ t Q:=⟨(gP.num h zb).mono a,(gP.num h zb).mono a,(gP.num h zb).mono a,(gP.num h zb).mono a⟩
end Tw
namespace fb
open Tw
variable {t T:aM} {δ η:aw}
def iC.pt{r:aw}{x y:cl}(c:iC r x)(b:iC r y)(t:aM):mR (r+r) t (yC x y):=by
 refine((gP.one (c.num t)).both (gP.one (b.num t))).sub λa d=>?_
 simpa [yC]using d
end fb
namespace Tw
open fb
variable {t T:aM} {δ η:aw}
variable {Q:Pl}
def akE{n r:aw}(p:eJ (y6 t) t)(h:z5 n t Q){x y:cl}(o:iC r x)(j:iC r y):mR (n+r+r+2) t (J4 t Q x y):=by
 have k:=(gP.V5 p (c:=Q.c) (s:=Q.s) (l:=[Q.x,Q.y]) h o j).2;refine k.grow λa d=>?_
 simp only[b4,bI,or_false]at d;have m:∀{z a1 i g f e:ai cl},z∈[a1,i,g,f,z,e]/\z∈[a1,i,g,f,e,z]/\z∈[z,a1,i,g,f,e]/\z∈[a1,z,i,g,f,e]:=zb
 obtain d|d:=d
 exact y2 ⟨(u5 t Q.c Q.s (yC x y)).1,Q.x,m.2.2.1,m.1,y1 (d.trans (by simp only[J4,A5]))⟩;exact y2 ⟨(u5 t Q.c Q.s (yC x y)).2,Q.y,m.2.2.2,m.2.1,y1 (d.trans (by simp only[J4,A5]))⟩
variable {G:bn->Prop}
variable (a:aa G) {c f:ai cl} {l m:Pt}
def OE(e:dn δ t){n r:aw}(h:gP n t [c,f]){x y:cl}(d:iC r x)(b:iC r y)(s:n+r+r<=MB):
  xf G 253 [aG t,au c,au f,mg (yC x y)] (.aP [mg (u5 t c f (yC x y)),xc]):=by
 have k:=(gP.V5 e.b.ok.sh (l:=[]) h d b).1;exact ad7 a e ((h.num zb).mono za) ((h.num zb).mono za) ⟨(d.num t).mono za,(b.num t).mono za⟩ ((k.num (by simp[yC])).mono s) ((k.num (by simp[yC])).mono s) ((k.num (by simp[yC])).mono s) ((k.num (by simp[yC])).mono s)
def agN(f:dn δ t){n r:aw}(h:z5 n t Q){x y:cl}(e:iC r x)(d:iC r y)(j:n+r+r+2<=MB):
  xf G 218 [aG t,PlD Q,F x,F y] (.aP [mg (J4 t Q x y),xc]):=by
 have k:=(gP.V5 f.b.ok.sh (c:=Q.c) (s:=Q.s) (l:=[Q.x,Q.y]) h e d).2;have m:MB<=NB:=z8;exact akP a f (z5.ok h za) (e.qk za) (d.qk za) (OE a f (gP.sub h (by intro b g;simp only[b4,bI,or_false]at g⊢;obtain h|h:=g<;>simp[h])) e d za) ⟨(k.num zb).mono za,(k.num zb).mono za⟩
def Hc(d:dn δ t){e:aw}(c:jD t l)(b:jD t m)(g:aH e t (mulL t l.1 m.1))(f:aH e t (mulL t l.2 m.2))(p:e<=MB):
  xf G 158 [aG t,mg l,mg m] (.aP [au (vP t l m),xc]):=agX a d c b (g.mono p) (f.mono p)
def LY(d:dn δ t){e:aw}(c:jD t l)(b:jD t m)(g:aH e t (mulL t l.1 m.2))(f:aH e t (mulL t l.2 m.1))(p:e<=MB):
  xf G 252 [aG t,mg l,mg m] (.aP [au (qZ t l m),xc]):=YI a d c b (g.mono p) (f.mono p)
def Ib{p n:aw}(e:oY δ t)(d:mR p t l)(c:mR n t m):
  gP (p+n+tb δ (y6 t)) t [mulL t l.1 m.1,mulL t l.2 m.2,mulL t l.1 m.2,mulL t l.2 m.1]:=by
 refine gP.Ic e d c λa b=>?_
 simp only[b4,bI,or_false]at b;obtain rfl|rfl|rfl|rfl:=b
 exact⟨l.1,m.1,by simp,by simp,y1 rfl⟩;exact⟨l.2,m.2,by simp,by simp,y1 rfl⟩;exact⟨l.1,m.2,by simp,by simp,y1 rfl⟩;exact⟨l.2,m.1,by simp,by simp,y1 rfl⟩
def QD{p n:aw}(e:oY δ t)(d:mR p t l)(c:mR n t m):gP (p+n+tb δ (y6 t)+1) t [vP t l m,qZ t l m]:=by
 refine(Ib e d c).aik λa b=>?_
 simp only[b4,bI,or_false]at b;obtain rfl|rfl:=b
 exact⟨mulL t l.1 m.1,mulL t l.2 m.2,by simp,by simp,y1 rfl⟩;exact⟨mulL t l.1 m.2,mulL t l.2 m.1,by simp,by simp,y2 rfl⟩
def Ab{p n:aw}(d:mR p t l)(c:mR n t m):mR (p+n+1) t (kv l m):=by
 refine(gP.both d c).aik λa b=>?_
 simp only[b4,bI,or_false]at b;obtain rfl|rfl:=b
 exact⟨l.1,m.1,by simp,by simp,y2 rfl⟩;exact⟨l.2,m.2,by simp,by simp,y2 rfl⟩
def agp(T:aM)(a b:ai cl):x_ T a b=mulL T a (jq T (y6 T) b):=rfl
def SV{n:aw}(d:oY δ t)(b:aH n t c)(f:aL t c≠0)(x:ai cl):aH (ib δ (y6 t) n) (t++[x]) (jq (t++[x]) (t++[x]).length c):=by have h:=b.inv d f;have e:jq (t++[x]) (t++[x]).length c=jq t (y6 t) c:=U3 _ _ _ zb (TX.snoc t x) (λi a=>by rw[TX.snoc t x i a];exact d.ok.sh i a) b.sh;rw[e];exact⟨h.sh.mono zb,h.bt⟩
end Tw
namespace fb
open Tw
variable {t T:aM} {δ η:aw} {G:bn->Prop}
variable {c:ai cl} {q:ai (ai cl)}
def gP.quot{m i:aw}(j:oY η T)(h:gP m T q)(f:aH i T (jq T (y6 T) c)){p:ai (ai cl)}(d:∀a∈p,∃l,l∈q/\a=x_ T l c):gP (m+i+tb η (y6 T)) T p:=by
 refine gP.Ic j h (gP.one f) λa g=>?_
 obtain⟨l,e,rfl⟩:=d a g;exact⟨l,_,e,apg.2 rfl,y1 rfl⟩
end fb
namespace Tw
open fb
variable {t T:aM} {δ η:aw} {G:bn->Prop}
variable {j:cl}
def af3(T:aM)(k:aw)(a:j≠0):jq T k (iq j)=iq j⁻¹:=by
 have e:iq j=[j]:=by unfold iq;rw[tK,ape a]
 have b:j⁻¹≠0:=λe=>by
  have:=arN j a;rw[e,asX]at this;exact api this zv
 have c:iq j⁻¹=[j⁻¹]:=by unfold iq;rw[tK,ape b]
 rw[e,c];cases k with
 |zero=>rfl
 |succ k=>rw[jq,tK,ape a];rfl
end Tw
namespace fb
open Tw
variable {t T:aM} {δ η:aw} {G:bn->Prop}
variable {j:cl} {q s:ai (ai cl)}
def gP.alG{n r:aw}(i:eJ (y6 t) t)(h:gP n t q)(d:iC r j)(b:j≠0)(e:∀a∈s,∃c,c∈q/\a=x_ t c (iq j)):gP (n+r+r) t s:=by
 refine h.aak i (d.inv b) (d.inv b) λa g=>?_
 obtain⟨c,f,rfl⟩:=e a g;exact y2 ⟨c,j⁻¹,f,y1 rfl,y1 (by rw[agp,af3 _ _ b])⟩
end fb
namespace Tw
open fb
variable {t T:aM} {δ η:aw} {G:bn->Prop}
def Uo(a:j7 t)(q:cl):aL t (iq q)=nV q:=by obtain⟨K,_,ι,s,b⟩:=a.model (y6 t) (apc _);rw[ku ι s a.sh b (Sh.l7 _ q),gV,<-BG]
def vJ{a x y:o}(h:a∈[x,y]):a=x\/a=y:=by simpa using h
def al4{a x y z w:o}(h:a∈[x,y,z,w]):a=x\/a=y\/a=z\/a=w:=by simpa using h
variable {A:V2} {c:ai cl} {l m:Pt}
def alE{n r:aw}(e:eJ (y6 t) t)(hw:mR n t l){x y:cl}(c:iC r x)(b:iC r y):
  gP (n+r+r) t [mulL t (iq x) l.1,mulL t (iq y) l.2,mulL t (iq x) l.2,mulL t (iq y) l.1]:=by
 refine gP.alF e hw c b λa d=>?_
 obtain rfl|rfl|rfl|rfl:=al4 d
 exact⟨l.1,x,by simp,y1 rfl,y2 rfl⟩;exact⟨l.2,y,by simp,y2 rfl,y2 rfl⟩;exact⟨l.2,x,by simp,y1 rfl,y2 rfl⟩;exact⟨l.1,y,by simp,y2 rfl,y2 rfl⟩
def N5(r:aa G)(j:dn η T){p:V2}{b d f n y o:aw}(hu:V2.B b A)(i:V2.B d p)(s:A.sq≠0)(hw:mR f T l)(B:mR n T m)
  (J:y=f+2*b+1+2*(4*b+1)) (K:o=y+2*d+2+n) (F:o<=MB) (hs:sb η (y6 T) (4*b+1)<=NB) (E:ib η (y6 T) (4*b+1)<=MB):
  BOk G η T A l p m/\z5 o T (s_ T A l p m):=by
 have H:MB<=NB:=z8;have k:=j.b.ok.sh;have g:iC (4*b+1) A.sq:=hu.sq.mono za;have I:4*b+1<=NB:=apm (sV _ _ _) hs;have k4:=alE k hw hu.x hu.y;have q:gP (f+b+b+1) T [vP T (mQ A) l,qZ T (mQ A) l]:=by
  refine k4.aik λa c=>?_
  obtain rfl|rfl:=vJ c
  exact⟨mulL T (iq A.1) l.1,mulL T (iq A.2) l.2,by simp,by simp,y1 rfl⟩;exact⟨mulL T (iq A.1) l.2,mulL T (iq A.2) l.1,by simp,by simp,y2 rfl⟩
 have u:gP (f+b+b+1+(4*b+1)+(4*b+1)) T [D3 T A l,D2 T A l]:=by
  refine q.alG k g s λa c=>?_
  obtain rfl|rfl:=vJ c
  exact⟨vP T (mQ A) l,by simp,rfl⟩;exact⟨qZ T (mQ A) l,by simp,rfl⟩
 have z:=gP.V5 k (l:=[]) u i.x i.y;have C:gP (f+b+b+1+(4*b+1)+(4*b+1)+d+d+1) T [(zP T A l p).1,(zP T A l p).2]:=z.2.sub λa c=>by
  obtain h|h:=vJ c
  rw[h];exact apw;rw[h];exact apX _ apw
 have D:gP (f+b+b+1+(4*b+1)+(4*b+1)+d+d+1+n) T [(zP T A l p).1,(zP T A l p).2,D3 T A l,D2 T A l,m.1,m.2]:=z.2.both B;have x:jD T (mQ A):=⟨(hu.x.num T).mono za,(hu.y.num T).mono za⟩;have v:jD T l:=hw.ok za;refine⟨⟨hu.ZG za,i.fit za,Hc r j x v (k4.num (by simp[mQ,yC])) (k4.num (by simp[mQ,yC])) za,LY r j x v (k4.num (by simp[mQ,yC])) (k4.num (by simp[mQ,yC])) za,
  (q.num zb).mono za,(q.num zb).mono za,⟨_,g.num T,hs,E⟩,by rw[Uo j.b.ok];exact λe=>s ((CL _).1 e),OE r j u i.x i.y za,B.ok za,mR.ok (p:=zP T A l p) C za⟩,?_⟩
 refine gP.mono (D.grow λa c=>?_) za;obtain rfl|rfl|rfl|rfl:=al4 c
 exact y1 (by simp[s_]);exact y1 (by simp[s_]);exact y2 ⟨m.1,(zP T A l p).1,by simp,by simp,y2 rfl⟩;exact y2 ⟨m.2,(zP T A l p).2,by simp,by simp,y2 rfl⟩
def EZ(l:ai o)(x d:o):(l++[x]).getD (y6 l) d=x:=by simp[bP]
def yx.snoc{n:aw}{x:ai cl}(h:yx δ t)(d:Bt n x):yx (δ+n) (t++[x]):=by
 obtain⟨D,B,a1,c,l,k⟩:=h;obtain⟨E,C,i,b,g,f⟩:=d;refine⟨D*E,max (B*E) (C*D),aqm a1 i,mul_pow c b,Nat.max_le.2 ⟨mul_pow l b,by rw[aqF];exact mul_pow g c⟩,λj=>?_⟩
 obtain a|a|a:=aq5 j (y6 t)
 ·have e:(t++[x]).getD j []=y7 t j []:=by simp only[bP,g6 a]
  rw[e];exact((k j).scale E).mono (arP _ _)
 ·rw[a,EZ]
  have:=f.scale D;rw[apC E]at this;exact this.mono (arI _ _)
 ·have e:(t++[x]).getD j []=[]:=by rw[apf,apL zT];rfl
  rw[e];exact .nil _ _
def RM(a:Sh (y6 t) c)(d:eJ (y6 t) t)(x:ai cl):aL (t++[x]) c=aL t c:=
 HQ _ _ _ zb (TX.snoc t x) (λi b=>by rw[TX.snoc t x i b];exact d i b) a
def T0{k:aw}:Sh k (aZ c (2^k)):=.of (fy c _)
def OR(b:j7 t)(d:Sh (y6 t) c):aL t (aZ c (2^y6 t))=aL t c:=by obtain⟨K,_,ι,s,a⟩:=b.model (y6 t) (apc _);rw[ku ι s b.sh a T0,ku ι s b.sh a d];unfold vl;rw[Ao]
def aH.wide{n:aw}(h:aH n t c):aH n t (aZ c (2^y6 t)):=⟨T0,h.bt.part λi=>by rw[lh];split;exact y2 ⟨i,rfl⟩;exact y1 rfl⟩
def mK(t:aM)(d:ai cl):aM:=t++[aZ d (2^y6 t)]
def bW(d:ai cl):y6 (mK t d)=y6 t+1:=by simp[mK]
def aiB(b:j7 t)(g:Sh (y6 t) c)(f:0<=aL t c)(i:y6 t<=4):j7 (mK t c):=by
 refine⟨by rw[bW];omega,λj a=>?_,λj a=>?_⟩;rw[bW]at a;obtain h|h:=apy j (y6 t)
 have:=TX.snoc t (aZ c (2^y6 t)) j h;rw[show mK t c=t++[aZ c (2^y6 t)]from rfl,this];exact b.sh j h;have:j=y6 t:=za
 subst this;rw[show mK t c=t++[aZ c (2^y6 t)]from rfl,EZ,fy];rw[bW]at a;obtain h|h:=apy j (y6 t)
 have e:=TX.snoc t (aZ c (2^y6 t)) j h;have d:(mK t c).take j=t.take j:=by rw[show mK t c=t++[aZ c (2^y6 t)]from rfl,asC za]
 rw[d,show mK t c=t++[aZ c (2^y6 t)]from rfl,e];exact b.nn j h;have:j=y6 t:=za
 subst this;have d:(mK t c).take (y6 t)=t:=by rw[show mK t c=t++[aZ c (2^y6 t)]from rfl,asC za,aqM]
 rw[d,show mK t c=t++[aZ c (2^y6 t)]from rfl,EZ];have:=OR b g;unfold aL at this f;rw[this];exact f
def Z4(b:dn δ t){n:aw}(a:aH n t c)(f:0<=aL t c)(e:y6 t<=4)(hs:sb (δ+n) (y6 t+1) (δ+n)<=NB)(d:tb (δ+n) (y6 t+1)<=MB):dn (δ+n) (mK t c):=
 ⟨⟨aiB b.b.ok a.sh f e,yx.snoc b.b.bt (aH.wide a).bt,by rw[bW];exact hs⟩,by rw[bW];exact d⟩
def aH.up{n:aw}(h:aH n t c)(d:ai cl):aH n (mK t d) c:=⟨h.sh.mono (by rw[bW];omega),h.bt⟩
end Tw
namespace fb
open Tw
variable {t:aM}
variable {q:ai (ai cl)}
def gP.up{n:aw}(h:gP n t q)(d:ai cl):gP n (mK t d) q:=⟨λa b=>(h.sh a b).mono (by rw[bW];omega),h.ms⟩
end fb
namespace Tw
open fb
variable {G:bn->Prop} {t T:aM} {δ η:aw}
def mR.up{n:aw}{p:Pt}(h:mR n t p)(d:ai cl):mR n (mK t d) p:=gP.up h d
def z5.up{n:aw}{b:Pl}(h:z5 n t b)(d:ai cl):z5 n (mK t d) b:=gP.up h d
def Wy(k:aw):y6 (cg k)=2^(k+1):=by
 have:=da k;have a:2^(k+1)=2^k+2^k:=by rw[apK];omega
 unfold cg;rw[ap4,fy,aqO,fy];omega
def Z'(k:aw):Bt 0 (cg k):=by
 refine⟨1,1,by omega,by omega,by omega,λi=>?_⟩;have h:(cg k).getD i 0=0\/(cg k).getD i 0=1:=by
  unfold cg;rw[I'];split;left;rw[lh];split<;>rfl;generalize i-y6 (aZ [] (2^k))=j;cases j with
  |zero=>right;rfl
  |succ j=>left;rw[aru,lh];split<;>rfl
 obtain h|h:=h
 exact⟨0,by rw[h];simp,by simp⟩;exact⟨1,by rw[h];simp,by simp⟩
def iO(d:ai cl):aH 0 (mK t d) (cg (y6 t)):=⟨.of (by rw[Wy,bW]),Z' _⟩
def ame{l:ai o}(h:y6 l<=3):l=[]\/(∃a,l=[a])\/(∃a b,l=[a,b])\/∃a b c,l=[a,b,c]:=by
 match l,h with
 |[],_=>exact y1 rfl
 |[a],_=>exact y2 (y1 ⟨a,rfl⟩)
 |[a,b],_=>exact y2 (y2 (y1 ⟨a,b,rfl⟩))
 |[a,b,c],_=>exact y2 (y2 (y2 ⟨a,b,c,rfl⟩))
variable (a:aa G) {c:ai cl}
def NG(d:dn δ t)(b:δ<=NB){n:aw}(e:aH n t c)(i:n<=MB)(hs:sb δ (y6 t) n<=NB)(j:0<=aL t c)(l:y6 t<=3):
  xf G 207 [aG t,au c] (.aP [aG (mK t c),au (cg (y6 t)),xc]):=by
 have hw:=aH.wide e;have g:0<=aL t (aZ c (2^y6 t)):=by rw[OR d.b.ok e.sh];exact j
 have f:=e.mono i;unfold mK;clear e i j;obtain rfl|⟨h,rfl⟩|⟨h,k,rfl⟩|⟨h,k,m,rfl⟩:=ame l
 ·exact aoz a d b f hw hs g
 ·exact aoy a d b f hw hs g
 ·exact aox a d b f hw hs g
 ·exact Qw a d b f hw hs g
def U0{l:ai o}(h:y6 l=1):∃a,l=[a]:=ap_.1 h
def abI{l:ai o}(h:y6 l=2):∃a b,l=[a,b]:=by
 match l,h with
 |[a,b],_=>exact⟨a,b,rfl⟩
def ahy{l:ai o}(h:y6 l=4):∃a b c d,l=[a,b,c,d]:=by
 match l,h with
 |[a,b,c,d],_=>exact⟨a,b,c,d,rfl⟩
def amd{l:ai o}(h:y6 l=8):∃a b c d e f g k,l=[a,b,c,d,e,f,g,k]:=by
 match l,h with
 |[a,b,c,d,e,f,g,k],_=>exact⟨a,b,c,d,e,f,g,k,rfl⟩
def tV(u:oY δ t)(y:δ<=NB)(A:y6 t<=4):
  iy zZq G f315 [y0 0 0] (Ec t) (aG t) (Ec t)/\xf G 195 [aG t] (aG t):=by
 have d:∀j q,q∈y7 t j []->gY KB q:=λj q z=>(u.bt.root j).fit y q z
 have e:=u.ok.sh
 match t,A with
 |[],_=>exact⟨anU a,aoZ a⟩
 |[g],_=>
  obtain⟨a0,rfl⟩:=U0 (e 0 zb);have c:=d 0;simp only[kt,b4,bI,or_false,forall_eq]at c;exact⟨anT a c,aoY a c⟩
 |[g,s],_=>
  obtain⟨a0,rfl⟩:=U0 (e 0 zb);obtain⟨w,v,rfl⟩:=abI (e 1 zb);have c:=d 0;have b:=d 1;simp only[kt,iz,b4,bI,or_false,uy,forall_eq]at c b;exact⟨anS a c b.1 b.2,aoX a c b.1 b.2⟩
 |[g,s,x],_=>
  obtain⟨a0,rfl⟩:=U0 (e 0 zb);obtain⟨w,v,rfl⟩:=abI (e 1 zb);obtain⟨c0,D,C,B,rfl⟩:=ahy (e 2 zb);have c:=d 0;have b:=d 1;have f:=d 2;simp only[kt,iz,b4,bI,or_false,uy,forall_eq]at c b f;exact⟨anR a c b.1 b.2 f.1 f.2.1 f.2.2.1 f.2.2.2,aoW a c b.1 b.2 f.1 f.2.1 f.2.2.1 f.2.2.2⟩
 |[g,s,x,E],_=>
  obtain⟨a0,rfl⟩:=U0 (e 0 zb);obtain⟨w,v,rfl⟩:=abI (e 1 zb);obtain⟨c0,D,C,B,rfl⟩:=ahy (e 2 zb);obtain⟨d0,d1,d2,d3,d4,d5,d6,d7,rfl⟩:=amd (e 3 zb);have c:=d 0;have b:=d 1;have f:=d 2;have h:=d 3;simp only[kt,iz,b4,bI,or_false,uy,forall_eq]at c b f h;obtain⟨r,p,o,n,m,l,k,i⟩:=h;exact⟨anQ a c b.1 b.2 f.1 f.2.1 f.2.2.1 f.2.2.2 r p o n m l k i,aoV a c b.1 b.2 f.1 f.2.1 f.2.2.1 f.2.2.2 r p o n m l k i⟩
end Tw
end Lw
