/- Part 7. -/
import Derived.Test.YtmcpfihkambgnaaGreatLs06
import Derived.Test.YtmcpfihkambgnaaGreatRows
set_option maxHeartbeats 2000000
set_option linter.all false
open Option renaming some->a6,none->bk
open _root_ renaming List->ai,Nat->aw,Bool->b5,Option->bF,beq_eq_false_iff_ne->c4,Int->cA,ByteArray->cB,Rat->cl,if_true->gn,of_decide_eq_true->hJ,bne_iff_ne->kE,Inhabited->ka,if_neg->ks
open Bool renaming false->aj,true->bj,and_eq_true->dT,not_eq_true->nv
open Go renaming Value->b3,World->bn,TypeId->c5,Program->cp,MemPlace->oA,DataW->qm
open List renaming mem_cons->b4,not_mem_nil->bI,getD_eq_getElem?_getD->bP,replicate->cd,range->ch,length_cons->ey,length_nil->fl,length_append->j3,foldl_cons->lr,getElem?_eq_getElem->py,getElem?_map->qW,filter_cons->vk,length->y6,getD->y7
open Go.IntKind renaming wrap->bJ
open Inhabited renaming default->bc
open Go.DataW renaming trod->dO,trod_struct->kq,Trod->v8,agg->vq
open Option.some renaming injEq->eE
open List.cons renaming injEq->en
open Prod.mk renaming injEq->gu
open Go.Proofs.Tryz renaming underlying49->tc,underlying4->uM
open Lw.Item renaming call->z3,prop->yu
open Lw.D renaming row->yI,lit->yT,ptr->y0,agg->y4
open Or renaming inl->y1,inr->y2
open Lw.iw renaming normal->y3,exit->y5
open Int renaming ofNat->zNq
open Go.Proofs.Tryz renaming prog->zZq
open Go.Proofs.Tryz
open Bool renaming and_eq_true->zLq
open Option renaming some.injEq->zIq
namespace Lw
namespace Tw
section
open Go Go.RowKit Go.Proofs
variable {G:bn->Prop} {l:pB} {i:aw}
def ckJ(l:pB)(i:aw):St:=lay 59 [(1,.aJ (uI l)),(4,nat i)] []
def ckD(l:pB)(i:aw):St:=lay 59 [(1,.aJ (uI l)),(6,nat i)] []
def ckR(n:aw):St:=lay 59 [(2,nat n)] []
def Pz{z:aw}(h:z=0):(zNq z !=zNq 0)=aj:=by rw[h];rfl
def Ts(d:aa G)(a:i<y6 l.js)(e:y6 l.js<=1000)(ok:l.Ok):(P3 l i=0->xo G (ae f30 0) (ckJ l i) y3 (ckJ l (i+1)))/\(P3 l i≠0->xo G (ae f30 0) (ckJ l i) .ret (ckR (P3 l i))):=by
 have c:=af1 d a e ok;generalize P3 l i=z at c;exact⟨λh=>af.r d [.eb 33 (ah a),z3 c,.eb 40 (Pz h),.eq 35 (bL (ax a za))],
  λh=>af.r d [.eb 33 (ah a),z3 c,.eb 40 (GY (b:=0) h)]⟩
variable (a:aa G)
def akp:xo G (ae f30 0) (ckJ l (y6 l.js)) (y5 0) (ckJ l (y6 l.js)):=
 af.r a [.eb 33 (av (apc (y6 l.js)))]
def Tz(d:aa G)(a:i<y6 l.ds)(e:y6 l.ds<=1000)(ok:l.Ok):(Rf l i=0->xo G (ae f30 1) (ckD l i) y3 (ckD l (i+1)))/\(Rf l i≠0->xo G (ae f30 1) (ckD l i) .ret (ckR (Rf l i))):=by
 have c:=acY d a e ok;generalize Rf l i=z at c;exact⟨λh=>af.r d [.eb 50 (ah a),z3 c,.eb 57 (Pz h),.eq 52 (bL (ax a za))],
  λh=>af.r d [.eb 50 (ah a),z3 c,.eb 57 (GY (b:=0) h)]⟩
def akr:xo G (ae f30 1) (ckD l (y6 l.ds)) (y5 2) (ckD l (y6 l.ds)):=
 af.r a [.eb 50 (av (apc (y6 l.ds)))]
def PM(l:pB):aw:=
 if n7 l.nm=aj then 5
 else if y6 l.bs=0 then 10
 else if 8<y6 l.bs then 4
 else if Kz l.bs≠0 then Kz l.bs
 else if 16<y6 l.js then 4
 else if jY (P3 l) (y6 l.js)≠0 then jY (P3 l) (y6 l.js)
 else if 2<y6 l.ds then 4
 else jY (Rf l) (y6 l.ds)
def agB(a:aa G)(ok:l.Ok):xf G 30 [Co l] (nat (PM l)):=by
 have c:=Fz a ok.nm;unfold PM;split;rename_i o;rw[o]at c;exact Spec.r a func30 [1] [z3 c];rename_i o;have t:n7 l.nm=bj:=by simpa using o
 rw[t]at c;split;rename_i e;exact Spec.r a func30 [1] [z3 c,.eb 15 (gI e)];rename_i e;split;rename_i f;exact Spec.r a func30 [1] [z3 c,.eb 15 (fh e),.eb 19 (uC f)];rename_i f;have g:=adE a (l:=l) za ok;split;rename_i m;generalize Kz l.bs=z at g m;exact Spec.r a func30 [1] [z3 c,.eb 15 (fh e),.eb 19 (fu f),z3 g,.eb 23 (GY (b:=0) m)];rename_i m;have m:Kz l.bs=0:=za
 rw[m]at g;split;rename_i h;exact Spec.r a func30 [1] [z3 c,.eb 15 (fh e),.eb 19 (fu f),z3 g,.eb 28 (uC h)];rename_i h;rcases dg (P3 l) (y6 l.js) with⟨f1,f2⟩|⟨i,f1,f2,f3,f4⟩
 rw[ape (by rw[f1];simp)];have j:=aI.z zZq G (ae f30 0) (y5 0) (ckJ l (y6 l.js)) (λk=>ckJ l k) (y6 l.js) (λk d=>(Ts a d za ok).1 (f2 k d)) (akp a);split;rename_i n;exact Spec.r a func30 [1] [z3 c,.eb 15 (fh e),.eb 19 (fu f),z3 g,.eb 28 (fu h),.code j,.eb 45 (uC n)];rename_i n;rcases dg (Rf l) (y6 l.ds) with⟨q,p⟩|⟨i,q,p,s,r⟩
 have lq:=aI.z zZq G (ae f30 1) (y5 2) (ckD l (y6 l.ds)) (λk=>ckD l k) (y6 l.ds) (λk d=>(Tz a d za ok).1 (p k d)) (akr a);rw[q];exact Spec.r a func30 [1] [z3 c,.eb 15 (fh e),.eb 19 (fu f),z3 g,.eb 28 (fu h),.code j,.eb 45 (fu n),.code lq];have lq:=aI.z zZq G (ae f30 1) .ret (ckR (Rf l i)) (λk=>ckD l k) i (λk d=>(Tz a za za ok).1 (r k d)) ((Tz a q za ok).2 p);rw[s];exact Spec.r a func30 [1] [z3 c,.eb 15 (fh e),.eb 19 (fu f),z3 g,.eb 28 (fu h),.code j,.eb 45 (fu n),.code lq];rw[aph (by rw[f3];exact f2),f3];have j:=aI.z zZq G (ae f30 0) .ret (ckR (P3 l i)) (λk=>ckJ l k) i (λk d=>(Ts a za za ok).1 (f4 k d)) ((Ts a f1 za ok).2 f2);exact Spec.r a func30 [1] [z3 c,.eb 15 (fh e),.eb 19 (fu f),z3 g,.eb 28 (fu h),.code j]
end
open Go Go.RowKit Go.Proofs
variable {G:bn->Prop}
def aav{α:Type}(f:α->ai D)(sz:aw)(l:ai α)(i:aw):D:=yI i aj (((l.flatMap f).drop (0*sz)).take (i*sz))
section
variable {G:bn->Prop} {α:Type} {f:α->ai D} {sz:aw}
def afs{l:ai α}{i j:aw}(a:j<i):((((l.flatMap f).drop (0*sz)).take (i*sz)).drop ((zNq j).toNat*sz)).take sz=((l.flatMap f).drop ((zNq j).toNat*sz)).take sz:=by
 have e:(zNq j).toNat=j:=rfl;rw[e,aqH,aqD,arY,arl];congr 1;have:j*sz+sz<=i*sz:=by rw[<-aqk];exact apB _ a
 omega
def Ie(c:∀x,y6 (f x)=sz)(d:0<sz){l:ai α}{i j:aw}(a:j<i)(b:i<=y6 l):((0:cA)<=zNq j/\zNq j<((i:aw):cA))/\(zNq j).toNat*sz<y6 (((l.flatMap f).drop (0*sz)).take (i*sz)):=by have e:(zNq j).toNat=j:=rfl;rw[e,aqH,aqD,apr,dq c];refine⟨⟨by simp,by simpa using a⟩,?_⟩;have h:j*sz<i*sz:=aq2 a d;have g:i*sz<=y6 l*sz:=apB _ b;omega
def yU(c:∀x,y6 (f x)=sz)(h:0<sz){l:ai α}{i j:aw}(a:j<i)(b:i<=y6 l):0<sz/\sz<=y6 ((((l.flatMap f).drop (0*sz)).take (i*sz)).drop ((zNq j).toNat*sz)):=by
 have e:(zNq j).toNat=j:=rfl;rw[e,aqH,aqD,apu,apr,dq c];have g:j*sz+sz<=i*sz:=by rw[<-aqk];exact apB _ a
 have d:i*sz<=y6 l*sz:=apB _ b;omega
def C2(b:∀x,y6 (f x)=sz){l:ai α}{i j:aw}(a:j<i)(c:i<=y6 l)(d:α):D.agg (((((l.flatMap f).drop (0*sz)).take (i*sz)).drop ((zNq j).toNat*sz)).take sz)=y4 (f (y7 l j d)):=by rw[afs a];exact fO b za d
end
def mbS(bs:ai xd)(i:aw):St:=lay 85 [(0,aQ tv bs),(11,aQ tv bs),(12,nat (y6 bs)),(13,nat i)] []
def mnS(bs:ai xd)(i j:aw):St:=lay 85 [(0,aQ tv bs),(3,nat i),(4,y0 0 0),(11,aQ tv bs),(12,nat (y6 bs)),(13,nat i),(25,aav tv 2 bs i),(26,nat i),(27,nat j)] [(0,tv (y7 bs i bc))]
section
variable {bs:ai xd} {i j:aw}
variable (a:aa G)
def abu(g:j<i)(b:i<y6 bs)(l:y6 bs<=1000)(h:gr (y7 bs j bc).nm (y7 bs i bc).nm=aj):
  xo G (ae f88 1) (mnS bs i j) y3 (mnS bs i (j+1)):=by
 have d:=Ie a8 za g (apU b);have c:=yU a8 za g (apU b);have e:=C2 a8 g (apU b) bc;exact af.r a [.eb 28 (ah g),yu d,yu c,.eq 30 e,.eq 35 (oC h),.eq 37 (bL (ax g za))]
def ajk:xo G (ae f88 1) (mnS bs i i) (y5 2) (mnS bs i i):=
 af.r a [.eb 28 (av (apc i))]
variable {k:aw}
def mpS(bs:ai xd)(i k:aw):St:=lay 85 [(0,aQ tv bs),(4,y0 0 0),(11,aQ tv bs),(12,nat (y6 bs)),(13,nat i),(44,aQ qp (y7 bs i bc).aC),(45,nat (y7 bs i bc).aC.length),(46,nat k)] [(0,tv (y7 bs i bc))]
def mqS(bs:ai xd)(i k j:aw):St:=lay 85 [(0,aQ tv bs),(4,y0 0 0),(8,y0 1 0),(11,aQ tv bs),(12,nat (y6 bs)),(13,nat i),(44,aQ qp (y7 bs i bc).aC),(45,nat (y7 bs i bc).aC.length),(46,nat k),(59,aav qp 7 (y7 bs i bc).aC k),(60,nat k),(61,nat j)] [(0,tv (y7 bs i bc)),(1,qp ((y7 bs i bc).aC.getD k bc))]
def abr(g:j<k)(b:k<(y7 bs i bc).aC.length)(l:(y7 bs i bc).aC.length<=8)(h:gr ((y7 bs i bc).aC.getD j bc).nm ((y7 bs i bc).aC.getD k bc).nm=aj):
  xo G (ae f88 3) (mqS bs i k j) y3 (mqS bs i k (j+1)):=by
 have d:=Ie bb za g (apU b);have c:=yU bb za g (apU b);have e:=C2 bb g (apU b) bc;exact af.r a [.eb 62 (ah g),yu d,yu c,.eq 64 e,.eq 69 (oC h),.eq 71 (bL (ax g za))]
def ajh:xo G (ae f88 3) (mqS bs i k k) (y5 6) (mqS bs i k k):=
 af.r a [.eb 62 (av (apc k))]
def R9{aC:ai Cm}(d:k<y6 aC)(h:R_ aC k=0):n7 (y7 aC k bc).nm=bj/\(∀j<k,gr (y7 aC j bc).nm (y7 aC k bc).nm=aj)/\(y7 aC k bc).x.valid=bj/\(y7 aC k bc).y.valid=bj:=by
 have n:=ni Cm.nm bc d;have l:(aC.map λm=>m.nm)=aC.map Cm.nm:=rfl;unfold R_ at h;rw[l]at h;split at h;cases h;rename_i g;split at h;cases h;rename_i e;split at h;cases h;rename_i c;refine⟨by simpa using g,?_,?_,?_⟩;rcases n with⟨-,b⟩|⟨b,-⟩
 exact b;exact api b e;cases a:(y7 aC k bc).x.valid with
 |true=>rfl
 |false=>exact api (y1 a) c
 cases a:(y7 aC k bc).y.valid with
 |true=>rfl
 |false=>exact api (y2 a) c
def abt(b:k<(y7 bs i bc).aC.length)(u:(y7 bs i bc).aC.length<=8)(ok:∀m∈(y7 bs i bc).aC,m.Ok)(h:R_ (y7 bs i bc).aC k=0):
  xo G (ae f88 2) (mpS bs i k) y3 (mpS bs i (k+1)):=by
 obtain⟨y,x,w,v⟩:=R9 b h;have r:=ay bb za b;have q:=aq bb za b;have e:=fO bb b bc;have g:=ok _ (aA b bc);obtain⟨C,o,A⟩:=g.x;obtain⟨B,n,z⟩:=g.y;have d:=sk a o za;have c:=sk a n za;rw[w]at d;rw[v]at c;have s:=D7 a y;have p:(0:cA)<=0/\(0:cA)<=zNq k/\zNq k<=((y7 bs i bc).aC.length:cA):=⟨asg 0,arn k,asB.2 (apU b)⟩;have t:=aI.z zZq G (ae f88 3) (y5 6) (mqS bs i k k) (λj=>mqS bs i k j) k (λj l=>abr a l b u (x j l)) (ajh a);exact af.r a [.eb 47 (ah b),yu r,yu q,.eq 50 e,z3 s,.er 58 (nat k),yu p,.code t,z3 d,z3 c,.eq 83 (bL (ax b za))]
def aji:xo G (ae f88 2) (mpS bs i (y7 bs i bc).aC.length) (y5 4) (mpS bs i (y7 bs i bc).aC.length):=
 af.r a [.eb 47 (av (apc (y7 bs i bc).aC.length))]
def jr{f:aw->aw}{n:aw}(h:jY f n=0):∀i<n,f i=0:=by
 rcases dg f n with⟨-,a⟩|⟨i,-,a,b,-⟩
 exact a;rw[b]at h;exact api h a
def TH(b:i<y6 bs)(h:Yu bs i=0):n7 (y7 bs i bc).nm=bj/\(∀j<i,gr (y7 bs j bc).nm (y7 bs i bc).nm=aj)/\(y7 bs i bc).aC.length<=8/\∀k,k<(y7 bs i bc).aC.length->R_ (y7 bs i bc).aC k=0:=by
 have e:=ni xd.nm bc b;unfold Yu at h;split at h;cases h;rename_i d;split at h;cases h;rename_i c;unfold R8 at h;split at h;cases h;rename_i g;refine⟨by simpa using d,?_,by omega,jr h⟩;rcases e with⟨-,a⟩|⟨a,-⟩
 exact a;exact api a c
def abA(c:i<y6 bs)(r:y6 bs<=1000)(ok:∀b∈bs,b.Ok)(h:Yu bs i=0):
  xo G (ae f88 0) (mbS bs i) y3 (mbS bs (i+1)):=by
 obtain⟨v,u,t,s⟩:=TH c h;have n:=ay a8 za c;have m:=aq a8 za c;have e:=fO a8 c bc;have o:=(ok _ (aA c bc)).aC;have p:=D7 a v;have l:(0:cA)<=0/\(0:cA)<=zNq i/\zNq i<=(y6 bs:cA):=⟨asg 0,arn i,asB.2 (apU c)⟩;have q:=aI.z zZq G (ae f88 1) (y5 2) (mnS bs i i) (λj=>mnS bs i j) i (λj g=>abu a g c r (u j g)) (ajk a);have lq:=aI.z zZq G (ae f88 2) (y5 4) (mpS bs i (y7 bs i bc).aC.length) (λk=>mpS bs i k) (y7 bs i bc).aC.length (λk d=>abt a d t o (s k d)) (aji a);exact af.r a [.eb 14 (ah c),yu n,yu m,.eq 17 e,z3 p,.er 24 (nat i),yu l,.code q,.eb 41 (fu (by omega:¬8<(y7 bs i bc).aC.length)),.code lq,.eq 84 (bL (ax c za))]
def ajr:xo G (ae f88 0) (mbS bs (y6 bs)) (y5 0) (mbS bs (y6 bs)):=
 af.r a [.eb 14 (av (apc (y6 bs)))]
def W9(e:y6 bs<=1000)(ok:∀b∈bs,b.Ok)(h:Kz bs=0):xf G 88 [aQ tv bs] xc:=by have d:=aI.z zZq G (ae f88 0) (y5 0) (mbS bs (y6 bs)) (λk=>mbS bs k) (y6 bs) (λk c=>abA a c e ok (jr h k c)) (ajr a);exact Spec.r a func88 [] [.code d]
end
variable (a:aa G) {b:aw} {h:pB} {t:cA} {y:Q_}
def Xt(h:vi t b=bj):xf G 156 [int t,nat b] (bool bj):=by unfold vi at h;rw[dT]at h;exact Spec.r a func156 [] [.eb 6 h.1,.eb 10 h.2]
structure JV(l:pB)(j:Q_):Prop where
 kd:(j.kind=0/\j.to=0)\/(j.kind=1/\vi j.to (nZ l j.b).length=bj/\Ba ((nZ l j.b).getD j.on.toNat bc) ((nZ l j.b).getD j.to.toNat bc)=aj)
 a:vi j.a l.bs.length=bj
 b:vi j.b l.bs.length=bj
 ne:(j.a==j.b)=aj
 p:vi j.p (nZ l j.a).length=bj
 on:vi j.on (nZ l j.b).length=bj
def abR(j:jtF h y=0):JV h y:=by
 unfold jtF at j;split at j;cases j;rename_i g;split at j;cases j;rename_i f;split at j;cases j;rename_i e;split at j;cases j;rename_i d;obtain⟨a1,m⟩:=Fq f;obtain⟨k,i⟩:=Fq d;refine⟨?_,a1,m,by simpa using e,k,i⟩;split at j;rename_i a;split at j;cases j;rename_i b;exact y1 ⟨by simpa using a,by simpa using b⟩;rename_i a;have k1:y.kind=1:=by
  have a:y.kind≠0:=by simpa using a
  by_cases q:y.kind=1;exact q;exact api ⟨kE.2 a,kE.2 q⟩ g
 split at j;cases j;rename_i b;split at j;cases j;rename_i c;exact y2 ⟨k1,by simpa using b,by simpa using c⟩
def abv(ok:h.Ok){j:Q_}(g:JV h j):xf G 155 [Co h,y4 (Fk j)] xc:=by
 obtain⟨q,c,b,ne,r,m⟩:=g;have i:=Xt a c;have ib:=Xt a b;have ip:=Xt a r;have io:=Xt a m;obtain⟨V,k,ja,p,jb,on,to⟩:=j;simp only at q c b ne r m i ib ip io;obtain⟨an,rfl,s⟩:=uv c;obtain⟨e,rfl,n⟩:=uv b;have N:nZ h (zNq an)=(y7 h.bs an bc).aC:=rfl;have eb:nZ h (zNq e)=(y7 h.bs e bc).aC:=rfl;rw[N]at r ip;rw[eb]at m io q;have a1:=Bn s;have z:=bA a8 s 1 za;have y:=j5 a8 s bc 1 za;have x:=Bn n;have w:=bA a8 n 1 za;have v:=j5 a8 n bc 1 za;have f:=(ok.bs _ (aA n bc)).aC;generalize(y7 h.bs an bc)=A at*;generalize(y7 h.bs e bc)=B at*;rcases q with⟨rfl,rfl⟩|⟨rfl,F,l⟩
 exact Spec.r a func155 [2,3] [z3 i,z3 ib,.eb 38 ne,.er 43 (nat e),yu x,yu w,.eq 46 v,.er 52 (nat an),yu a1,yu z,.eq 55 y,z3 ip,z3 io];have it:=Xt a F;obtain⟨o,rfl,d⟩:=uv m;obtain⟨u,rfl,hu⟩:=uv F;have M:(zNq o).toNat=o:=rfl;have L:(zNq u).toNat=u:=rfl;rw[M,L]at l;have o1:=ay bb za d;have o2:=aq bb za d;have o3:=fO bb d bc;have E:=ay bb za hu;have D:=aq bb za hu;have C:=fO bb hu bc;have k1:=f _ (aA d bc);have k2:=f _ (aA hu bc);generalize(y7 B.aC o bc)=P at*;generalize(y7 B.aC u bc)=Q at*;obtain⟨Z,K,U⟩:=k1.x;obtain⟨Y,J,T⟩:=k1.y;obtain⟨X,I,S⟩:=k2.x;obtain⟨W,H,R⟩:=k2.y;have cx:=Mj a (Raw.ok.uV K) (Raw.ok.uV I) za za;have O:=Mj a (Raw.ok.uV J) (Raw.ok.uV H) za za;unfold Ba at l;cases t:wW P.x.q Q.x.q==0 with
 |true=>
  rw[t,asK]at l;exact Spec.r a func155 [2,3] [z3 i,z3 ib,.eb 38 ne,.er 43 (nat e),yu x,yu w,.eq 46 v,.er 52 (nat an),yu a1,yu z,.eq 55 y,z3 ip,z3 io,z3 it,.er 84 (nat o),yu o1,yu o2,.eq 86 o3,.er 89 (nat u),yu E,yu D,.eq 91 C,z3 cx,.eb 97 t,z3 O,.eb 104 l]
 |false=>
  exact Spec.r a func155 [2,3] [z3 i,z3 ib,.eb 38 ne,.er 43 (nat e),yu x,yu w,.eq 46 v,.er 52 (nat an),yu a1,yu z,.eq 55 y,z3 ip,z3 io,z3 it,.er 84 (nat o),yu o1,yu o2,.eq 86 o3,.er 89 (nat u),yu E,yu D,.eq 91 C,z3 cx,.eb 97 t]
section
variable {l:pB} {i j:aw}
def abS(b:i<y6 l.js)(h:P3 l i=0):n7 (y7 l.js i bc).nm=bj/\(∀j<i,gr (y7 l.js j bc).nm (y7 l.js i bc).nm=aj)/\JV l (y7 l.js i bc):=by
 have e:=ni Q_.nm bc b;unfold P3 at h;split at h;cases h;rename_i d;split at h;cases h;rename_i c;refine⟨by simpa using d,?_,abR h⟩;rcases e with⟨-,a⟩|⟨a,-⟩
 exact a;exact api a c
def ac2(b:i<y6 l.ds)(h:Rf l i=0):n7 (y7 l.ds i bc).nm=bj/\(∀j<i,gr (y7 l.ds j bc).nm (y7 l.ds i bc).nm=aj)/\vi (y7 l.ds i bc).body (y6 l.bs)=bj/\(y7 l.ds i bc).body≠0/\∀j<i,sS l.ds i j=aj:=by
 have k:=ni VQ.nm bc b;have m:=L9 (sS l.ds i) i;unfold Rf at h;split at h;cases h;rename_i g;split at h;cases h;rename_i f;split at h;cases h;rename_i e;split at h;cases h;rename_i d;split at h;cases h;rename_i c;refine⟨by simpa using g,?_,by simpa using e,d,?_⟩;rcases k with⟨-,a⟩|⟨a,-⟩
 exact a;exact api a f;rcases m with⟨-,a⟩|⟨a,-⟩
 exact a;exact api a c
def mjS(l:pB)(i:aw):St:=lay 49 [(1,.aJ (uI l)),(14,aQ Fk l.js),(15,nat (y6 l.js)),(16,nat i)] []
def mjN(l:pB)(i j:aw):St:=lay 49 [(1,.aJ (uI l)),(3,nat i),(4,y0 0 0),(14,aQ Fk l.js),(15,nat (y6 l.js)),(16,nat i),(29,aav Fk 7 l.js i),(30,nat i),(31,nat j)] [(0,Fk (y7 l.js i bc))]
def al2(f:j<i)(b:i<y6 l.js)(g:y6 l.js<=1000)(h:gr (y7 l.js j bc).nm (y7 l.js i bc).nm=aj):
  xo G (ae f89 1) (mjN l i j) y3 (mjN l i (j+1)):=by
 have d:=Ie kJ za f (apU b);have c:=yU kJ za f (apU b);have e:=C2 kJ f (apU b) bc;exact af.r a [.eb 32 (ah f),yu d,yu c,.eq 34 e,.eq 39 (oC h),.eq 41 (bL (ax f za))]
def ajl:xo G (ae f89 1) (mjN l i i) (y5 2) (mjN l i i):=
 af.r a [.eb 32 (av (apc i))]
def abw(b:i<y6 l.js)(o:y6 l.js<=1000)(ok:l.Ok)(h:P3 l i=0):
  xo G (ae f89 0) (mjS l i) y3 (mjS l (i+1)):=by
 obtain⟨r,q,p⟩:=abS b h;have g:=ay kJ za b;have f:=aq kJ za b;have e:=fO kJ b bc;have k:=D7 a r;have n:=abv a ok p;have d:(0:cA)<=0/\(0:cA)<=zNq i/\zNq i<=(y6 l.js:cA):=⟨asg 0,arn i,asB.2 (apU b)⟩;have m:=aI.z zZq G (ae f89 1) (y5 2) (mjN l i i) (λj=>mjN l i j) i (λj c=>al2 a c b o (q j c)) (ajl a);exact af.r a [.eb 17 (ah b),yu g,yu f,.eq 20 e,z3 k,.er 28 (nat i),yu d,.code m,z3 n,.eq 48 (bL (ax b za))]
def ajm:xo G (ae f89 0) (mjS l (y6 l.js)) (y5 0) (mjS l (y6 l.js)):=
 af.r a [.eb 17 (av (apc (y6 l.js)))]
def W8(b:¬16<y6 l.js)(ok:l.Ok)(h:jY (P3 l) (y6 l.js)=0):xf G 89 [Co l] xc:=by have d:=aI.z zZq G (ae f89 0) (y5 0) (mjS l (y6 l.js)) (λk=>mjS l k) (y6 l.js) (λk c=>abw a c za ok (jr h k c)) (ajm a);exact Spec.r a func89 [1] [.eb 11 (fu b),.code d]
def mdS(l:pB)(i:aw):St:=lay 72 [(1,.aJ (uI l)),(15,aQ A3 l.ds),(16,nat (y6 l.ds)),(17,nat i)] []
def mdN(l:pB)(i j:aw):St:=lay 72 [(1,.aJ (uI l)),(3,nat i),(4,y0 0 0),(15,aQ A3 l.ds),(16,nat (y6 l.ds)),(17,nat i),(30,aav A3 2 l.ds i),(31,nat i),(32,nat j)] [(0,A3 (y7 l.ds i bc))]
def mdB(l:pB)(i j:aw):St:=lay 72 [(1,.aJ (uI l)),(4,y0 0 0),(15,aQ A3 l.ds),(16,nat (y6 l.ds)),(17,nat i),(58,aav A3 2 l.ds i),(59,nat i),(60,nat j)] [(0,A3 (y7 l.ds i bc))]
def al6(f:j<i)(b:i<y6 l.ds)(g:y6 l.ds<=1000)(h:gr (y7 l.ds j bc).nm (y7 l.ds i bc).nm=aj):
  xo G (ae f90 1) (mdN l i j) y3 (mdN l i (j+1)):=by
 have d:=Ie fZ za f (apU b);have c:=yU fZ za f (apU b);have e:=C2 fZ f (apU b) bc;exact af.r a [.eb 33 (ah f),yu d,yu c,.eq 35 e,.eq 40 (oC h),.eq 42 (bL (ax f za))]
def ajp:xo G (ae f90 1) (mdN l i i) (y5 2) (mdN l i i):=
 af.r a [.eb 33 (av (apc i))]
def al5(f:j<i)(b:i<y6 l.ds)(g:y6 l.ds<=1000)(h:sS l.ds i j=aj):
  xo G (ae f90 2) (mdB l i j) y3 (mdB l i (j+1)):=by
 have d:=Ie fZ za f (apU b);have c:=yU fZ za f (apU b);have e:=C2 fZ f (apU b) bc;exact af.r a [.eb 61 (ah f),yu d,yu c,.eq 63 e,.eb 68 h,.eq 70 (bL (ax f za))]
def ajo:xo G (ae f90 2) (mdB l i i) (y5 4) (mdB l i i):=
 af.r a [.eb 61 (av (apc i))]
def abz(b:i<y6 l.ds)(f:y6 l.ds<=1000)(h:Rf l i=0):
  xo G (ae f90 0) (mdS l i) y3 (mdS l (i+1)):=by
 obtain⟨t,s,r,q,p⟩:=ac2 b h;have k:=ay fZ za b
 have g:=aq fZ za b
 have e:=fO fZ b bc;have m:=D7 a t;have o:=Xt a r;have u:((y7 l.ds i bc).body==0)=aj:=by rw[c4];exact q
 have d:(0:cA)<=0/\(0:cA)<=zNq i/\zNq i<=(y6 l.ds:cA):=⟨asg 0,arn i,asB.2 (apU b)⟩;have n:=aI.z zZq G (ae f90 1) (y5 2) (mdN l i i) (λj=>mdN l i j) i (λj c=>al6 a c b f (s j c)) (ajp a)
 have lq:=aI.z zZq G (ae f90 2) (y5 4) (mdB l i i) (λj=>mdB l i j) i (λj c=>al5 a c b f (p j c)) (ajo a)
 exact af.r a [.eb 18 (ah b),yu k,yu g,.eq 21 e,z3 m,.er 29 (nat i),yu d,.code n,z3 o,.eb 53 u,.er 57 (nat i),yu d,.code lq,.eq 71 (bL (ax b za))]
def ajq:xo G (ae f90 0) (mdS l (y6 l.ds)) (y5 0) (mdS l (y6 l.ds)):=
 af.r a [.eb 18 (av (apc (y6 l.ds)))]
def SH(d:¬2<y6 l.ds)(h:jY (Rf l) (y6 l.ds)=0):xf G 90 [Co l] xc:=by have c:=aI.z zZq G (ae f90 0) (y5 0) (mdS l (y6 l.ds)) (λk=>mdS l k) (y6 l.ds) (λk b=>abz a b za (jr h k b)) (ajq a);exact Spec.r a func90 [1] [.eb 12 (fu d),.code c]
def EO(h:PM l=0):n7 l.nm=bj/\y6 l.bs≠0/\¬8<y6 l.bs/\Kz l.bs=0/\¬16<y6 l.js/\jY (P3 l) (y6 l.js)=0/\¬2<y6 l.ds/\jY (Rf l) (y6 l.ds)=0:=by unfold PM at h;split at h;cases h;rename_i g;split at h;cases h;rename_i f;split at h;cases h;rename_i e;split at h;rename_i b;exact api h b;rename_i b;split at h;cases h;rename_i d;split at h;rename_i a;exact api h a;rename_i a;split at h;cases h;rename_i c;exact⟨by simpa using g,f,e,by omega,d,by omega,c,h⟩
def PF(a:aa G)(ok:l.Ok)(h:PM l=0):xf G 37 [Co l] xc:=by obtain⟨p,o,n,m,k,g,f,e⟩:=EO h;have c:=D7 a p;have b:=W9 a (bs:=l.bs) za ok.bs m;have j:=W8 a k ok g;have d:=SH a f e;exact Spec.r a func37 [1] [z3 c,.eb 13 (fh o),.eb 18 (fu n),z3 b,z3 j,z3 d]
end
open fb
def HA(m:Cm):Mk:=⟨m.nm,m.x.q,m.y.q⟩
def J6(b:xd):Bd:=⟨b.nm,b.aC.map HA⟩
def aex(j:Q_):Jt:=⟨j.nm,j.kind.toNat,j.a.toNat,j.p.toNat,j.b.toNat,j.on.toNat,j.to.toNat⟩
def OG(d:VQ):Dr:=⟨d.nm,d.body.toNat⟩
def jA(l:pB):Lk:=⟨l.nm,l.bs.map J6,l.js.map aex,l.ds.map OG⟩
variable {e:Raw} {n v:Type}
def yR{f:n->ai D}{g:v->ai D}{t:n->v}{l:ai n}(h:∀x∈l,f x=g (t x)):aQ f l=aQ g (l.map t):=by
 unfold aQ;rw[apq,List.flatMap_map];congr 1;induction l with
 |nil=>rfl
 |cons x l a=>
  rw[ap',ap',h x (apw ..),a λy b=>h y (apX _ b)]
def H'(h:e.valid=bj):qO e=cF e.q:=by have:=Oy h;unfold qO cF;rw[<-this]
def yi[ka n]{l:ai n}{P:n->Prop}(h:∀i<y6 l,P (y7 l i bc)):∀x∈l,P x:=λx b=>by obtain⟨i,a,e⟩:=apF.1 b;have:=h i a;rw[apf,apj a]at this;rw[<-e];exact this
def qT{x:cA}(h:0<=x):int x=nat x.toNat:=by show D.lit (.int .i64 x)=yT (.int .i64 (zNq x.toNat));rw[show zNq x.toNat=x from Int.toNat_of_nonneg h]
def mq{x:cA}(h:vi x b=bj):0<=x/\x.toNat<b:=by obtain⟨m,rfl,a⟩:=uv h;exact⟨arn m,a⟩
section
variable {l:pB}
def wi(h:PM l=0):∀b∈l.bs,y6 b.aC<=8/\∀m∈b.aC,m.x.valid=bj/\m.y.valid=bj:=by
 obtain⟨-,-,-,f,-⟩:=EO h;refine yi λi d=>?_
 obtain⟨-,-,e,c⟩:=TH d (jr f i d);exact⟨e,yi λk a=>⟨(R9 a (c k a)).2.2.1,(R9 a (c k a)).2.2.2⟩⟩
def U1(h:PM l=0):∀j∈l.js,JV l j:=by obtain⟨-,-,-,-,-,b,-⟩:=EO h;exact yi λi a=>(abS a (jr b i a)).2.2
def DK(h:PM l=0):∀i<y6 l.ds,vi (y7 l.ds i bc).body (y6 l.bs)=bj/\(y7 l.ds i bc).body≠0/\∀j<i,sS l.ds i j=aj:=by obtain⟨-,-,-,-,-,-,-,b⟩:=EO h;exact λi a=>(ac2 a (jr b i a)).2.2
def SL(h:PM l=0):Co l=lM (jA l):=by
 have s:aQ tv l.bs=aQ A4 (l.bs.map J6):=yR λb p=>by
  have c:=(wi h b p).2;show [xw b.nm,aQ qp b.aC]=[yT (.string b.nm),aQ vt (b.aC.map HA)];rw[yR (g:=vt) (t:=HA) λm e=>by
   obtain⟨v1,v2⟩:=c m e;show xw m.nm::(qO m.x++qO m.y)=yT (.string m.nm)::cPc m.x.q m.y.q;rw[H' v1,H' v2];rfl]
  rfl
 have r:aQ Fk l.js=aQ Hh (l.js.map aex):=yR λj f=>by
  have g:=U1 h j f;have a:0<=j.kind:=by rcases g.kd with⟨k,-⟩|⟨k,-⟩<;>omega
  have t0:0<=j.to:=by
   rcases g.kd with⟨-,k⟩|⟨-,k,-⟩
   ·omega
   ·exact(mq k).1
  show [xw j.nm,int j.kind,int j.a,int j.p,int j.b,int j.on,int j.to]=[yT (.string j.nm),nat j.kind.toNat,nat j.a.toNat,nat j.p.toNat,nat j.b.toNat,nat j.on.toNat,nat j.to.toNat];rw[qT a,qT (mq g.a).1,qT (mq g.p).1,qT (mq g.b).1,qT (mq g.on).1,qT t0];rfl
 have q:aQ A3 l.ds=aQ Ky (l.ds.map OG):=yR λd o=>by
  have:=yi (P:=λd=>vi d.body (y6 l.bs)=bj) (λi n=>(DK h i n).1) d o
  show [xw d.nm,int d.body]=[yT (.string d.nm),nat d.body.toNat];rw[qT (mq this).1];rfl
 show D.agg [xw l.nm,aQ tv l.bs,aQ Fk l.js,aQ A3 l.ds]=y4 [yT (.string l.nm),aQ A4 (l.bs.map J6),aQ Hh (l.js.map aex),aQ Ky (l.ds.map OG)];rw[s,r,q];rfl
end
section
variable {l:pB}
def VH(h:b<y6 l.bs):(jA l).bs.getD b bc=J6 (y7 l.bs b bc):=rU J6 h bc bc
variable {B:aw}
def UT(h:b<y6 l.bs)(a:B<(y7 l.bs b bc).aC.length):dQ (jA l) b B=HA ((y7 l.bs b bc).aC.getD B bc):=by unfold dQ;rw[VH h];exact rU HA a bc bc
def zM(a:cl):wW a a=0:=by unfold wW;rw[ape (ar7),ape (ar7)]
def abF(h:PM l=0):g7 (jA l):=by
 obtain⟨-,B,A,-,z,-,y,-⟩:=EO h;have p:(jA l).bs.length=y6 l.bs:=apq ..;have v:(jA l).js.length=y6 l.js:=apq ..;have w:(jA l).ds.length=y6 l.ds:=apq ..;have c:∀j∈(jA l).js,∃i∈l.js,j=aex i/\JV l i:=λj a=>by obtain⟨i,f,rfl⟩:=apN.1 a;exact⟨i,f,rfl,U1 h i f⟩
 have s:∀d∈(jA l).ds,∃i∈l.ds,d=OG i/\vi i.body (y6 l.bs)=bj/\i.body≠0:=λd m=>by obtain⟨i,f,rfl⟩:=apN.1 m;exact⟨i,f,rfl,yi (P:=λd:VQ=>vi d.body (y6 l.bs)=bj/\d.body≠0) (λi f=>⟨(DK h i f).1,(DK h i f).2.1⟩) i f⟩
 have pl:∀{x:cA},vi x (y6 l.bs)=bj->((jA l).bs.getD x.toNat bc).aC.length=y6 (nZ l x):=λ{x} u=>by rw[VH (mq u).2];exact apq ..
 refine⟨by omega,by omega,by omega,by omega,λj a=>?_,λj a=>?_,λj a=>?_,λj a=>?_,λj a=>?_,λj a=>?_,λj a b=>?_,λj a b=>?_,λd m=>?_,λd m=>?_⟩;obtain⟨i,-,rfl,g⟩:=c j a;show i.kind.toNat=0\/i.kind.toNat=1;rcases g.kd with⟨k,-⟩|⟨k,-⟩
 rw[k];exact y1 rfl;rw[k];exact y2 rfl;obtain⟨i,-,rfl,g⟩:=c j a;rw[p];exact(mq g.a).2;obtain⟨i,-,rfl,g⟩:=c j a;rw[p];exact(mq g.b).2;obtain⟨i,-,rfl,g⟩:=c j a;intro e;have e:i.a.toNat=i.b.toNat:=e;have n:=g.ne;rw[c4]at n;have:=(mq g.a).1;have:=(mq g.b).1;omega;obtain⟨i,-,rfl,g⟩:=c j a;show i.p.toNat<((jA l).bs.getD i.a.toNat bc).aC.length;rw[pl g.a];exact(mq g.p).2;obtain⟨i,-,rfl,g⟩:=c j a;show i.on.toNat<((jA l).bs.getD i.b.toNat bc).aC.length;rw[pl g.b];exact(mq g.on).2;obtain⟨i,-,rfl,g⟩:=c j a;have b:i.kind.toNat=1:=b;show i.to.toNat<((jA l).bs.getD i.b.toNat bc).aC.length;rw[pl g.b];rcases g.kd with⟨k,-⟩|⟨-,k,-⟩
 rw[k]at b;cases b;exact(mq k).2;obtain⟨i,-,rfl,g⟩:=c j a;have b:i.kind.toNat=1:=b;rcases g.kd with⟨k,-⟩|⟨-,k,o⟩
 rw[k]at b;cases b;have t:=(mq g.b).2;have o1:=(mq g.on).2;have t1:=(mq k).2;show(dQ (jA l) i.b.toNat i.on.toNat).x≠(dQ (jA l) i.b.toNat i.to.toNat).x\/(dQ (jA l) i.b.toNat i.on.toNat).y≠(dQ (jA l) i.b.toNat i.to.toNat).y;rw[UT t o1,UT t t1];unfold Ba nZ at o;by_cases r:((y7 l.bs i.b.toNat bc).aC.getD i.on.toNat bc).x.q=((y7 l.bs i.b.toNat bc).aC.getD i.to.toNat bc).x.q;by_cases q:((y7 l.bs i.b.toNat bc).aC.getD i.on.toNat bc).y.q=((y7 l.bs i.b.toNat bc).aC.getD i.to.toNat bc).y.q;rw[r,q,zM,zM]at o;cases o;exact y2 q;exact y1 r;obtain⟨i,-,rfl,g,-⟩:=s d m;rw[p];exact(mq g).2;obtain⟨i,-,rfl,g,n⟩:=s d m;intro e;have e:i.body.toNat=0:=e;have:=(mq g).1;omega
def ahx(h:PM l=0):akY (jA l):=by
 have d:(jA l).ds.length=y6 l.ds:=apq ..;have key:∀i j,i<y6 l.ds->j<i->((jA l).ds.getD i bc).body≠((jA l).ds.getD j bc).body:=λi j a b e=>by have g:(jA l).ds.getD i bc=OG (y7 l.ds i bc):=rU OG a bc bc;have f:(jA l).ds.getD j bc=OG (y7 l.ds j bc):=rU OG za bc bc;rw[g,f]at e;have e:(y7 l.ds i bc).body.toNat=(y7 l.ds j bc).body.toNat:=e;obtain⟨a1,-,n⟩:=DK h i a;obtain⟨m,-,-⟩:=DK h j za;have:=n j b;unfold sS at this;rw[c4]at this;have:=(mq a1).1;have:=(mq m).1;omega
 intro i j a b e;rw[d]at a b;obtain k|heq|c:=aq5 i j
 exact api e.symm (key j i b k);exact heq;exact api e (key i j a c)
end
def mo(r:Raw):b5:=decide (2<y6 r.n+y6 r.d)
variable {B:aw}
def Hk(h:B+b<=1000000000000):bJ .i64 (zNq B+zNq b)=zNq (B+b):=by have e:zNq B+zNq b=zNq (B+b):=rfl;rw[e];have d:(0:cA)<=zNq (B+b):=arn _;have c:zNq (B+b)<=(1000000000000:aw):=asB.2 h;exact qu za za
def ahw{x:Raw}(b:y6 x.n+y6 x.d<=1000000000000):xf G 19 [yI 1 aj (qO x)] (bool (mo x)):=by unfold mo;have e:=bL (Hk b);by_cases h:2<y6 x.n+y6 x.d;rw[apE h];exact Spec.r a func19 [] [.eq 22 e,.eb 23 (uC h)];rw[apG h];exact Spec.r a func19 [] [.eq 22 e,.eb 23 (fu h)]
def ama{x y:Raw}(f:y6 x.n+y6 x.d<=1000000000000)(d:y6 y.n+y6 y.d<=1000000000000):xf G 19 [yI 2 aj (qO x++qO y)] (bool (mo x||mo y)):=by unfold mo;have e:=bL (Hk f);have c:=bL (Hk d);by_cases h:2<y6 x.n+y6 x.d;rw[apE h];exact Spec.r a func19 [] [.eq 22 e,.eb 23 (uC h)];rw[apG h];by_cases b:2<y6 y.n+y6 y.d;rw[apE b];exact Spec.r a func19 [] [.eq 22 e,.eb 23 (fu h),.eq 22 c,.eb 23 (uC b)];rw[apG b];exact Spec.r a func19 [] [.eq 22 e,.eb 23 (fu h),.eq 22 c,.eb 23 (fu b)]
def TZ(h:y6 (words b)<=1):b<=2^64:=by
 have a:=mE (aU b);rw[aK]at a;have c:BP (words b).length<=BP 1:=ny h;have n:BP 1<=2^64:=z2
 omega
def gY.rt{q:cl}(h:gY 1 q):iC 64 q:=⟨TZ h.1,TZ h.2.1⟩
def HS(d:e.ok b)(a:e.valid=bj)(c:mo e=aj):iC 64 e.q:=by
 have c:¬2<y6 e.n+y6 e.d:=by simpa [mo]using c
 have r:e.ok 1:=by
  obtain⟨d1,d2,-,-,-⟩:=d;by_cases k:e.n=[]/\e.d=[];exact⟨d1,d2,by rw[k.1];simp,by rw[k.2];simp,by omega⟩;have g:e.mz:=by unfold Raw.valid at a;rw[ape k]at a;simpa using a
  have f:0<y6 e.n:=aqd.2 g.1;have h:0<y6 e.d:=aqd.2 g.2.1;exact⟨d1,d2,by omega,by omega,by omega⟩
 exact gY.rt r.sz
def Oi(l:pB):Prop:=∀b∈l.bs,∀m∈b.aC,mo m.x=aj/\mo m.y=aj
def amb(ok:h.Ok)(l:PM h=0)(hs:Oi h):LkB 64 (jA h):=λb k m=>by
 obtain⟨c,a⟩:=m;have j:(jA h).bs.length=y6 h.bs:=apq ..;rw[j]at c;have e:=VH c;rw[e]at a;have a:k<(y7 h.bs b bc).aC.length:=by have:(J6 (y7 h.bs b bc)).aC.length=(y7 h.bs b bc).aC.length:=apq ..;omega
 rw[UT c a];have d:=aA c (bc:xd);have hm:=aA a (bc:Cm);obtain⟨s1,s2⟩:=hs _ d _ hm;obtain⟨v1,v2⟩:=(wi l _ d).2 _ hm;have f:=(ok.bs _ d).aC _ hm;obtain⟨o,i,-⟩:=f.x;obtain⟨n,g,-⟩:=f.y;exact⟨HS i v1 s1,HS g v2 s2⟩
structure zZ where
 t:Raw
 half:b5
instance:ka zZ:=⟨⟨⟨aj,[],[]⟩,aj⟩⟩
def oU(x:zZ):ai D:=qO x.t++[bool x.half]
def uH(x:zZ):y6 (oU x)=4:=rfl
def zZ.Ok(x:zZ):Prop:=∃k,x.t.ok k/\2*k<KB
def YU(x:zZ):aw:=if x.t.valid=aj then 2 else if x.half=bj/\(nV x.t.q !=0)=bj then 2 else 0
def Yi{x:zZ}(ok:x.Ok):xf G 31 [y4 (oU x)] (nat (YU x)):=by
 obtain⟨k,d,f⟩:=ok;have v:=lK a d za;have s:=z4 a (Raw.ok.uV d) za;obtain⟨r,e⟩:=x;unfold YU;simp only at v s⊢;cases b:r.valid with
 |false=>
  rw[b]at v;exact Spec.r a func31 [1] [z3 v]
 |true=>
  rw[b]at v;cases e with
  |false=>exact Spec.r a func31 [1] [z3 v]
  |true=>
   cases c:(nV r.q !=0)with
   |true=>exact Spec.r a func31 [1] [z3 v,z3 s,.eb 14 c]
   |false=>exact Spec.r a func31 [1] [z3 v,z3 s,.eb 14 c]
def Em(x:zZ):Tn:=⟨x.t.q,x.half⟩
def yK{x:zZ}(h:YU x=0):x.t.valid=bj/\(x.half=bj->x.t.q=0):=by
 unfold YU at h;split at h;cases h;rename_i d;split at h;cases h;rename_i c;refine⟨by simpa using d,λb=>?_⟩;have a:nV x.t.q=0:=by
  cases q:(nV x.t.q !=0)with
  |true=>exact api ⟨b,q⟩ c
  |false=>simpa using q
 exact HV.1 a
def aih{x:zZ}(h:YU x=0):oU x=Y9 (Em x):=by unfold oU;rw[H' (yK h).1];rfl
def ano{x:zZ}(ok:x.Ok)(h:YU x=0)(c:mo x.t=aj):TnC G (Em x)/\iC 64 (Em x).t/\((Em x).half=bj->(Em x).t=0):=by
 obtain⟨k,d,e⟩:=ok;have q:=HS d (yK h).1 c;have b:64<=NB:=by have:=pn;have:=ad_;omega
 exact⟨TL a (q.qk b) (yK h).2,q,(yK h).2⟩
end Tw
section
open Go Go.RowKit Go.Proofs Go.ChangeShapes Go.WideShapes Go.ChangeAt Tw
variable {H:Type} {enc:c5×b3->H} {W:bn} {fuel:aw} {cs:ai b3} {x:qm H×ai oA}
abbrev kK(d:qm H):aw:=Go.Proofs.YtmcpfihkambgnaaGreat.Rows.uptoBulk d
abbrev D1(l:ai (qm H)):aw:=Go.Proofs.YtmcpfihkambgnaaGreat.Rows.uptoBulkAll l
def AQ{d:qm H}{l:ai (qm H)}(h:d∈l):kK d<=D1 l:=by
 induction l with
 |nil=>cases h
 |cons x r a=>
  show Go.Proofs.YtmcpfihkambgnaaGreat.Rows.uptoBulk d<=Go.Proofs.YtmcpfihkambgnaaGreat.Rows.uptoBulkAll (x::r);simp only[Go.Proofs.YtmcpfihkambgnaaGreat.Rows.uptoBulkAll];obtain e|e:=apo.1 h
  subst e;omega;have:=a e;simp only[D1,kK]at this;omega
def adD(d:qm H):1<=kK d:=by
 cases d with
 |lit l=>cases l<;>simp[kK,Go.Proofs.YtmcpfihkambgnaaGreat.Rows.uptoBulk]
 |_=>simp[kK,Go.Proofs.YtmcpfihkambgnaaGreat.Rows.uptoBulk]
def Gh(l:ai (qm H)):y6 l<=D1 l:=by
 induction l with
 |nil=>simp
 |cons x r a=>have:=adD x;simp only[D1,kK,Go.Proofs.YtmcpfihkambgnaaGreat.Rows.uptoBulkAll,ey]at*;omega
def JC{es rs:ai (qm H)}:D1 es<=kK (.slice es rs):=by simp only[kK,D1,Go.Proofs.YtmcpfihkambgnaaGreat.Rows.uptoBulk];omega
def JD{a:ai (qm H)}:D1 a<=kK (.agg a):=by simp only[kK,D1,Go.Proofs.YtmcpfihkambgnaaGreat.Rows.uptoBulk];omega
def QW{t e:c5}(f:Tryz.prog.underlying t=a6 (.slice e))(h:dO enc zZq W 0 (λ_=>bj) bj fuel t cs=a6 x){k:aw}{full:b5}{xs:ai D}(c:aR W JR cs [yI k full xs]):k<=kK x.1:=by
 rcases DataW.trod_slice f h with⟨rfl,-⟩|⟨a,len,j,elems,b,n,_,rfl,rfl,o,m,l,d,g,-,-⟩
 have:=c.head;cases this;exact apJ _;have:=c.head;cases this;have i:=Gh (elems.map (·.1));have p:=JC (es:=elems.map (·.1)) (rs:=b.map (·.1));rw[apq]at i;show _<=kK (DataW.slice (elems.map (·.1)) (b.map (·.1)));omega
def A6(r:Raw)(b:aw):Prop:=(y6 r.n<=b/\y6 r.d<=b)/\Tw.Raw.amV r
def Al(h:dO enc zZq W 0 (λ_=>bj) bj fuel 51 cs=a6 x):∃r:Raw,A6 r (kK x.1)/\aR W JR cs r.cells:=by
 obtain⟨a,n,-,p,j,y,e⟩:=kq Tryz.underlying51 h;rw[AN]at j;obtain⟨c0,B,A,rfl⟩:=three j;have E:a.length=3:=y;obtain⟨q,z⟩:=gq (l:=a) (i:=0) za;obtain⟨d,o⟩:=gq (l:=a) (i:=1) za;obtain⟨c,m⟩:=gq (l:=a) (i:=2) za;have f0:=cC e 0 _ rfl (t:=4) (off:=0) rfl rfl Jq;have f1:=cC e 1 _ rfl (t:=49) (off:=1) rfl rfl Gf;have f2:=cC e 2 _ rfl (t:=49) (off:=2) rfl rfl Gf;rw[z]at f0;rw[o]at f1;rw[m]at f2;have f0:dO enc zZq W 0 (λ_=>bj) bj n 4 [c0]=a6 q:=f0;have f1:dO enc zZq W 0 (λ_=>bj) bj n 49 [B]=a6 d:=f1;have f2:dO enc zZq W 0 (λ_=>bj) bj n 49 [A]=a6 c:=f2;obtain⟨b,k,-⟩:=DataW.trod_bool uM f0;obtain⟨w,d1,g⟩:=Ip f1;obtain⟨v,d2,f⟩:=Ip f2;have D:=QW tc f1 g;have C:=QW tc f2 f;have u:kK d.1<=kK x.1:=by rw[p];exact apm (AQ (apN.2 ⟨d,ar2 o,rfl⟩)) JD
 have s:kK c.1<=kK x.1:=by rw[p];exact apm (AQ (apN.2 ⟨c,ar2 m,rfl⟩)) JD
 simp only[en,and_true]at k;subst k;exact⟨⟨b,w,v⟩,⟨⟨apm D u,apm C s⟩,d1,d2⟩,aR.cons (.lit _) (aR.append g f)⟩
def PO{α:Type}(p:aw->α->Prop):∀n:aw,(∀i<n,∃r,p i r)->∃l:ai α,y6 l=n/\∀i(h:i<y6 l),p i l[i]
 |0,_=>⟨[],rfl,λi h=>by cases h⟩
 |n+1,h=>by
  obtain⟨l,e,d⟩:=PO p n λi b=>h i za
  obtain⟨r,c⟩:=h n za
  refine⟨l++[r],by simp[e],λi b=>?_⟩
  by_cases a:i<y6 l
  ·rw[aqW a];exact d i a
  ·have:i=n:=by simp at b;omega
   subst this;rw[aqR za]
   simpa using c
def LN{α β:Type}{f:α->ai β}{sz:aw}:∀{l:ai α}(_:∀x∈l,y6 (f x)=sz)(i k:aw)(_:k<sz)(a:i<y6 l),(l.flatMap f)[i*sz+k]? =(f l[i])[k]?
 |[],_,i,k,c,a=>by cases a
 |x::l,b,0,k,c,a=>by
  have:=b x zb
  rw[ap',aqH,aqa,aqe za]
  rfl
 |x::l,b,i+1,k,c,a=>by
  have d:=b x zb
  rw[ap',apS (by rw[d,aqk];omega),d]
  have e:(i+1)*sz+k-sz=i*sz+k:=by rw[aqk];omega
  rw[e];exact LN (l:=l) (λy g=>b y (by simp[g])) i k c (by simpa using a)
def LM{α β:Type}{f:α->ai β}{sz:aw}:∀{l:ai α}(_:∀x∈l,y6 (f x)=sz),y6 (l.flatMap f)=y6 l*sz
 |[],_=>by simp
 |x::l,a=>by rw[ap',ap4,a x zb,LM (l:=l) (λy b=>a y (by simp[b])),aqO,aqk];omega
def H6{α:Type}{W:bn}{X:aw->Prop}{f:α->ai b3}{g:α->ai D}:∀{l:ai α}(_:∀x∈l,aR W X (f x) (g x)),aR W X (l.flatMap f) (l.flatMap g)
 |[],_=>by simpa using aR.nil
 |x::l,h=>by rw[ap',ap'];exact aR.append (h x zb) (H6 (l:=l) λy a=>h y (by simp[a]))
def ue{α:Type}{f:α->ai D}{ok:α->aw->Prop}{t e:c5}{sz:aw}(mono:∀r a b,ok r a->a<=b->ok r b)(K:Tryz.prog.underlying t=a6 (.slice e))(N:Tryz.prog.cellsOf e=sz)(E:0<sz)
  (one:∀{n:aw}{cs:ai b3}{x:qm H×ai oA},dO enc zZq W 0 (λ_=>bj) bj n e cs=a6 x->∃r,ok r (kK x.1)/\aR W JR cs (f r))
  (h:dO enc zZq W 0 (λ_=>bj) bj fuel t cs=a6 x):∃l:ai α,(∀r∈l,ok r (kK x.1))/\l.length<=kK x.1/\aR W JR cs [aQ f l]:=by
 rcases DataW.trod_slice K h with⟨rfl,-⟩|⟨a,len,w,elems,c,n,_,rfl,rfl,X,M,L,B,v,-,-⟩
 ·exact⟨[],(λr m=>by cases m),by simp,aR.cons (Db W JR aj) aR.nil⟩
 ·have U:D1 (elems.map (·.1))<=kK (DataW.slice (elems.map (·.1)) (c.map (·.1))):=JC
  have each:∀i<len,∃p:α×ai b3,ok p.1 (kK (DataW.slice (elems.map (·.1)) (c.map (·.1))))/\aR W JR p.2 (f p.1)/\p.2.length=sz/\∀k<sz,W.cell? (a.add (i*sz+k))=p.2[k]? :=by
   intro i g;have he:=v i g;rw[N,apj za,Option.bind_eq_some_iff]at he
   obtain⟨J,P,O⟩:=he;obtain⟨r,R,Q⟩:=one O;obtain⟨-,k2,k3⟩:=World.cells?_some P;refine⟨(r,J),mono _ _ _ R (apm (AQ (apN.2 ⟨_,apD _,rfl⟩)) U),Q,k2,λk u=>?_⟩
   have:=k3 k u;rw[Addr.add_add]at this;exact this
  obtain⟨d,s,q⟩:=PO _ len each;have z:∀p∈d,p.2.length=sz:=λp o=>by
   obtain⟨i,g,rfl⟩:=apF.1 o;exact(q i g).2.2.1
  have m:∀p∈d,aR W JR p.2 (f p.1):=λp o=>by
   obtain⟨i,g,rfl⟩:=apF.1 o;exact(q i g).2.1
  have T:(d.map (·.1)).flatMap f=d.flatMap λp=>f p.1:=by rw[List.flatMap_map]
  have F:=H6 m;have y:(d.flatMap λp=>p.2).length=len*sz:=by rw[LM z,s]
  have bl:=Gh (elems.map (·.1));rw[apq]at bl;refine⟨d.map (·.1),λr m=>?_,by rw[apq,s];show _<=kK (DataW.slice (elems.map (·.1)) (c.map (·.1)));omega,aR.cons ?_ aR.nil⟩
  ·obtain⟨p,o,rfl⟩:=apN.1 m
   obtain⟨i,g,rfl⟩:=apF.1 o;exact(q i g).1
  ·unfold aQ
   rw[T,apq,s];refine .row (a6 a) len w aj (d.flatMap λp=>p.2) _ F.1 M L (λh=>by cases h) (λj C=>⟨a,rfl,λh=>h,?_⟩) F.2
   have V:j<len*sz:=by rw[<-y];exact C
   have A:j/sz<d.length:=by rw[s];exact(ap1 E).2 V
   have u:j%sz<sz:=apP _ E;have S:j/sz*sz+j%sz=j:=by rw[apC];exact aqE j sz
   have I:=(q (j/sz) A).2.2.2 (j%sz) u;have G:=LN z (j/sz) (j%sz) u A;rw[S]at I G;rw[I,<-G];exact apj C
def A6.mono(r:Raw)(a b:aw)(h:A6 r a)(c:a<=b):A6 r b:=⟨⟨apm h.1.1 c,apm h.1.2 c⟩,h.2⟩
end
section
open Go Go.RowKit Go.Proofs Go.ChangeShapes Go.WideShapes Go.ChangeAt Tw
variable {H:Type} {enc:c5×b3->H} {W:bn} {fuel:aw} {cs:ai b3} {x:qm H×ai oA}
def wX:Tryz.prog.cellsOf 9=1:=zk
def oS:Tryz.prog.cellsOf 3=1:=zk
def yX(h:dO enc zZq W 0 (λ_=>bj) bj fuel 9 cs=a6 x):∃s:cB,s.size<=kK x.1/\aR W JR cs [xw s]:=by
 obtain⟨s,rfl,rfl,-⟩:=DataW.trod_string Tryz.underlying9 h;refine⟨s,?_,aR.cons (.lit _) aR.nil⟩;have e:s.data.toList.length=s.size:=by rw[aqT];rfl
 show s.size<=s.data.toList.length+1;omega
def qQ(h:dO enc zZq W 0 (λ_=>bj) bj fuel 3 cs=a6 x):∃n:cA,aR W JR cs [int n]:=by obtain⟨n,rfl,-,-⟩:=DataW.trod_int Tryz.underlying3 h;exact⟨n,aR.cons (.lit _) aR.nil⟩
def oE{xs:ai (qm H×ai oA)}{i:aw}{y:qm H×ai oA}(h:xs[i]? =a6 y):kK y.1<=kK (.agg (xs.map (·.1))):=apm (AQ (apN.2 ⟨y,ar2 h,rfl⟩)) JD
def cut{α:Type}(l:ai α)(k m:aw)(h:y6 l=k+m):∃a b,l=a++b/\y6 a=k/\y6 b=m:=⟨l.take k,l.drop k,(List.take_append_drop k l).symm,by rw[apr];omega,by rw[apu];omega⟩
def MkB(m:Cm)(b:aw):Prop:=m.nm.size<=b/\A6 m.x b/\A6 m.y b
def MkB.mono(m:Cm)(a b:aw)(h:MkB m a)(c:a<=b):MkB m b:=⟨apm h.1 c,A6.mono _ _ _ h.2.1 c,A6.mono _ _ _ h.2.2 c⟩
def Jp:Tryz.prog.cellsOf 93=7:=zk
def QR:Tryz.prog.cellsOf 89=1:=zk
def Jr:Tryz.prog.cellsOf 91=2:=zk
def WT(h:dO enc zZq W 0 (λ_=>bj) bj fuel 93 cs=a6 x):∃m:Cm,MkB m (kK x.1)/\aR W JR cs (qp m):=by obtain⟨d,n,-,P,k,A,e⟩:=kq Tryz.underlying93 h;rw[Jp]at k;obtain⟨a,r,rfl,E,B⟩:=cut cs 1 6 k;obtain⟨b,c,rfl,D,Q⟩:=cut r 3 3 B;obtain⟨a0,rfl⟩:=ap_.1 E;obtain⟨O,N,M,rfl⟩:=three D;obtain⟨c0,L,K,rfl⟩:=three Q;have R:d.length=3:=A;obtain⟨w,q⟩:=gq (l:=d) (i:=0) za;obtain⟨v,p⟩:=gq (l:=d) (i:=1) za;obtain⟨u,o⟩:=gq (l:=d) (i:=2) za;have f0:=cC e 0 _ rfl (t:=9) (off:=0) rfl rfl wX;have f1:=cC e 1 _ rfl (t:=51) (off:=1) rfl rfl AN;have f2:=cC e 2 _ rfl (t:=51) (off:=4) rfl rfl AN;rw[q]at f0;rw[p]at f1;rw[o]at f2;have f0:dO enc zZq W 0 (λ_=>bj) bj n 9 [a0]=a6 w:=f0;have f1:dO enc zZq W 0 (λ_=>bj) bj n 51 [O,N,M]=a6 v:=f1;have f2:dO enc zZq W 0 (λ_=>bj) bj n 51 [c0,L,K]=a6 u:=f2;obtain⟨s,s1,s2⟩:=yX f0;obtain⟨z,J,G⟩:=Al f1;obtain⟨y,I,F⟩:=Al f2;have j:=oE q;have g:=oE p;have f:=oE o;have C:x.1=vq (d.map (·.1)):=aql (·.1) P;rw[<-C]at j g f;exact⟨⟨s,z,y⟩,⟨apm s1 j,A6.mono _ _ _ J g,A6.mono _ _ _ I f⟩,aR.append s2 (aR.append G F)⟩
def BdB(m:xd)(b:aw):Prop:=m.nm.size<=b/\y6 m.aC<=b/\∀p∈m.aC,MkB p b
def BdB.mono(m:xd)(a b:aw)(h:BdB m a)(c:a<=b):BdB m b:=⟨apm h.1 c,apm h.2.1 c,λp d=>MkB.mono _ _ _ (h.2.2 p d) c⟩
def WU(h:dO enc zZq W 0 (λ_=>bj) bj fuel 91 cs=a6 x):∃m:xd,BdB m (kK x.1)/\aR W JR cs (tv m):=by obtain⟨b,n,-,E,g,u,e⟩:=kq Tryz.underlying91 h;rw[Jr]at g;obtain⟨a,r,rfl,z,v⟩:=cut cs 1 1 g;obtain⟨a0,rfl⟩:=ap_.1 z;obtain⟨D,rfl⟩:=ap_.1 v;have F:b.length=2:=u;obtain⟨q,k⟩:=gq (l:=b) (i:=0) za;obtain⟨o,j⟩:=gq (l:=b) (i:=1) za;have f0:=cC e 0 _ rfl (t:=9) (off:=0) rfl rfl wX;have f1:=cC e 1 _ rfl (t:=89) (off:=1) rfl rfl QR;rw[k]at f0;rw[j]at f1;have f0:dO enc zZq W 0 (λ_=>bj) bj n 9 [a0]=a6 q:=f0;have f1:dO enc zZq W 0 (λ_=>bj) bj n 89 [D]=a6 o:=f1;obtain⟨s,s1,s2⟩:=yX f0;obtain⟨l,C,B,A⟩:=ue (f:=qp) (ok:=MkB) MkB.mono Tryz.underlying89 Jp za WT f1;have d:=oE k;have c:=oE j;have y:x.1=vq (b.map (·.1)):=aql (·.1) E;rw[<-y]at d c;exact⟨⟨s,l⟩,⟨apm s1 d,apm B c,λp w=>MkB.mono _ _ _ (C p w) c⟩,aR.append s2 A⟩
def JtB(m:Q_)(b:aw):Prop:=m.nm.size<=b
def JtB.mono(m:Q_)(a b:aw)(h:JtB m a)(c:a<=b):JtB m b:=apm h c
def Gg:Tryz.prog.cellsOf 156=7:=zk
def seven{α:Type}{l:ai α}(h:y6 l=7):∃a b c d e f g,l=[a,b,c,d,e,f,g]:=by
 match l,h with
 |[a,b,c,d,e,f,g],_=>exact⟨a,b,c,d,e,f,g,rfl⟩
def Sl(h:dO enc zZq W 0 (λ_=>bj) bj fuel 156 cs=a6 x):∃m:Q_,JtB m (kK x.1)/\aR W JR cs (Fk m):=by obtain⟨a,n,-,U,d,A,b⟩:=kq Tryz.underlying156 h;rw[Gg]at d;obtain⟨a0,a1,T,S,R,Q,P,rfl⟩:=seven d;have V:a.length=7:=A;obtain⟨q,e⟩:=gq (l:=a) (i:=0) za;obtain⟨p,O⟩:=gq (l:=a) (i:=1) za;obtain⟨o,N⟩:=gq (l:=a) (i:=2) za;obtain⟨k,M⟩:=gq (l:=a) (i:=3) za;obtain⟨j,L⟩:=gq (l:=a) (i:=4) za;obtain⟨g,K⟩:=gq (l:=a) (i:=5) za;obtain⟨f,J⟩:=gq (l:=a) (i:=6) za;have f0:=cC b 0 _ rfl (t:=9) (off:=0) rfl rfl wX;have f1:=cC b 1 _ rfl (t:=3) (off:=1) rfl rfl oS;have f2:=cC b 2 _ rfl (t:=3) (off:=2) rfl rfl oS;have f3:=cC b 3 _ rfl (t:=3) (off:=3) rfl rfl oS;have f4:=cC b 4 _ rfl (t:=3) (off:=4) rfl rfl oS;have f5:=cC b 5 _ rfl (t:=3) (off:=5) rfl rfl oS;have f6:=cC b 6 _ rfl (t:=3) (off:=6) rfl rfl oS;rw[e]at f0;rw[O]at f1;rw[N]at f2;rw[M]at f3;rw[L]at f4;rw[K]at f5;rw[J]at f6;have f0:dO enc zZq W 0 (λ_=>bj) bj n 9 [a0]=a6 q:=f0;have f1:dO enc zZq W 0 (λ_=>bj) bj n 3 [a1]=a6 p:=f1;have f2:dO enc zZq W 0 (λ_=>bj) bj n 3 [T]=a6 o:=f2;have f3:dO enc zZq W 0 (λ_=>bj) bj n 3 [S]=a6 k:=f3;have f4:dO enc zZq W 0 (λ_=>bj) bj n 3 [R]=a6 j:=f4;have f5:dO enc zZq W 0 (λ_=>bj) bj n 3 [Q]=a6 g:=f5;have f6:dO enc zZq W 0 (λ_=>bj) bj n 3 [P]=a6 f:=f6;obtain⟨s,s1,s2⟩:=yX f0;obtain⟨z,I⟩:=qQ f1;obtain⟨y,G⟩:=qQ f2;obtain⟨w,F⟩:=qQ f3;obtain⟨v,E⟩:=qQ f4;obtain⟨u,D⟩:=qQ f5;obtain⟨r,C⟩:=qQ f6;have c:=oE e;have B:x.1=vq (a.map (·.1)):=aql (·.1) U;rw[<-B]at c;exact⟨⟨s,z,y,w,v,u,r⟩,apm s1 c,aR.append s2 (aR.append I (aR.append G (aR.append F (aR.append E (aR.append D C)))))⟩
def DrB(m:VQ)(b:aw):Prop:=m.nm.size<=b
def DrB.mono(m:VQ)(a b:aw)(h:DrB m a)(c:a<=b):DrB m b:=apm h c
def DX:Tryz.prog.cellsOf 158=2:=zk
def Pj(h:dO enc zZq W 0 (λ_=>bj) bj fuel 158 cs=a6 x):∃m:VQ,DrB m (kK x.1)/\aR W JR cs (A3 m):=by obtain⟨b,n,-,z,e,o,d⟩:=kq Tryz.underlying158 h;rw[DX]at e;obtain⟨a,r,rfl,u,p⟩:=cut cs 1 1 e;obtain⟨a0,rfl⟩:=ap_.1 u;obtain⟨y,rfl⟩:=ap_.1 p;have A:b.length=2:=o;obtain⟨j,f⟩:=gq (l:=b) (i:=0) za;obtain⟨g,w⟩:=gq (l:=b) (i:=1) za;have f0:=cC d 0 _ rfl (t:=9) (off:=0) rfl rfl wX;have f1:=cC d 1 _ rfl (t:=3) (off:=1) rfl rfl oS;rw[f]at f0;rw[w]at f1;have f0:dO enc zZq W 0 (λ_=>bj) bj n 9 [a0]=a6 j:=f0;have f1:dO enc zZq W 0 (λ_=>bj) bj n 3 [y]=a6 g:=f1;obtain⟨s,s1,s2⟩:=yX f0;obtain⟨k,v⟩:=qQ f1;have c:=oE f;have q:x.1=vq (b.map (·.1)):=aql (·.1) z;rw[<-q]at c;exact⟨⟨s,k⟩,apm s1 c,aR.append s2 v⟩
structure YL(l:pB)(b:aw):Prop where
 nm:l.nm.size<=b
 bl:l.bs.length<=b
 jl:l.js.length<=b
 dl:l.ds.length<=b
 bs:∀x∈l.bs,BdB x b
 js:∀x∈l.js,JtB x b
 ds:∀x∈l.ds,DrB x b
def adv:Tryz.prog.cellsOf 26=4:=zk
def NW:Tryz.prog.cellsOf 22=1:=zk
def NV:Tryz.prog.cellsOf 23=1:=zk
def Kx:Tryz.prog.cellsOf 24=1:=zk
def four{α:Type}{l:ai α}(h:y6 l=4):∃a b c d,l=[a,b,c,d]:=by
 match l,h with
 |[a,b,c,d],_=>exact⟨a,b,c,d,rfl⟩
def afG(h:dO enc zZq W 0 (λ_=>bj) bj fuel 26 cs=a6 x):∃m:pB,YL m (kK x.1)/\aR W JR cs (uI m):=by obtain⟨a,n,-,O,k,D,c⟩:=kq Tryz.underlying26 h;rw[adv]at k;obtain⟨a0,a1,N,M,rfl⟩:=four k;have P:a.length=4:=D;obtain⟨z,u⟩:=gq (l:=a) (i:=0) za;obtain⟨y,r⟩:=gq (l:=a) (i:=1) za;obtain⟨w,q⟩:=gq (l:=a) (i:=2) za;obtain⟨v,o⟩:=gq (l:=a) (i:=3) za;have f0:=cC c 0 _ rfl (t:=9) (off:=0) rfl rfl wX;have f1:=cC c 1 _ rfl (t:=22) (off:=1) rfl rfl NW;have f2:=cC c 2 _ rfl (t:=23) (off:=2) rfl rfl NV;have f3:=cC c 3 _ rfl (t:=24) (off:=3) rfl rfl Kx;rw[u]at f0;rw[r]at f1;rw[q]at f2;rw[o]at f3;have f0:dO enc zZq W 0 (λ_=>bj) bj n 9 [a0]=a6 z:=f0;have f1:dO enc zZq W 0 (λ_=>bj) bj n 22 [a1]=a6 y:=f1;have f2:dO enc zZq W 0 (λ_=>bj) bj n 23 [N]=a6 w:=f2;have f3:dO enc zZq W 0 (λ_=>bj) bj n 24 [M]=a6 v:=f3;obtain⟨s,s1,s2⟩:=yX f0;obtain⟨C,L,k1,I⟩:=ue (f:=tv) (ok:=BdB) BdB.mono Tryz.underlying22 Jr za WU f1;obtain⟨B,K,k2,G⟩:=ue (f:=Fk) (ok:=JtB) JtB.mono Tryz.underlying23 Gg za Sl f2;obtain⟨A,J,k3,F⟩:=ue (f:=A3) (ok:=DrB) DrB.mono Tryz.underlying24 DX za Pj f3;have j:=oE u;have g:=oE r;have e:=oE q;have d:=oE o;have E:x.1=vq (a.map (·.1)):=aql (·.1) O;rw[<-E]at j g e d;exact⟨⟨s,C,B,A⟩,⟨apm s1 j,apm k1 g,apm k2 e,apm k3 d,λp b=>BdB.mono _ _ _ (L p b) g,λp b=>JtB.mono _ _ _ (K p b) e,λp b=>DrB.mono _ _ _ (J p b) d⟩,aR.append s2 (aR.append I (aR.append G F))⟩
variable {J:Reach} {e:Raw} {h:pB}
def Uz{b:aw}(h:A6 e b)(c:b<=1048576):∃k,e.ok k/\2*k<KB:=by refine⟨1048576,⟨λx a=>h.2.1 x a,λx a=>h.2.2 x a,by have:=h.1.1;omega,by have:=h.1.2;omega,by omega⟩,?_⟩;have:=pn;omega
def YL.ok{b:aw}(l:YL h b)(e:b<=1048576):h.Ok:=by refine⟨by have:=l.nm;omega,λx f=>?_,λj g=>?_,λd i=>?_⟩;obtain⟨n,k,c⟩:=l.bs x f;exact⟨by omega,λm a=>⟨by have:=(c m a).1;omega,Uz (c m a).2.1 e,Uz (c m a).2.2 e⟩⟩;have:j.nm.size<=b:=l.js j g;omega;have:d.nm.size<=b:=l.ds d i;omega
set_option maxRecDepth 100000 in
def ajA{r:Reach}{j:aw}{v:b3}{d:qm H}{c:ai oA}(k:Value.okWide zZq W r j 26 v)(h:v8 enc zZq W 0 (λ_=>bj) bj 26 v d c):∃l:pB,YL l (kK d)/\b9 W JR v (Co l):=by
 obtain⟨f,g⟩:=h;obtain⟨l,i,b⟩:=afG g;obtain⟨a,rfl,-⟩:=okWide_struct Tryz.underlying26 k;have e:a=a.toList.toArray:=zb
 exact⟨l,i,by rw[e];exact .agg a.toList _ b.1 b.2⟩
def GW{b:aw}(h:A6 e b)(a:b<=1048576):y6 e.n+y6 e.d<=1000000000000:=by obtain⟨⟨d,c⟩,-⟩:=h;omega
def YL.raw{b:aw}(l:YL h b)(a:b<=1048576):∀x∈h.bs,∀m∈x.aC,y6 m.x.n+y6 m.x.d<=1000000000000/\y6 m.y.n+y6 m.y.d<=1000000000000:=λx c m d=>by have:=(l.bs x c).2.2 m d;exact⟨GW this.2.1 a,GW this.2.2 a⟩
def TnB(m:zZ)(b:aw):Prop:=A6 m.t b
def TnB.mono(m:zZ)(a b:aw)(h:TnB m a)(c:a<=b):TnB m b:=A6.mono _ _ _ h c
def Jo:Tryz.prog.cellsOf 87=4:=zk
def WS(h:dO enc zZq W 0 (λ_=>bj) bj fuel 87 cs=a6 x):∃m:zZ,TnB m (kK x.1)/\aR W JR cs (oU m):=by obtain⟨c,n,-,C,f,s,e⟩:=kq Tryz.underlying87 h;rw[Jo]at f;obtain⟨a,r,rfl,w,u⟩:=cut cs 3 1 f;obtain⟨B,A,z,rfl⟩:=three w;obtain⟨c0,rfl⟩:=ap_.1 u;have D:c.length=2:=s;obtain⟨o,j⟩:=gq (l:=c) (i:=0) za;obtain⟨k,y⟩:=gq (l:=c) (i:=1) za;have f0:=cC e 0 _ rfl (t:=51) (off:=0) rfl rfl AN;have f1:=cC e 1 _ rfl (t:=4) (off:=3) rfl rfl Jq;rw[j]at f0;rw[y]at f1;have f0:dO enc zZq W 0 (λ_=>bj) bj n 51 [B,A,z]=a6 o:=f0;have f1:dO enc zZq W 0 (λ_=>bj) bj n 4 [c0]=a6 k:=f1;obtain⟨r,q,p⟩:=Al f0;obtain⟨b,g,-⟩:=DataW.trod_bool uM f1;simp only[en,and_true]at g;subst g;have d:=oE j;have v:x.1=vq (c.map (·.1)):=aql (·.1) C;rw[<-v]at d;exact⟨⟨r,b⟩,A6.mono _ _ _ q d,aR.append p (aR.cons (.lit _) aR.nil)⟩
def Sk(h:dO enc zZq W 0 (λ_=>bj) bj fuel 27 cs=a6 x):∃l:ai zZ,(∀m∈l,TnB m (kK x.1))/\y6 l<=kK x.1/\aR W JR cs [aQ oU l]:=
 ue (f:=oU) (ok:=TnB) TnB.mono Tryz.underlying27 Jo za WS h
def TnB.ok{x:zZ}{b:aw}(h:TnB x b)(a:b<=1048576):x.Ok:=Uz h a
set_option maxRecDepth 100000 in
def aey{k:aw}{v:b3}{d:qm H}{b:ai oA}(n:Value.okWide zZq W J k 27 v)(h:v8 enc zZq W 0 (λ_=>bj) bj 27 v d b):∃l:ai zZ,(∀m∈l,TnB m (kK d))/\y6 l<=kK d/\b9 W JR v (aQ oU l):=by obtain⟨f,c⟩:=h;obtain⟨a,len,j,rfl⟩:=okWide_slice Tryz.underlying27 n;obtain⟨l,i,g,e⟩:=Sk c;exact⟨l,i,g,e.head⟩
end
namespace Tw
open Go Go.RowKit Go.Proofs
open fb
variable {G:bn->Prop}
def yl(r:Raw):Prop:=r=⟨aj,[],[]⟩\/∃s a b,r=⟨s,[a],[b]⟩
variable (a:aa G) {e:Raw}
def BE(r:e.valid=bj)(h:mo e=aj):yl e:=by
 have h:¬2<y6 e.n+y6 e.d:=by simpa [mo]using h
 by_cases f:e.n=[]/\e.d=[];refine y1 ?_;have c:=r;unfold Raw.valid at c;rw[aph f]at c;obtain⟨s,n,d⟩:=e;obtain⟨rfl,rfl⟩:=f;have:s=aj:=by simpa using c
 rw[this];have g:e.mz:=by unfold Raw.valid at r;rw[ape f]at r;simpa using r
 have k:0<y6 e.n:=aqd.2 g.1;have l:0<y6 e.d:=aqd.2 g.2.1;obtain⟨a,j⟩:=ap_.1 (by omega:y6 e.n=1);obtain⟨b,i⟩:=ap_.1 (by omega:y6 e.d=1);obtain⟨s,n,d⟩:=e;exact y2 ⟨s,a,b,by rw[show n=[a]from j,show d=[b]from i]⟩
def ajw{x:Raw}(d:yl x):∃z,xf G 80 [yI 1 aj (qO x)] (bool z):=by
 obtain rfl|⟨f,a0,e,rfl⟩:=d
 exact⟨bj,Spec.r a func80 [] []⟩;by_cases c:400<a0;exact⟨aj,Spec.r a func80 [] [.eb 31 (uC c)]⟩;by_cases b:20<e;exact⟨aj,Spec.r a func80 [] [.eb 31 (fu c),.eb 44 (uC b)]⟩;exact⟨bj,Spec.r a func80 [] [.eb 31 (fu c),.eb 44 (fu b)]⟩
def ajv{x y:Raw}(h:yl x)(g:yl y):∃z,xf G 80 [yI 2 aj (qO x++qO y)] (bool z):=by
 obtain rfl|⟨j,a0,i,rfl⟩:=h
 obtain rfl|⟨s1,a1,f,rfl⟩:=g
 exact⟨bj,Spec.r a func80 [] []⟩;by_cases e:400<a1;exact⟨aj,Spec.r a func80 [] [.eb 31 (uC e)]⟩;by_cases c:20<f;exact⟨aj,Spec.r a func80 [] [.eb 31 (fu e),.eb 44 (uC c)]⟩;exact⟨bj,Spec.r a func80 [] [.eb 31 (fu e),.eb 44 (fu c)]⟩;by_cases b:400<a0;exact⟨aj,Spec.r a func80 [] [.eb 31 (uC b)]⟩;by_cases d:20<i;exact⟨aj,Spec.r a func80 [] [.eb 31 (fu b),.eb 44 (uC d)]⟩;obtain rfl|⟨s1,a1,f,rfl⟩:=g
 exact⟨bj,Spec.r a func80 [] [.eb 31 (fu b),.eb 44 (fu d)]⟩;by_cases e:400<a1;exact⟨aj,Spec.r a func80 [] [.eb 31 (fu b),.eb 44 (fu d),.eb 31 (uC e)]⟩;by_cases c:20<f;exact⟨aj,Spec.r a func80 [] [.eb 31 (fu b),.eb 44 (fu d),.eb 31 (fu e),.eb 44 (uC c)]⟩;exact⟨bj,Spec.r a func80 [] [.eb 31 (fu b),.eb 44 (fu d),.eb 31 (fu e),.eb 44 (fu c)]⟩
open fb Classical
noncomputable def afS(G:bn->Prop)(x y:Raw):b5:=if h:∃z,Spec zZq G 80 [yI 2 aj (qO x++qO y)] (bool z)then choose h else bj
def ajt{x y:Raw}(b:yl x)(c:yl y):xf G 80 [yI 2 aj (qO x++qO y)] (bool (afS G x y)):=by have h:=ajv a b c;unfold afS;rw[dif_pos h];exact choose_spec h
noncomputable def afT(G:bn->Prop)(x:Raw):b5:=if h:∃z,Spec zZq G 80 [yI 1 aj (qO x)] (bool z)then choose h else bj
def aju{x:Raw}(b:yl x):xf G 80 [yI 1 aj (qO x)] (bool (afT G x)):=by have h:=ajw a b;unfold afT;rw[dif_pos h];exact choose_spec h
def liS(l:pB)(xs:ai zZ)(i k:aw):St:=lay 63 [(1,aQ oU xs),(2,.aJ (uI l)),(5,nat i),(6,nat k)] []
def loS(l:pB)(xs:ai zZ)(i:aw):St:=lay 63 [(1,aQ oU xs),(2,.aJ (uI l)),(5,nat i)] []
def lR:St:=lay 63 [(4,bool aj)] []
section
variable {l:pB} {xs:ai zZ} {i k:aw}
noncomputable def lpE(G:bn->Prop)(b:xd)(k:aw):aw:=if afS G (y7 b.aC k bc).x (y7 b.aC k bc).y=bj then 0 else 1
def SP(f:i<y6 l.bs)(g:k<(y7 l.bs i bc).aC.length)(r:(y7 l.bs i bc).aC.length<=8)(w:yl ((y7 l.bs i bc).aC.getD k bc).x/\yl ((y7 l.bs i bc).aC.getD k bc).y):
  (lpE G (y7 l.bs i bc) k=0->xo G (ae f33 1) (liS l xs i k) y3 (liS l xs i (k+1)))/\(lpE G (y7 l.bs i bc) k≠0->xo G (ae f33 1) (liS l xs i k) .ret lR):=by
 have c:=ajt a w.1 w.2;have a1:=Bn f;have d:=bA a8 f 1 za;have b:=j5 a8 f bc 1 za;unfold lpE;generalize y7 l.bs i bc=B at*;have e:=ay bb za g;have n:0<3/\3<=y6 (((B.aC.flatMap qp).drop ((zNq k).toNat*7)).drop 1):=by have:=(aq bb za g).2;rw[apu];omega
 have m:0<3/\3<=y6 (((B.aC.flatMap qp).drop ((zNq k).toNat*7)).drop 4):=by have:=(aq bb za g).2;rw[apu];omega
 have j:=fO bb g bc;simp only[D.agg.injEq]at j;have q:D.agg ((((B.aC.flatMap qp).drop ((zNq k).toNat*7)).drop 1).take 3)=y4 (qO (y7 B.aC k bc).x):=by
  have:(((B.aC.flatMap qp).drop ((zNq k).toNat*7)).drop 1).take 3=((((B.aC.flatMap qp).drop ((zNq k).toNat*7)).take 7).drop 1).take 3:=by rw[arY,arl];rfl
  rw[this,j];rfl
 have p:D.agg ((((B.aC.flatMap qp).drop ((zNq k).toNat*7)).drop 4).take 3)=y4 (qO (y7 B.aC k bc).y):=by
  have:(((B.aC.flatMap qp).drop ((zNq k).toNat*7)).drop 4).take 3=((((B.aC.flatMap qp).drop ((zNq k).toNat*7)).take 7).drop 4).take 3:=by rw[arY,arl];rfl
  rw[this,j];rfl
 cases o:afS G (y7 B.aC k bc).x (y7 B.aC k bc).y with
 |true=>
  rw[o]at c;refine⟨λ_=>?_,λh=>api (aph rfl) h⟩;exact af.r a [.er 18 (nat i),yu a1,yu d,.eq 21 b,.eb 23 (ah g),.er 28 (nat i),yu a1,yu d,.eq 31 b,.er 32 (nat k),yu e,yu n,.eq 35 q,.er 38 (nat i),yu a1,yu d,.eq 41 b,.er 42 (nat k),yu e,yu m,.eq 45 p,z3 c,.eq 25 (bL (ax g za))]
 |false=>
  rw[o]at c;refine⟨λh=>api h zb,λ_=>?_⟩;exact af.r a [.er 18 (nat i),yu a1,yu d,.eq 21 b,.eb 23 (ah g),.er 28 (nat i),yu a1,yu d,.eq 31 b,.er 32 (nat k),yu e,yu n,.eq 35 q,.er 38 (nat i),yu a1,yu d,.eq 41 b,.er 42 (nat k),yu e,yu m,.eq 45 p,z3 c]
def ajE(b:i<y6 l.bs):xo G (ae f33 1) (liS l xs i (y7 l.bs i bc).aC.length) (y5 2) (loS l xs i):=by have a1:=Bn b;have d:=bA a8 b 1 za;have c:=j5 a8 b bc 1 za;generalize y7 l.bs i bc=B at*;exact af.r a [.er 18 (nat i),yu a1,yu d,.eq 21 c,.eb 23 (av (apc (y6 B.aC)))]
noncomputable def lbE(G:bn->Prop)(l:pB)(i:aw):aw:=jY (lpE G (y7 l.bs i bc)) (y7 l.bs i bc).aC.length
def SK(b:i<y6 l.bs)(r:y6 l.bs<=1000)(n:(y7 l.bs i bc).aC.length<=8)(w:∀m∈(y7 l.bs i bc).aC,yl m.x/\yl m.y):
  (lbE G l i=0->xo G (ae f33 0) (loS l xs i) y3 (loS l xs (i+1)))/\(lbE G l i≠0->xo G (ae f33 0) (loS l xs i) .ret lR):=by
 unfold lbE;have f:∀k,k<(y7 l.bs i bc).aC.length->yl ((y7 l.bs i bc).aC.getD k bc).x/\yl ((y7 l.bs i bc).aC.getD k bc).y:=λk c=>w _ (aA c bc)
 rcases dg (lpE G (y7 l.bs i bc)) (y7 l.bs i bc).aC.length with⟨e,d⟩|⟨k,e,d,q,p⟩
 have g:=aI.z zZq G (ae f33 1) (y5 2) (loS l xs i) (λk=>liS l xs i k) (y7 l.bs i bc).aC.length (λk c=>(SP a b c n (f k c)).1 (d k c)) (ajE a b);refine⟨λ_=>?_,λh=>api e h⟩;exact af.r a [.eb 12 (ah b),.code g,.eq 14 (bL (ax b za))];have g:=aI.z zZq G (ae f33 1) .ret lR (λk=>liS l xs i k) k (λj o=>(SP a b za n (f j za)).1 (p j o)) ((SP a b e n (f k e)).2 d);refine⟨λh=>api (q.symm.trans h) d,λ_=>?_⟩;exact af.r a [.eb 12 (ah b),.code g]
def ltS(l:pB)(xs:ai zZ)(i:aw):St:=lay 63 [(1,aQ oU xs),(2,.aJ (uI l)),(7,nat i)] []
def ajz:xo G (ae f33 0) (loS l xs (y6 l.bs)) (y5 0) (lay 63 [(1,aQ oU xs),(2,.aJ (uI l))] []):=
 af.r a [.eb 12 (av (apc (y6 l.bs)))]
noncomputable def ltE(G:bn->Prop)(xs:ai zZ)(i:aw):aw:=if afT G (y7 xs i bc).t=bj then 0 else 1
def SJ(b:i<y6 xs)(m:y6 xs<=1000)(w:yl (y7 xs i bc).t):
  (ltE G xs i=0->xo G (ae f33 2) (ltS l xs i) y3 (ltS l xs (i+1)))/\(ltE G xs i≠0->xo G (ae f33 2) (ltS l xs i) .ret lR):=by
 have c:=aju a w;have e:=ay uH za b;have d:0<3/\3<=y6 (((xs.flatMap oU).drop ((zNq i).toNat*4)).drop 0):=by have:=(aq uH za b).2;rw[apu];omega
 have j:=fO uH b bc;simp only[D.agg.injEq]at j;have g:D.agg ((((xs.flatMap oU).drop ((zNq i).toNat*4)).drop 0).take 3)=y4 (qO (y7 xs i bc).t):=by
  have:(((xs.flatMap oU).drop ((zNq i).toNat*4)).drop 0).take 3=(((xs.flatMap oU).drop ((zNq i).toNat*4)).take 4).take 3:=by rw[aqD,arl];rfl
  rw[this,j];rfl
 unfold ltE;cases f:afT G (y7 xs i bc).t with
 |true=>
  rw[f]at c;refine⟨λ_=>?_,λh=>api (aph rfl) h⟩;exact af.r a [.eb 52 (ah b),.er 56 (nat i),yu e,yu d,.eq 59 g,z3 c,.eq 54 (bL (ax b za))]
 |false=>
  rw[f]at c;refine⟨λh=>api h zb,λ_=>?_⟩;exact af.r a [.eb 52 (ah b),.er 56 (nat i),yu e,yu d,.eq 59 g,z3 c]
def ajs:xo G (ae f33 2) (ltS l xs (y6 xs)) (y5 4) (lay 63 [] []):=
 af.r a [.eb 52 (av (apc (y6 xs)))]
def al9(g:y6 l.bs<=1000)(f:y6 xs<=1000)(q:∀b∈l.bs,y6 b.aC<=8/\∀m∈b.aC,yl m.x/\yl m.y)(w:∀x∈xs,yl x.t):∃z,xf G 33 [Co l,aQ oU xs] (bool z):=by
 have d:∀i<y6 l.bs,(y7 l.bs i bc).aC.length<=8/\∀m∈(y7 l.bs i bc).aC,yl m.x/\yl m.y:=λi p=>q _ (aA p bc)
 rcases dg (lbE G l) (y6 l.bs) with⟨-,h⟩|⟨i,j,h,-,r⟩
 have e:=aI.z zZq G (ae f33 0) (y5 0) (lay 63 [(1,aQ oU xs),(2,.aJ (uI l))] []) (λk=>loS l xs k) (y6 l.bs) (λk c=>(SK a c g (d k c).1 (d k c).2).1 (h k c)) (ajz a);rcases dg (ltE G xs) (y6 xs) with⟨-,n⟩|⟨i,o,n,-,s⟩
 have lq:=aI.z zZq G (ae f33 2) (y5 4) (lay 63 [] []) (λk=>ltS l xs k) (y6 xs) (λk c=>(SJ a c f (w _ (aA c bc))).1 (n k c)) (ajs a);exact⟨bj,Spec.r a func33 [2] [.code e,.code lq]⟩;have lq:=aI.z zZq G (ae f33 2) .ret lR (λk=>ltS l xs k) i (λk c=>(SJ a za f (w _ (aA za bc))).1 (s k c)) ((SJ a o f (w _ (aA o bc))).2 n);exact⟨aj,Spec.r a func33 [2] [.code e,.code lq]⟩;have e:=aI.z zZq G (ae f33 0) .ret lR (λk=>loS l xs k) i (λk c=>(SK a za g (d k za).1 (d k za).2).1 (r k c)) ((SK a j g (d i j).1 (d i j).2).2 h);exact⟨aj,Spec.r a func33 [2] [.code e]⟩
end
def zq(kind body:aw)(m:ai b5)(j:Jt):b5:=decide (j.kind=kind)&&((decide (j.a=body)&&y7 m j.b aj)||(decide (j.b=body)&&y7 m j.a aj))
section
variable {l:Lk} {kind body i:aw} {m:ai b5}
def rjS(l:Lk)(kind body:aw)(m:ai b5)(i:aw):St:=lay 51 [(1,nat kind),(2,nat body),(3,gS m),(4,.aJ (yJ l)),(12,aQ Hh l.js),(13,nat (y6 l.js)),(14,nat i)] []
def aab(n:g7 l)(k:i<y6 l.js)(x:y6 m=y6 l.bs):
  (zq kind body m (y7 l.js i bc)=aj->xo G (ae f188 0) (rjS l kind body m i) y3 (rjS l kind body m (i+1)))/\
  (zq kind body m (y7 l.js i bc)=bj->xo G (ae f188 0) (rjS l kind body m i) .ret (lay 51 [(8,nat i)] [])):=by
 have g:=ay bQ za k;have f:=aq bQ za k;have e:=fO bQ k bc;have o:=aA k (bc:Jt);have v:=n.nj;have sc:bJ .i64 (zNq i+1)=zNq (i+1):=ax k za;have la:=n.a _ o;have w:=n.b _ o;have u:=n.ab _ o;unfold zq;generalize y7 l.js i bc=j at*;have a1:=gN (j:=m) (b:=j.a) za;have t:=gO (j:=m) (b:=j.a) za;have q:=jd (j:=m) (b:=j.a) za;have s:=gN (j:=m) (b:=j.b) za;have r:=gO (j:=m) (b:=j.b) za;have p:=jd (j:=m) (b:=j.b) za;by_cases b:j.kind=kind;by_cases c:j.a=body;have d:j.b≠body:=λh=>u (c.trans h.symm)
 rw[apE b,apE c,apG d];generalize y7 m j.b aj=z at p;cases z with
 |true=>
  refine⟨λh=>by simp at h,λ_=>?_⟩;exact af.r a [.eb 15 (ah k),yu g,yu f,.eq 18 e,.eb 22 (gI b),.eb 27 (gI c),.er 31 (nat j.b),yu s,yu r,.eq 33 p]
 |false=>
  refine⟨λ_=>?_,λh=>by simp at h⟩;exact af.r a [.eb 15 (ah k),yu g,yu f,.eq 18 e,.eb 22 (gI b),.eb 27 (gI c),.er 31 (nat j.b),yu s,yu r,.eq 33 p,.eb 39 (fh d),.eq 50 (bL sc)]
 by_cases d:j.b=body;rw[apE b,apG c,apE d];generalize y7 m j.a aj=z at q;cases z with
 |true=>
  refine⟨λh=>by simp at h,λ_=>?_⟩;exact af.r a [.eb 15 (ah k),yu g,yu f,.eq 18 e,.eb 22 (gI b),.eb 27 (fh c),.eb 39 (gI d),.er 43 (nat j.a),yu a1,yu t,.eq 45 q]
 |false=>
  refine⟨λ_=>?_,λh=>by simp at h⟩;exact af.r a [.eb 15 (ah k),yu g,yu f,.eq 18 e,.eb 22 (gI b),.eb 27 (fh c),.eb 39 (gI d),.er 43 (nat j.a),yu a1,yu t,.eq 45 q,.eq 50 (bL sc)]
 rw[apE b,apG c,apG d];refine⟨λ_=>?_,λh=>by simp at h⟩;exact af.r a [.eb 15 (ah k),yu g,yu f,.eq 18 e,.eb 22 (gI b),.eb 27 (fh c),.eb 39 (fh d),.eq 50 (bL sc)];rw[apG b];refine⟨λ_=>?_,λh=>by simp at h⟩;exact af.r a [.eb 15 (ah k),yu g,yu f,.eq 18 e,.eb 22 (fh b),.eq 50 (bL sc)]
def xb(l:Lk)(kind body:aw)(m:ai b5):cA:=EU (zq kind body m) l.js
def rQ(d:g7 l)(c:y6 m=y6 l.bs):xf G 188 [lM l,nat kind,nat body,gS m] (int (xb l kind body m)):=by
 have rd:∀i,i<l.js.findIdx (zq kind body m)->xo G (ae f188 0) (rjS l kind body m i) y3 (rjS l kind body m (i+1)):=λi f=>by obtain⟨j,g⟩:=qX (bc:Jt) f;exact(aab a d j c).1 g
 unfold xb EU;split;rename_i h;have b:=aI.z zZq G (ae f188 0) .ret (lay 51 [(8,nat (l.js.findIdx (zq kind body m)))] []) (λi=>rjS l kind body m i) _ rd ((aab a d h c).2 (lS bc h));exact Spec.r a func188 [4] [.code b];rename_i h;have e:l.js.findIdx (zq kind body m)=y6 l.js:=arp aqu za;rw[e]at rd;have b:=aI.z zZq G (ae f188 0) (y5 0) (lay 51 [] []) (λi=>rjS l kind body m i) (y6 l.js) rd
  (af.r a [.eb 15 (av (apc (y6 l.js)))])
 exact Spec.r a func188 [4] [.code b]
def Jh(l:Lk)(b:aw):b5:=l.ds.any λd=>decide (d.body=b)
def rdS(l:Lk)(b i:aw):St:=lay 19 [(1,nat b),(8,aQ Ky l.ds),(9,nat (y6 l.ds)),(10,nat i)] []
def ac0(r:g7 l)(b:aw):xf G 245 [lM l,nat b] (bool (Jh l b)):=by
 have u:=r.nd;have any:∀i<y6 l.ds,((y7 l.ds i bc).body≠b->xo G (ae f245 0) (rdS l b i) y3 (rdS l b (i+1)))/\((y7 l.ds i bc).body=b->xo G (ae f245 0) (rdS l b i) .ret (lay 19 [(4,bool bj)] [])):=λi c=>by
  have n:=ay gd za c;have k:=aq gd za c;have e:=fO gd c bc;generalize y7 l.ds i bc=d at*;exact⟨λh=>af.r a [.eb 11 (ah c),yu n,yu k,.eq 13 e,.eb 17 (fh h),.eq 18 (bL (ax c za))],
   λh=>af.r a [.eb 11 (ah c),yu n,yu k,.eq 13 e,.eb 17 (gI h)]⟩
 rcases dg (λi=>if(y7 l.ds i bc).body=b then 1 else 0) (y6 l.ds) with⟨-,g⟩|⟨i,p,g,-,t⟩
 have ne:∀i<y6 l.ds,(y7 l.ds i bc).body≠b:=λi c e=>by have:=g i c;rw[aph e]at this;cases this
 have ev:Jh l b=aj:=by unfold Jh;rw[arS];exact yi (P:=λd:Dr=>¬decide (d.body=b)=bj) λi c=>by have:=ne i c;simpa using this
 have f:=aI.z zZq G (ae f245 0) (y5 0) (lay 19 [] []) (λi=>rdS l b i) (y6 l.ds) (λi c=>(any i c).1 (ne i c))
  (af.r a [.eb 11 (av (apc (y6 l.ds)))])
 rw[ev];exact Spec.r a func245 [2] [.code f];have o:(y7 l.ds i bc).body=b:=by by_cases q:(y7 l.ds i bc).body=b;exact q;exact api (ape q) g
 have ev:Jh l b=bj:=by unfold Jh;rw[arj];exact⟨_,aA p bc,by simpa using o⟩
 have f:=aI.z zZq G (ae f245 0) .ret (lay 19 [(4,bool bj)] []) (λi=>rdS l b i) i (λj s=>(any j za).1 λe=>by have:=t j s;rw[aph e]at this;cases this) ((any i p).2 o)
 rw[ev];exact Spec.r a func245 [2] [.code f]
def DG(l:Lk)(m:ai b5)(b:aw):b5:= !m.getD b aj&& !Jh l b
def Jc(h:g7 l){b:aw}(c:b<y6 m):xf G 189 [lM l,gS m,nat b] (bool (DG l m b)):=by have g:=gN c;have f:=gO c;have e:=jd c;have d:=ac0 a h b;unfold DG;generalize y7 m b aj=z at e;generalize Jh l b=y at d;cases z;cases y<;>exact Spec.r a func189 [3] [.er 8 (nat b),yu g,yu f,.eq 10 e,z3 d];exact Spec.r a func189 [3] [.er 8 (nat b),yu g,yu f,.eq 10 e]
end
variable {b:aw} {c:ai b5} {d:Lk}
def aa2(c:y6 d.bs<=1000000)(l:b<y6 d.bs):xf G 142 [lM d,nat b] (yI (y6 d.bs) aj (((aE (cd (y6 d.bs) (bool aj)) (0+(zNq b).toNat*1) [bool bj]).drop 0).take (y6 d.bs))):=by
 have e:=qU c;have a1:(0:cA)<=zNq b/\zNq b<(((zNq (y6 d.bs)).toNat:aw):cA):=bR l;have s1:0+(zNq b).toNat*1+1<=y6 (cd (zNq (y6 d.bs)).toNat (bool aj)):=by have g:(zNq (y6 d.bs)).toNat=y6 d.bs:=rfl;have f:(zNq b).toNat=b:=rfl;rw[aqb,g,f];omega
 exact Spec.r a func142 [2] [.er 8 (nat (y6 d.bs)),yu e,.er 11 (nat b),yu a1,yu s1]
def mi(n b:aw):ai b5:=(cd n aj).set b bj
def aa3(l:y6 d.bs<=1000000)(f:b<y6 d.bs):xf G 142 [lM d,nat b] (gS (mi (y6 d.bs) b)):=by
 have h:=aa2 a l f;have e:=a_ (j:=cd (y6 d.bs) aj) (b:=b) (by simpa using f)
 rw[asc]at e;have c:y6 (mi (y6 d.bs) b)=y6 d.bs:=by unfold mi;rw[apY,aqb]
 rw[e,aqD,apA (by rw[apq,apY,aqb];exact apc _)]at h
 unfold gS;rw[c];exact h
def iI(l:Lk)(m:ai b5)(d:Dr):b5:= !m.getD d.body aj&&decide (xb l 0 d.body m>=0)
def vo(l:Lk)(m:ai b5):bF Gp:=
 if l.ds.findIdx (iI l m)<y6 l.ds then
  a6 ⟨0,[(y7 l.ds (l.ds.findIdx (iI l m)) bc).body],[(xb l 0 (y7 l.ds (l.ds.findIdx (iI l m)) bc).body m).toNat],l.ds.findIdx (iI l m)⟩
 else bk
def ago(l:Lk)(m:ai b5)(i:aw):St:=lay 38 [(1,gS m),(2,.aJ (yJ l)),(4,y0 0 0),(10,aQ Ky l.ds),(11,nat (y6 l.ds)),(12,nat i)] [(0,Da)] [0]
def K9(t:g7 d)(v:y6 c=y6 d.bs):iS zZq G 143 [lM d,gS c] (MV (vo d c)):=by
 have ca:∀b,xf G 188 [lM d,nat 0,nat b,gS c] (int (xb d 0 b c)):=λb=>rQ a t v
 have k:∀i<y6 d.ds,(y7 d.ds i bc).body<y6 c:=λi u=>by rw[v];exact t.body _ (aA u _)
 have y:=t.nd;have rd:∀i,i<d.ds.findIdx (iI d c)->xo G (ae f143 0) (ago d c i) y3 (ago d c (i+1)):=λi u=>by
  obtain⟨j,l⟩:=qX bc u;have e:=fO gd j bc;have r:=gN (k i j);have q:=gO (k i j);have o:=jd (k i j);have m:=ca (y7 d.ds i bc).body;rw[iI]at l;generalize y7 c (y7 d.ds i bc).body aj=z at o l;cases z with
  |true=>exact af.r a [.eb 13 (ah j),yu (ay gd za j),yu (aq gd za j),.eq 16 e,.er 19 (nat (y7 d.ds i bc).body),yu r,yu q,.eq 21 o,.eq 36 (bL (ax j za))]
  |false=>
   obtain g|⟨n,-,g⟩:=fk (zq 0 (y7 d.ds i bc).body c) d.js
   ·have f:xb d 0 (y7 d.ds i bc).body c= -1:=g
    rw[f]at m;exact af.r a [.eb 13 (ah j),yu (ay gd za j),yu (aq gd za j),.eq 16 e,.er 19 (nat (y7 d.ds i bc).body),yu r,yu q,.eq 21 o,z3 m,.eq 36 (bL (ax j za))]
   ·have f:xb d 0 (y7 d.ds i bc).body c=zNq n:=g
    rw[f]at l;simp at l
 unfold vo;split
 ·rename_i h
  have l:=lS (p:=iI d c) bc h;have e:=fO gd h bc;have r:=gN (k _ h);have q:=gO (k _ h);have o:=jd (k _ h);have m:=ca (y7 d.ds (d.ds.findIdx (iI d c)) bc).body;obtain g|⟨n,-,g⟩:=fk (zq 0 (y7 d.ds (d.ds.findIdx (iI d c)) bc).body c) d.js
  ·have f:xb d 0 (y7 d.ds (d.ds.findIdx (iI d c)) bc).body c= -1:=g
   rw[iI,f,dT]at l;exact api l.2 zv
  ·have f:xb d 0 (y7 d.ds (d.ds.findIdx (iI d c)) bc).body c=zNq n:=g
   have x:y7 c (y7 d.ds (d.ds.findIdx (iI d c)) bc).body aj=aj:=by
    rw[iI]at l;simpa using(Bool.and_eq_true_iff.1 l).1
   rw[x]at o;rw[f]at m⊢;have s:=aI.z zZq G (ae f143 0) .ret (lay 38 [(4,y0 0 0),(5,bool bj)] [(0,[nat 0,.aY 2 0 1 1,.aY 3 0 1 1,nat (d.ds.findIdx (iI d c))]),(2,[nat (y7 d.ds (d.ds.findIdx (iI d c)) bc).body]),(3,[nat n])] [0]) (λi=>ago d c i) _ rd
    (af.br a (ro:=[31,33]) (m:=60) (aB ..) [.eb 13 (ah h),yu (ay gd za h),yu (aq gd za h),.eq 16 e,.er 19 (nat (y7 d.ds (d.ds.findIdx (iI d c)) bc).body),yu r,yu q,.eq 21 o,z3 m,.eb 28 (mP n)])
   exact iS.br a func143 (ro:=[2]) (m:=60) [.code s]
 ·rename_i h
  have w:d.ds.findIdx (iI d c)=y6 d.ds:=arp aqu za
  rw[w]at rd;have s:=aI.z zZq G (ae f143 0) (y5 0) (lay 38 [(4,y0 0 0)] [(0,Da)] [0]) (λi=>ago d c i) _ rd
   (af.r a [.eb 13 (av (apc (y6 d.ds)))])
  exact iS.br a func143 (ro:=[2]) (m:=60) [.code s]
def sI(l:Lk)(m:ai b5)(i:aw):b5:=DG l m i&&(decide (xb l 0 i m>=0)&&decide (xb l 1 i m>=0))
def yP(l:Lk)(m:ai b5):aw:=(ch (y6 l.bs)).findIdx (sI l m)
def singleR(l:Lk)(m:ai b5):bF Gp:=
 if yP l m<y6 l.bs then
  a6 ⟨eO l (yP l m) (xb l 1 (yP l m) m).toNat,[yP l m],[(xb l 0 (yP l m) m).toNat,(xb l 1 (yP l m) m).toNat],0⟩
 else bk
def ZR(l:Lk)(m:ai b5)(i:aw):St:=lay 52 [(1,gS m),(2,.aJ (yJ l)),(4,y0 0 0),(12,nat (y6 l.bs)),(13,nat i)] [(0,Da)] [0]
def K4(u:g7 d)(E:y6 c=y6 d.bs):iS zZq G 145 [lM d,gS c] (MV (singleR d c)):=by
 have ca:∀k l,xf G 188 [lM d,nat k,nat l,gS c] (int (xb d k l c)):=λk l=>rQ a u E
 have D:∀i<y6 d.bs,xf G 189 [lM d,gS c,nat i] (bool (DG d c i)):=λi B=>Jc a u za
 have I:=u.nb;have w:y6 (ch (y6 d.bs))=y6 d.bs:=aqL;have rd:∀i<yP d c,xo G (ae f145 0) (ZR d c i) y3 (ZR d c (i+1)):=λi B=>by
  obtain⟨f,b⟩:=qX 0 (p:=sI d c) B;rw[w]at f;rw[mL f]at b;have m:=D i f;have c0:=ca 0 i;have q:=ca 1 i;rw[sI]at b;generalize DG d c i=z at m b;cases z with
  |false=>exact af.r a [.eb 14 (ah f),z3 m,.eq 50 (bL (ax f za))]
  |true=>
   rw[asK]at b;obtain j|⟨n,-,j⟩:=fk (zq 0 i c) d.js
   ·have g:xb d 0 i c= -1:=j
    rw[g]at c0;exact af.r a [.eb 14 (ah f),z3 m,z3 c0,z3 q,.eq 50 (bL (ax f za))]
   ·have g:xb d 0 i c=zNq n:=j
    rw[g]at c0;obtain o|⟨k,-,o⟩:=fk (zq 1 i c) d.js
    ·have r:xb d 1 i c= -1:=o
     rw[r]at q;exact af.r a [.eb 14 (ah f),z3 m,z3 c0,z3 q,.eb 30 (bT n),.eq 50 (bL (ax f za))]
    ·have r:xb d 1 i c=zNq k:=o
     rw[g,r]at b;simp at b
 unfold singleR;split
 ·rename_i h
  have F:(ch (y6 d.bs)).findIdx (sI d c)<y6 (ch (y6 d.bs)):=by rw[w];exact h
  have b:sI d c ((ch (y6 d.bs)).getD (yP d c) 0)=bj:=lS (p:=sI d c) 0 F;rw[mL h]at b;generalize H:yP d c=i at h b rd;have m:=D i h;have c0:=ca 0 i;have q:=ca 1 i;rw[sI,dT,dT]at b;obtain⟨f1,f2,f3⟩:=b;rw[f1]at m;obtain j|⟨n,A,j⟩:=fk (zq 0 i c) d.js
  ·have g:xb d 0 i c= -1:=j
   rw[g]at f2;exact api f2 zv
  obtain o|⟨k,v,o⟩:=fk (zq 1 i c) d.js
  ·have r:xb d 1 i c= -1:=o
   rw[r]at f3;exact api f3 zv
  have g:xb d 0 i c=zNq n:=j;have r:xb d 1 i c=zNq k:=o;rw[g]at c0⊢;rw[r]at q⊢;have y:=ay bQ za v
  have x:=bA bQ v 2 za
  have e:=j5 bQ v bc 2 za
  have C:(((d.js.flatMap Hh).drop ((zNq k).toNat*7)).drop 2).headD .any=nat (y7 d.js k bc).a:=e;unfold eO;by_cases t:(y7 d.js (zNq k).toNat bc).a=i
  ·rw[aph t]
   have s:=aI.z zZq G (ae f145 0) .ret (lay 52 [(4,y0 0 0),(5,bool bj)] [(0,[nat 2,.aY 1 0 1 1,.aY 2 0 2 2,nat 0]),(1,[nat i]),(2,[nat n,nat k])] [0]) (λi=>ZR d c i) i rd
    (af.br a (ro:=[45,48]) (m:=60) (aB ..) [.eb 14 (ah h),z3 m,z3 c0,z3 q,.eb 30 (bT n),.eb 33 (bT k),.er 37 (nat k),yu y,yu x,.eq 40 C,.eb 42 (gI t)])
   exact iS.br a func145 (ro:=[2]) (m:=60) [.code s]
  ·rw[ape t]
   have s:=aI.z zZq G (ae f145 0) .ret (lay 52 [(4,y0 0 0),(5,bool bj)] [(0,[nat 3,.aY 1 0 1 1,.aY 2 0 2 2,nat 0]),(1,[nat i]),(2,[nat n,nat k])] [0]) (λi=>ZR d c i) i rd
    (af.br a (ro:=[45,48]) (m:=60) (aB ..) [.eb 14 (ah h),z3 m,z3 c0,z3 q,.eb 30 (bT n),.eb 33 (bT k),.er 37 (nat k),yu y,yu x,.eq 40 C,.eb 42 (fh t)])
   exact iS.br a func145 (ro:=[2]) (m:=60) [.code s]
 ·rename_i h
  have A:yP d c=y6 d.bs:=arp (by have:= @aqu _ (sI d c) (ch (y6 d.bs));rw[w]at this;exact this) za
  rw[A]at rd;have s:=aI.z zZq G (ae f145 0) (y5 0) (lay 52 [(4,y0 0 0)] [(0,Da)] [0]) (λi=>ZR d c i) _ rd
   (af.r a [.eb 14 (av (apc (y6 d.bs)))])
  exact iS.br a func145 (ro:=[2]) (m:=60) [.code s]
def jcR(l:Lk)(i k:aw):cA:=xb l 0 i (mi (y6 l.bs) k)
def xE(l:Lk)(m:ai b5)(i k:aw):b5:=(DG l m i&&DG l m k)&&(decide (xb l 0 i m>=0)&&(decide (xb l 0 k m>=0)&&decide (jcR l i k>=0)))
section
variable {l:Lk} {m:ai b5} {i k:aw}
def prI(l:Lk)(m:ai b5)(i k:aw):St:=lay 72 [(1,gS m),(2,.aJ (yJ l)),(4,y0 0 0),(6,nat i),(7,nat k),(13,nat (y6 l.bs)),(14,nat i)] [(0,Da)] [0]
def prO(l:Lk)(m:ai b5)(i:aw):St:=lay 72 [(1,gS m),(2,.aJ (yJ l)),(4,y0 0 0),(13,nat (y6 l.bs)),(14,nat i)] [(0,Da)] [0]
def Au(l:Lk)(kind b:aw)(m:ai b5):xb l kind b m= -1\/∃n,xb l kind b m=zNq n:=by
 obtain h|⟨n,-,h⟩:=fk (zq kind b m) l.js
 exact y1 h;exact y2 ⟨n,h⟩
def UA(a:aa G)(d:g7 l)(t:y6 m=y6 l.bs)(A:i<y6 l.bs)(c:k<y6 l.bs)(h:xE l m i k=aj):
  xo G (ae f144 1) (prI l m i k) y3 (prI l m i (k+1)):=by
 have w:=d.nb;have e:=Jc a d (m:=m) (b:=i) za
 have j:=Jc a d (m:=m) (b:=k) za
 have o:=aa3 a (d:=l) (b:=k) za c
 have v:y6 (mi (y6 l.bs) k)=y6 l.bs:=by unfold mi;rw[apY,aqb]
 have g:=rQ (kind:=0) (body:=i) a d t;have f:=rQ (kind:=0) (body:=k) a d t;have n:=rQ (kind:=0) (body:=i) a d v;unfold xE jcR at h;have sc:bJ .i64 (zNq k+1)=zNq (k+1):=ax c za
 generalize DG l m i=z at e h;generalize DG l m k=y at j h;cases z
 ·exact af.r a [.eb 23 (ah c),z3 e,.eq 25 (bL sc)]
 ·cases y
  ·exact af.r a [.eb 23 (ah c),z3 e,z3 j,.eq 25 (bL sc)]
  ·obtain r|⟨s,r⟩:=Au l 0 i m
   ·rw[r]at g
    exact af.r a [.eb 23 (ah c),z3 e,z3 j,z3 g,z3 f,z3 o,z3 n,.eq 25 (bL sc)]
   ·rw[r]at g h
    obtain q|⟨u,q⟩:=Au l 0 k m
    ·rw[q]at f
     exact af.r a [.eb 23 (ah c),z3 e,z3 j,z3 g,z3 f,z3 o,z3 n,.eb 53 (mP s),.eq 25 (bL sc)]
    ·rw[q]at f h
     rcases Au l 0 i (mi (y6 l.bs) k)with p|⟨x,p⟩
     ·rw[p]at n
      exact af.r a [.eb 23 (ah c),z3 e,z3 j,z3 g,z3 f,z3 o,z3 n,.eb 53 (mP s),.eb 56 (mP u),.eq 25 (bL sc)]
     ·rw[p]at h
      simp at h
def prR(i k c b a:aw):St:=lay 72 [(4,y0 0 0),(5,bool bj)] [(0,[nat 1,.aY 1 0 2 2,.aY 2 0 3 3,nat 0]),(1,[nat i,nat k]),(2,[nat c,nat b,nat a])] [0]
def aiP(a:aa G)(c:g7 l)(o:y6 m=y6 l.bs)(B:i<y6 l.bs)(p:k<y6 l.bs)(h:xE l m i k=bj):
  xo G (ae f144 1) (prI l m i k) .ret (prR i k (xb l 0 i m).toNat (xb l 0 k m).toNat (jcR l i k).toNat):=by
 have A:=c.nb;have u:=Jc a c (m:=m) (b:=i) za
 have t:=Jc a c (m:=m) (b:=k) za
 have z:=aa3 a (d:=l) (b:=k) za p
 have y:y6 (mi (y6 l.bs) k)=y6 l.bs:=by unfold mi;rw[apY,aqb]
 have n:=rQ (kind:=0) (body:=i) a c o;have j:=rQ (kind:=0) (body:=k) a c o;have g:=rQ (kind:=0) (body:=i) a c y;unfold xE at h;unfold jcR at h⊢;rw[zLq,zLq,zLq,zLq]at h;obtain⟨⟨f1,f2⟩,s,r,q⟩:=h;rw[f1]at u;rw[f2]at t;obtain f|⟨x,f⟩:=Au l 0 i m
 ·rw[f]at s;exact api s zv
 obtain e|⟨w,e⟩:=Au l 0 k m
 ·rw[e]at r;exact api r zv
 rcases Au l 0 i (mi (y6 l.bs) k)with d|⟨v,d⟩
 ·rw[d]at q;exact api q zv
 rw[f]at n;rw[e]at j;rw[d]at g;rw[f,e,d];exact af.br a (ro:=[64,68]) (m:=60) (aB ..) [.eb 23 (ah p),z3 u,z3 t,z3 n,z3 j,z3 z,z3 g,.eb 53 (mP x),.eb 56 (mP w),.eb 60 (mP v)]
def Sb(b:y6 l.bs<=k):xo G (ae f144 1) (prI l m i k) (y5 2) (prO l m i):=
 af.r a [.eb 23 (av b)]
end
section
variable {l:Lk} {m:ai b5} {i k:aw}
def Lz{kind b:aw}{m:ai b5}(h:decide (xb l kind b m>=0)=bj):(xb l kind b m).toNat<y6 l.js:=by
 obtain e|⟨n,a,e⟩:=fk (zq kind b m) l.js
 have e:xb l kind b m= -1:=e;rw[e]at h;exact api h zv;have e:xb l kind b m=zNq n:=e;rw[e];exact a
def PrB(l:Lk)(k c b a:aw):Prop:=k<y6 l.bs/\c<y6 l.js/\b<y6 l.js/\a<y6 l.js
def aaA(f:g7 l)(n:y6 m=y6 l.bs)(b:i<y6 l.bs):
  xo G (ae f144 0) (prO l m i) y3 (prO l m (i+1))\/∃k r q p,PrB l k r q p/\xo G (ae f144 0) (prO l m i) .ret (prR i k r q p):=by
 have x:=f.nb;have sc:bJ .i64 (zNq i+1)=zNq (i+1):=ax b za;rcases dg (λd=>if xE l m i (i+1+d)=bj then 1 else 0) (y6 l.bs-(i+1))with⟨-,g⟩|⟨d,y,g,-,t⟩
 have no:∀d,d<y6 l.bs-(i+1)->xE l m i (i+1+d)=aj:=λd c=>by have:=g d c;split at this;cases this;rename_i j;simpa using j
 have h:=aI.z zZq G (ae f144 1) (y5 2) (prO l m i) (λd=>prI l m i (i+1+d)) (y6 l.bs-(i+1)) (λd c=>UA a f n b za (no d c)) (Sb a za);exact y1 (af.r a [.eb 15 (ah b),.eq 18 (bL sc),.code h,.eq 70 (bL sc)]);have c:xE l m i (i+1+d)=bj:=by split at g;assumption;exact api rfl g
 have no:∀e<d,xE l m i (i+1+e)=aj:=λe o=>by have:=t e o;split at this;cases this;rename_i j;simpa using j
 have h:=aI.z zZq G (ae f144 1) .ret (prR i (i+1+d) (xb l 0 i m).toNat (xb l 0 (i+1+d) m).toNat (jcR l i (i+1+d)).toNat) (λd=>prI l m i (i+1+d)) d (λe o=>UA a f n b za (no e o)) (aiP a f n b za c);have s:PrB l (i+1+d) (xb l 0 i m).toNat (xb l 0 (i+1+d) m).toNat (jcR l i (i+1+d)).toNat:=by unfold xE at c;rw[zLq,zLq,zLq,zLq]at c;obtain⟨-,w,v,u⟩:=c;exact⟨by omega,Lz w,Lz v,Lz u⟩
 exact y2 ⟨i+1+d,(xb l 0 i m).toNat,(xb l 0 (i+1+d) m).toNat,(jcR l i (i+1+d)).toNat,s,af.r a [.eb 15 (ah b),.eq 18 (bL sc),.code h]⟩
def afd(f:aa G)(t:g7 l)(s:y6 m=y6 l.bs):∃o,iS zZq G 144 [lM l,gS m] (MV o)/\∀g,o=a6 g->(∀b∈g.bs,b<y6 l.bs)/\(∀j∈g.js,j<y6 l.js)/\y6 g.bs<=2/\y6 g.js<=3:=by
 open Classical in
 rcases dg (λi=>if(∃k d c a,PrB l k d c a/\xo G (ae f144 0) (prO l m i) .ret (prR i k d c a))then 1 else 0) (y6 l.bs) with⟨-,r⟩|⟨i,y,r,-,x⟩
 have n:=aI.z zZq G (ae f144 0) (y5 0) (lay 72 [(4,y0 0 0)] [(0,Da)] [0]) (λi=>prO l m i) (y6 l.bs) (λi u=>(aaA f t s u).elim id λe=>by
   have:=r i u;rw[aph e]at this;cases this)
  (af.r f [.eb 15 (av (apc (y6 l.bs)))])
 exact⟨bk,iS.br f func144 (ro:=[2]) (m:=60) [.code n],λg h=>by cases h⟩;have e:∃k d c a,PrB l k d c a/\xo G (ae f144 0) (prO l m i) .ret (prR i k d c a):=by by_cases q:∃k d c a,PrB l k d c a/\xo G (ae f144 0) (prO l m i) .ret (prR i k d c a);exact q;exact api (ape q) r
 obtain⟨k,d,c,a,⟨C,B,A,z⟩,e⟩:=e;have n:=aI.z zZq G (ae f144 0) .ret (prR i k d c a) (λi=>prO l m i) i (λj p=>(aaA f t s za).elim id λv=>by have:=x j p;rw[aph v]at this;cases this) e
 exact⟨a6 ⟨1,[i,k],[d,c,a],0⟩,iS.br f func144 (ro:=[2]) (m:=60) [.code n],λg h=>by cases h;exact⟨λb w=>by simp at w;omega,λj p=>by simp at p;omega,apc 2,apc 3⟩⟩
end
def JY(l:Lk)(g:Gp):Prop:=(∀b∈g.bs,b<y6 l.bs)/\(∀j∈g.js,j<y6 l.js)/\y6 g.bs<=2/\y6 g.js<=3
variable {j:Gp}
def Tl(e:g7 d)(h:vo d c=a6 j):JY d j:=by unfold vo at h;split at h;rename_i g;cases h;have m:=lS (p:=iI d c) bc g;rw[iI,zLq]at m;have i:=e.body _ (aA g bc);have f:=Lz m.2;exact⟨λb a=>by simp at a;rw[a];simpa using i,λj a=>by rw[apg]at a;rw[a];exact f,by simp,by simp⟩;cases h
def RH(h:singleR d c=a6 j):JY d j:=by
 unfold singleR at h;split at h
 ·rename_i m
  cases h;have f:(ch (y6 d.bs)).findIdx (sI d c)<y6 (ch (y6 d.bs)):=by rw[aqL];exact m
  have e:sI d c ((ch (y6 d.bs)).getD (yP d c) 0)=bj:=lS (p:=sI d c) 0 f;rw[mL m,sI,zLq,zLq]at e;have a:=Lz e.2.1;have b:=Lz e.2.2;refine⟨λx g=>?_,λj g=>?_,by simp,by simp⟩
  ·rw[apg]at g;rw[g];exact m
  ·simp only[b4,bI,or_false]at g
   obtain rfl|rfl:=g
   ·exact a
   ·exact b
 ·cases h
open Classical
noncomputable def Im(G:bn->Prop)(l:Lk)(m:ai b5):bF Gp:=
 if h:∃o,iS zZq G 144 [lM l,gS m] (MV o)/\∀g,o=a6 g->JY l g then choose h else bk
def MU(b:g7 d)(m:y6 c=y6 d.bs):iS zZq G 144 [lM d,gS c] (MV (Im G d c))/\∀g,Im G d c=a6 g->JY d g:=by have h:∃o,iS zZq G 144 [lM d,gS c] (MV o)/\∀g,o=a6 g->JY d g:=afd a b m;unfold Im;rw[dif_pos h];exact choose_spec h
noncomputable def Dc(G:bn->Prop)(l:Lk)(m:ai b5):bF Gp:=match vo l m with
 |some g=>a6 g
 |none=>match Im G l m with
  |some g=>a6 g
  |none=>singleR l m
def Iy(e:g7 d)(m:y6 c=y6 d.bs)(h:Dc G d c=a6 j):JY d j:=by
 unfold Dc at h;cases b:vo d c with
 |some x=>rw[b]at h;cases h;exact Tl e b
 |none=>
  rw[b]at h;cases g:Im G d c with
  |some x=>rw[g]at h;cases h;exact(MU a e m).2 _ g
  |none=>rw[g]at h;exact RH h
def rfO(b:aw):ai Gp->D
 |[]=>yI 0 bj []
 |g::gs=>.bG b (g::gs).length 4
def rfB(m:ai b5):ai Gp->ai (aw×ai D)
 |[]=>[(1,m.map bool)]
 |g::gs=>[(1,m.map bool),(2,(g::gs).flatMap kg)]
def rfS(l:Lk)(m:ai b5)(gs:ai Gp)(i:aw):St:=lay 57 [(1,.aJ (yJ l)),(3,.aY 1 0 (y6 l.bs) (y6 l.bs)),(4,rfO 2 gs),(13,nat (y6 l.bs)),(14,nat i)] (rfB m gs) []
def rfE(gs:ai Gp):St:=lay 57 [(4,rfO 2 gs)] (match gs with|[]=>[]|g::gs=>[(2,(g::gs).flatMap kg)]) []
def aiG(l:g7 d)(m:y6 c=y6 d.bs)(j:b<y6 d.bs)(h:Dc G d c=bk)(gs:ai Gp):fI zZq G 0 (ae f79 0) (rfS d c gs b) (y5 0) (rfE gs):=by
 have e:=K9 a l m;have i:=(MU a l m).1;have cs:=K4 a l m;rw[<-mG m]at e i cs;unfold Dc at h;cases g:vo d c with
 |some x=>rw[g]at h;cases h
 |none=>
  rw[g]at h e;cases f:Im G d c with
  |some x=>rw[f]at h;cases h
  |none=>
   rw[f]at h i;have h:singleR d c=bk:=h;rw[h]at cs;cases gs<;>exact fI.br a (ro:=[]) (m:=60) [] (aB ..) [.eb 15 (ah j),.dW e,.dW i,.dW cs] zv
def rmS(l:Lk)(m:ai b5)(gs:ai Gp)(i:aw)(bs:ai aw)(k:aw):St:=lay 57 [(1,.aJ (yJ l)),(3,.aY 1 0 (y6 l.bs) (y6 l.bs)),(4,rfO 2 gs),(13,nat (y6 l.bs)),(14,nat i),(45,nD bs),(46,nat (y6 bs)),(47,nat k)] (rfB (ei m (bs.take k)) gs) []
def BT(m:ai b5)(bs:ai aw)(a:b<y6 bs):ei m (bs.take (b+1))=(ei m (bs.take b)).set (y7 bs b 0) bj:=by unfold ei;rw[aq6,apj a,aqK,apf,apj a];rfl
variable {K:ai Gp} {L:ai aw} {U:Gp}
def Uu(gs:y6 c=y6 d.bs)(n:∀l∈L,l<y6 d.bs)(o:y6 L<=1000):aI zZq G 57 0 (.loop (ae f79 1)) (rmS d c (j::K) b L 0) (y5 2) (rfS d (ei c L) (j::K) b):=by
 refine aI.c (λk=>rmS d c (j::K) b L k) (y6 L) (λk m=>?_) ?_
 ·have f:=n _ (aA m 0)
  have h:y6 (ei c (L.take k))=y6 d.bs:=by rw[m5];exact gs
  have i:y7 L k 0<y6 (ei c (L.take k)):=by rw[h];exact f
  have e:=zc m;have g:xo G (ae f79 1) (rmS d c (j::K) b L k) y3 (lay 57 [(1,.aJ (yJ d)),(3,.aY 1 0 (y6 d.bs) (y6 d.bs)),(4,rfO 2 (j::K)),(13,nat (y6 d.bs)),(14,nat b),(45,nD L),(46,nat (y6 L)),(47,nat (k+1))] [(1,aE ((ei c (L.take k)).map bool) (0+(zNq (y7 L k 0)).toNat*1) [bool bj]),(2,(j::K).flatMap kg)] []):=
   af.r a [.eb 48 (ah m),yu (uh m),yu (um m),.eq 50 e,.er 52 (nat (y7 L k 0)),yu (bR f),yu (gX i),.eq 54 (bL (ax m za))]
  rw[a_ i,<-BT c L m]at g;exact g
 ·show af _ _ _ _ (rmS d c (j::K) b L (y6 L)) _ _
  unfold rmS;rw[aqM];exact af.r a [.eb 48 (av (apc (y6 L)))]
def afh(e:aa G)(g:y6 c=y6 d.bs)(l:∀m∈L,m<y6 d.bs)(a:y6 L<=1000):aI zZq G 57 0 (.loop (ae f79 1)) (lay 57 [(1,.aJ (yJ d)),(3,.aY 1 0 (y6 d.bs) (y6 d.bs)),(4,.bG 2 (y6 (j::K)+1) 4),(13,nat (y6 d.bs)),(14,nat b),(45,nD L),(46,nat (y6 L)),(47,nat 0)] [(1,c.map bool),(2,(j::K).flatMap kg++kg U)] []) (y5 2) (rfS d (ei c L) (j::(K++[U])) b):=by
 have h:=Uu e g (j:=j) (K:=K++[U]) (b:=b) l a;have k:y6 (j::(K++[U]))=y6 (j::K)+1:=zb
 have i:(j::(K++[U])).flatMap kg=(j::K).flatMap kg++kg U:=Ha (j::K) U;have f:rmS d c (j::(K++[U])) b L 0=lay 57 [(1,.aJ (yJ d)),(3,.aY 1 0 (y6 d.bs) (y6 d.bs)),(4,.bG 2 (y6 (j::K)+1) 4),(13,nat (y6 d.bs)),(14,nat b),(45,nD L),(46,nat (y6 L)),(47,nat 0)] [(1,c.map bool),(2,(j::K).flatMap kg++kg U)] []:=by rw[<-k,<-i];rfl
 rw[f]at h;exact h
def alC(a:aa G)(i:g7 d)(l:y6 c=y6 d.bs)(e:b<y6 d.bs)(h:Dc G d c=a6 j)(gs:ai Gp)(n:y6 gs<=1000):fI zZq G 0 (ae f79 0) (rfS d c gs b) y3 (rfS d (ei c j.bs) (gs++[j]) (b+1)):=by
 have s:=i.nb;have g:=K9 a i l;have f:=(MU a i l).1;have cs:=K4 a i l;rw[<-mG l]at g f cs;have r:=(Iy a i l h).1;have q:y6 j.bs<=1000:=by have:=(Iy a i l h).2.2.1;omega
 have sc:bJ .i64 (zNq b+1)=zNq (b+1):=ax e za
 have lt:=λ(g0 j:Gp) (gs:ai Gp)=>afh a l (j:=g0) (U:=j) (K:=gs) (b:=b) r q
 have k:=λ(g0:Gp) (gs:ai Gp)=>Uu a l (j:=g0) (K:=gs) (b:=b) r q
 unfold Dc at h;cases p:vo d c with
 |some x=>
  rw[p]at h g;cases h;cases gs with
  |nil=>exact fI.br a (ro:=[]) (m:=60) [] (aB ..) [.eb 15 (ah e),.dW g,.code (aI.wg [(2,3)] zv (k j [])),.eq 55 (bL sc)] zv
  |cons y m=>
   have lq:=lt y j m;exact fI.br a (ro:=[]) (m:=60) [] (aB ..) [.eb 15 (ah e),.dW g,.er 42 (yI 1 bj (kg j)),yu (m_ (gs:=y::m) (g:=j) n rfl),.code lq,.eq 55 (bL sc)] zv
 |none=>
  rw[p]at h g;cases o:Im G d c with
  |some x=>
   rw[o]at h f;cases h;cases gs with
   |nil=>exact fI.br a (ro:=[]) (m:=60) [] (aB ..) [.eb 15 (ah e),.dW g,.dW f,.code (aI.wg [(2,3)] zv (k j [])),.eq 55 (bL sc)] zv
   |cons y m=>
    have lq:=lt y j m;exact fI.br a (ro:=[]) (m:=60) [] (aB ..) [.eb 15 (ah e),.dW g,.dW f,.er 42 (yI 1 bj (kg j)),yu (m_ (gs:=y::m) (g:=j) n rfl),.code lq,.eq 55 (bL sc)] zv
  |none=>
   rw[o]at h f;have h:singleR d c=a6 j:=h;rw[h]at cs;cases gs with
   |nil=>exact fI.br a (ro:=[]) (m:=60) [] (aB ..) [.eb 15 (ah e),.dW g,.dW f,.dW cs,.code (aI.wg [(2,3)] zv (k j [])),.eq 55 (bL sc)] zv
   |cons y m=>
    have lq:=lt y j m;exact fI.br a (ro:=[]) (m:=60) [] (aB ..) [.eb 15 (ah e),.dW g,.dW f,.dW cs,.er 42 (yI 1 bj (kg j)),yu (m_ (gs:=y::m) (g:=j) n rfl),.code lq,.eq 55 (bL sc)] zv
noncomputable def H5(G:bn->Prop)(l:Lk):aw->ai b5->ai Gp->ai Gp
 |0,_,gs=>gs
 |n+1,m,gs=>match Dc G l m with
  |none=>gs
  |some g=>H5 G l n (ei m g.bs) (gs++[g])
def Uw(c:aa G){l:Lk}(b:g7 l):∀(n:aw)(m:ai b5)(gs:ai Gp),y6 m=y6 l.bs->(∀g∈gs,JY l g)->(∀g∈H5 G l n m gs,JY l g)/\y6 (H5 G l n m gs)<=y6 gs+n
 |0,m,gs,_,h=>⟨h,apc _⟩
 |n+1,m,gs,hm,h=>by
  unfold H5;cases a:Dc G l m with
  |none=>exact⟨h,by simp only;omega⟩
  |some g=>
   have d:=Iy c b hm a;obtain⟨f,e⟩:=Uw c b n (ei m g.bs) (gs++[g]) (by rw[m5];exact hm) λx a=>by
    obtain a|a:=aps.1 a
    exact h x a;rw[apg]at a;rw[a];exact d
   refine⟨f,?_⟩;simp only[j3,ey,fl]at e;simp only;omega
def afk(e:g7 d)(k:y6 c=y6 d.bs):aI zZq G 57 0 (.loop (ae f79 0)) (rfS d c [] 0) (y5 0) (rfE (H5 G d (y6 d.bs) c [])):=by
 have t:=e.nb;generalize n:H5 G d (y6 d.bs) c []=R;refine aI.MJ (ι:=ai b5×ai Gp×aw) (λx=>y6 x.1=y6 d.bs/\x.2.2<=y6 d.bs/\y6 x.2.1<=x.2.2/\H5 G d (y6 d.bs-x.2.2) x.1 x.2.1=R) (λx=>rfS d x.1 x.2.1 x.2.2) (λx=>y6 d.bs-x.2.2) (λs=>aB ..) z1 (λx h=>?_) (c,[],0) ⟨k,apJ _,apc _,n⟩;obtain⟨j,gs,i⟩:=x;obtain⟨l,p,o,m⟩:=h;simp only at l p o m⊢;obtain f|f:=apy i (y6 d.bs)
 have q:y6 d.bs-i=(y6 d.bs-(i+1))+1:=za
 rw[q]at m;unfold H5 at m;cases b:Dc G d j with
 |none=>
  rw[b]at m;rw[<-m];exact y2 (aiG a e l f b gs)
 |some g=>
  rw[b]at m;exact y1 ⟨(ei j g.bs,gs++[g],i+1),⟨by rw[m5];exact l,f,by simp only[j3,ey,fl];omega,m⟩,by simp only;omega,alC a e l f b gs za⟩
 have r:y6 d.bs-i=0:=za
 obtain rfl:i=y6 d.bs:=za
 rw[r]at m;unfold H5 at m;rw[<-m];refine y2 ?_;cases gs<;>exact fI.br a (ro:=[]) (m:=60) [] (aB ..) [.eb 15 (av (apc (y6 d.bs)))] zv
def Uv(c:aa G){l:Lk}(a:g7 l):∃gs:ai Gp,Spec zZq G 79 [lM l] (aQ kg gs)/\(∀g∈gs,JY l g)/\gs.length<=l.bs.length:=by
 have o:=a.nb;have p:=a.b0;have hm:(mi l.bs.length 0).length=l.bs.length:=by unfold mi;rw[apY,aqb]
 obtain⟨k1,k2⟩:=Uw c a l.bs.length (mi l.bs.length 0) [] hm (λg j=>by cases j)
 have b:=afk c a hm;have i:=qU (b:=l.bs.length) za
 have h:=QZ a.b0;have f:=OL (g:=bool aj) a.b0;refine⟨H5 G l l.bs.length (mi l.bs.length 0) [],?_,k1,by simpa using k2⟩
 generalize H5 G l l.bs.length (mi l.bs.length 0) []=gs at b;have m:(mi l.bs.length 0).map bool=PX l.bs.length:=(G4 a.b0).symm;have k:rfS l (mi l.bs.length 0) [] 0=lay 57 [(1,.aJ (yJ l)),(3,.aY 1 0 l.bs.length l.bs.length),(4,.row 0 bj []),(13,nat l.bs.length),(14,nat 0)] [(1,PX l.bs.length)] []:=by
  rw[<-m];rfl
 rw[k]at b;cases gs with
 |nil=>exact Spec.r c func79 [1] [.inl [2] func142,.er 8 (nat l.bs.length),.prop i,.er 11 (nat 0),.prop h,.prop f,.code (aI.wg [(1,0)] zv b)]
 |cons y e=>
  have key:Spec zZq G 79 [lM l] (.row (y::e).length aj (((y::e).flatMap kg).take ((y::e).length*4))):=Spec.r c func79 [1] [.inl [2] func142,.er 8 (nat l.bs.length),.prop i,.er 11 (nat 0),.prop h,.prop f,.code (aI.wg [(1,0)] zv b)]
  rw[apA (by rw[QV];exact apc _)]at key
  exact key
def ai2{l:Lk}{b:aw}(c:y6 l.bs<=1000000)(d:b<y6 l.bs):Br zZq G 142 [lM l,nat b] (y6 l.bs) (aE (cd (y6 l.bs) (bool aj)) (0+(zNq b).toNat*1) [bool bj]):=by
 have f:=qU c;have a1:(0:cA)<=zNq b/\zNq b<(((zNq (y6 l.bs)).toNat:aw):cA):=bR d;have s1:0+(zNq b).toNat*1+1<=y6 (cd (zNq (y6 l.bs)).toNat (bool aj)):=by have j:(zNq (y6 l.bs)).toNat=y6 l.bs:=rfl;have h:(zNq b).toNat=b:=rfl;rw[aqb,j,h];omega
 exact Br.br a func142 (k:=(Tryz.f142.body).getD .skip) rfl (t:=4) (ro:=[2]) (m:=60) (e:=.ret) (b:=0) (arE rfl) rfl [.er 8 (nat (y6 l.bs)),yu f,.er 11 (nat b),yu a1,yu s1] zk (y2 rfl)
def rsS(n nj:aw)(K U:ai b5)(gs:ai Gp)(i:aw):St:=lay 82 [(2,yI 0 bj []),(3,yI 0 bj []),(4,.aY 1 0 n n),(5,.aY 2 0 nj nj),(23,aQ kg gs),(24,nat (y6 gs)),(25,nat i)] [(1,K.map bool),(2,U.map bool)] []
def rsG(n nj:aw)(K U:ai b5)(gs:ai Gp)(i:aw)(g:Gp):St:=lay 82 [(2,yI 0 bj []),(3,yI 0 bj []),(4,.aY 1 0 n n),(5,.aY 2 0 nj nj),(7,y0 3 0),(23,aQ kg gs),(24,nat (y6 gs)),(25,nat i)] [(1,K.map bool),(2,U.map bool),(3,kg g)] []
def rsK(n nj:aw)(K U:ai b5)(gs:ai Gp)(i:aw)(g:Gp)(k:aw):St:=lay 82 [(2,yI 0 bj []),(3,yI 0 bj []),(4,.aY 1 0 n n),(5,.aY 2 0 nj nj),(7,y0 3 0),(23,aQ kg gs),(24,nat (y6 gs)),(25,nat i),(30,nD g.bs),(31,nat (y6 g.bs)),(32,nat k)] [(1,(ei K (g.bs.take k)).map bool),(2,U.map bool),(3,kg g)] []
def rsU(n nj:aw)(K U:ai b5)(gs:ai Gp)(i:aw)(g:Gp)(k:aw):St:=lay 82 [(2,yI 0 bj []),(3,yI 0 bj []),(4,.aY 1 0 n n),(5,.aY 2 0 nj nj),(7,y0 3 0),(23,aQ kg gs),(24,nat (y6 gs)),(25,nat i),(41,nD g.js),(42,nat (y6 g.js)),(43,nat k)] [(1,K.map bool),(2,(ei U (g.js.take k)).map bool),(3,kg g)] []
section
variable {l:Lk} {K U:ai b5} {gs:ai Gp} {i:aw} {g:Gp}
def afi(j:y6 K=y6 l.bs)(m:∀b∈g.bs,b<y6 l.bs)(n:y6 g.bs<=1000):aI zZq G 82 0 (.loop (ae f78 1)) (rsK (y6 l.bs) (y6 l.js) K U gs i g 0) (y5 2) (rsG (y6 l.bs) (y6 l.js) (ei K g.bs) U gs i g):=by
 refine aI.c (λk=>rsK (y6 l.bs) (y6 l.js) K U gs i g k) (y6 g.bs) (λk c=>?_) ?_
 ·have f:=m _ (aA c 0)
  have h:y6 (ei K (g.bs.take k))=y6 l.bs:=by rw[m5];exact j
  have d:y7 g.bs k 0<y6 (ei K (g.bs.take k)):=by rw[h];exact f
  have e:=zc c;have g:xo G (ae f78 1) (rsK (y6 l.bs) (y6 l.js) K U gs i g k) y3 (lay 82 [(2,yI 0 bj []),(3,yI 0 bj []),(4,.aY 1 0 (y6 l.bs) (y6 l.bs)),(5,.aY 2 0 (y6 l.js) (y6 l.js)),(7,y0 3 0),(23,aQ kg gs),(24,nat (y6 gs)),(25,nat i),(30,nD g.bs),(31,nat (y6 g.bs)),(32,nat (k+1))] [(1,aE ((ei K (g.bs.take k)).map bool) (0+(zNq (y7 g.bs k 0)).toNat*1) [bool bj]),(2,U.map bool),(3,kg g)] []):=
   af.r a [.eb 33 (ah c),yu (uh c),yu (um c),.eq 35 e,.er 37 (nat (y7 g.bs k 0)),yu (bR f),yu (gX d),.eq 39 (bL (ax c za))]
  rw[a_ d,<-BT]at g
  ·exact g
  ·exact c
 ·show af _ _ _ _ (rsK (y6 l.bs) (y6 l.js) K U gs i g (y6 g.bs)) _ _
  unfold rsK;rw[aqM];exact af.r a [.eb 33 (av (apc (y6 g.bs)))]
def afa(j:y6 U=y6 l.js)(m:∀b∈g.js,b<y6 l.js)(n:y6 g.js<=1000):aI zZq G 82 0 (.loop (ae f78 2)) (rsU (y6 l.bs) (y6 l.js) K U gs i g 0) (y5 4) (rsS (y6 l.bs) (y6 l.js) K (ei U g.js) gs i):=by
 refine aI.c (λk=>rsU (y6 l.bs) (y6 l.js) K U gs i g k) (y6 g.js) (λk c=>?_) ?_
 ·have f:=m _ (aA c 0)
  have h:y6 (ei U (g.js.take k))=y6 l.js:=by rw[m5];exact j
  have d:y7 g.js k 0<y6 (ei U (g.js.take k)):=by rw[h];exact f
  have e:=zc c;have g:xo G (ae f78 2) (rsU (y6 l.bs) (y6 l.js) K U gs i g k) y3 (lay 82 [(2,yI 0 bj []),(3,yI 0 bj []),(4,.aY 1 0 (y6 l.bs) (y6 l.bs)),(5,.aY 2 0 (y6 l.js) (y6 l.js)),(7,y0 3 0),(23,aQ kg gs),(24,nat (y6 gs)),(25,nat i),(41,nD g.js),(42,nat (y6 g.js)),(43,nat (k+1))] [(1,K.map bool),(2,aE ((ei U (g.js.take k)).map bool) (0+(zNq (y7 g.js k 0)).toNat*1) [bool bj]),(3,kg g)] []):=
   af.r a [.eb 44 (ah c),yu (uh c),yu (um c),.eq 46 e,.er 48 (nat (y7 g.js k 0)),yu (bR f),yu (gX d),.eq 50 (bL (ax c za))]
  rw[a_ d,<-BT]at g
  ·exact g
  ·exact c
 ·show af _ _ _ _ (rsU (y6 l.bs) (y6 l.js) K U gs i g (y6 g.js)) _ _
  unfold rsU;rw[aqM];exact af.r a [.eb 44 (av (apc (y6 g.js)))]
def JA(g:Gp):y6 (kg g)=4:=rfl
def Z6(b:aa G)(a:i<y6 gs)(hs:y6 gs<=1000)(m:y6 K=y6 l.bs)(k:y6 U=y6 l.js)(j:JY l (y7 gs i bc)):xo G (ae f78 0) (rsS (y6 l.bs) (y6 l.js) K U gs i) y3 (rsS (y6 l.bs) (y6 l.js) (ei K (y7 gs i bc).bs) (ei U (y7 gs i bc).js) gs (i+1)):=by have d:=ay JA za a;have c:=aq JA za a;have e:=fO JA a bc;obtain⟨o,n,q,p⟩:=j;generalize y7 gs i bc=g at*;have h:=afi b (l:=l) (K:=K) (U:=U) (gs:=gs) (i:=i) (g:=g) m o za;have f:=afa b (l:=l) (K:=ei K g.bs) (U:=U) (gs:=gs) (i:=i) (g:=g) k n za;exact af.r b [.eb 26 (ah a),yu d,yu c,.eq 28 e,.code h,.code f,.eq 51 (bL (ax a za))]
def Nk(gs:ai Gp)(K:ai b5)(i:aw):ai b5:=(gs.take i).foldl (λK g=>ei K g.bs) K
def Mr(gs:ai Gp)(U:ai b5)(i:aw):ai b5:=(gs.take i).foldl (λU g=>ei U g.js) U
variable {n:Type}
def Q4(f:n->Gp->n)(x:n){gs:ai Gp}{i:aw}(a:i<y6 gs):(gs.take (i+1)).foldl f x=f ((gs.take i).foldl f x) (y7 gs i bc):=by rw[aq6,apj a,aqK,apf,apj a];rfl
def PY:∀(gs:ai Gp)(K:ai b5)(i:aw),y6 (Nk gs K i)=y6 K:=λgs K i=>by
 unfold Nk;have:∀(gs:ai Gp)(K:ai b5),y6 (gs.foldl (λK g=>ei K g.bs) K)=y6 K:=λgs=>by
  induction gs with
  |nil=>intro K;rfl
  |cons g gs a=>intro K;rw[lr,a,m5]
 exact this _ _
def OB:∀(gs:ai Gp)(U:ai b5)(i:aw),y6 (Mr gs U i)=y6 U:=λgs U i=>by
 unfold Mr;have:∀(gs:ai Gp)(U:ai b5),y6 (gs.foldl (λU g=>ei U g.js) U)=y6 U:=λgs=>by
  induction gs with
  |nil=>intro U;rfl
  |cons g gs a=>intro U;rw[lr,a,m5]
 exact this _ _
def rsF(n nj:aw)(K U:ai b5):St:=lay 82 [(2,yI 0 bj []),(3,yI 0 bj []),(4,.aY 1 0 n n),(5,.aY 2 0 nj nj)] [(1,K.map bool),(2,U.map bool)] []
def afb(b:aa G)(hs:y6 gs<=1000)(e:y6 K=y6 l.bs)(d:y6 U=y6 l.js)(c:∀g∈gs,JY l g):aI zZq G 82 0 (.loop (ae f78 0)) (rsS (y6 l.bs) (y6 l.js) K U gs 0) (y5 0) (rsF (y6 l.bs) (y6 l.js) (Nk gs K (y6 gs)) (Mr gs U (y6 gs))):=by
 have key:=aI.z zZq G (ae f78 0) (y5 0) (rsF (y6 l.bs) (y6 l.js) (Nk gs K (y6 gs)) (Mr gs U (y6 gs))) (λi=>rsS (y6 l.bs) (y6 l.js) (Nk gs K i) (Mr gs U i) gs i) (y6 gs) (λi a=>by
   have r:=Z6 b (l:=l) (K:=Nk gs K i) (U:=Mr gs U i) a hs (by rw[PY];exact e) (by rw[OB];exact d) (c _ (aA a bc));have h:Nk gs K (i+1)=ei (Nk gs K i) (y7 gs i bc).bs:=Q4 (λK g=>ei K g.bs) K a;have f:Mr gs U (i+1)=ei (Mr gs U i) (y7 gs i bc).js:=Q4 (λU g=>ei U g.js) U a;rw[<-h,<-f]at r;exact r)
  (af.r b [.eb 26 (av (apc (y6 gs)))])
 exact key
end
def ze(K:ai b5)(i:aw):ai aw:=(ch i).filter λj=>!K.getD j aj
def Lt(K:ai b5)(i:aw):ze K (i+1)=if y7 K i aj=bj then ze K i else ze K i++[i]:=by unfold ze;rw[aq1,aq_];simp only[vk,List.filter_nil];cases y7 K i aj<;>simp
def Dg(K:ai b5)(i:aw):y6 (ze K i)<=i:=by have:=List.length_filter_le (λj=>!K.getD j aj) (ch i);rw[aqL]at this;exact this
def riO(b:aw):ai aw->D
 |[]=>yI 0 bj []
 |x::xs=>.bG b (x::xs).length 1
def riB(b:aw):ai aw->ai (aw×ai D)
 |[]=>[]
 |x::xs=>[(b,(x::xs).map nat)]
def rbS(nj:aw)(K U:ai b5)(b:ai aw)(i:aw):St:=lay 82 [(2,riO 3 b),(3,yI 0 bj []),(5,.aY 2 0 nj nj),(52,.aY 1 0 (y6 K) (y6 K)),(53,nat (y6 K)),(54,nat i)] ([(1,K.map bool),(2,U.map bool)]++riB 3 b) []
def rbE(nj:aw)(U:ai b5)(b:ai aw):St:=lay 82 [(2,riO 3 b),(3,yI 0 bj []),(5,.aY 2 0 nj nj)] ((2,U.map bool)::riB 3 b) []
def adH{m:ai b5}{i:aw}(h:i<y6 m):((m.map bool).drop (0+(zNq i).toNat*1)).headD .any=bool (y7 m i aj):=by rw[aqa];exact jd h
def w7{m:ai b5}{i:aw}(h:i<y6 m):0<1/\0+(zNq i).toNat*1+1<=y6 (m.map bool):=by have e:(zNq i).toNat=i:=rfl;rw[apq,e];omega
def La{b:ai aw}{x:aw}(h:y6 b<=1000000):([nat x]:ai D).all D.bV=bj/\0<1/\y6 (b.map nat)=y6 b*1/\y6 ([nat x]:ai D)=1*1/\y6 b+1<=2^62/\(y6 b+1)*8<=2^47:=by refine⟨rfl,by omega,by simp,rfl,by omega,by omega⟩
def aaj{nj:aw}{K U:ai b5}{b:ai aw}{i:aw}(d:i<y6 K)(j:y6 K<=1000000)(h:y6 b<=1000000):xo G (ae f78 3) (rbS nj K U b i) y3 (rbS nj K U (if y7 K i aj=bj then b else b++[i]) (i+1)):=by
 have e:=adH d;have sc:bJ .i64 (zNq i+1)=zNq (i+1):=ax d za
 cases f:y7 K i aj<;>rw[f]at e
 ·rw[ape zb]
  cases b with
  |nil=>exact af.r a [.eb 55 (ah d),yu (bR d),yu (w7 d),.eq 58 e,.eq 65 (bL sc)]
  |cons y c=>
  have g:xo G (ae f78 3) (rbS nj K U (y::c) i) y3 (lay 82 [(2,.bG 3 (y6 (y::c)+1) 1),(3,yI 0 bj []),(5,.aY 2 0 nj nj),(52,.aY 1 0 (y6 K) (y6 K)),(53,nat (y6 K)),(54,nat (i+1))] [(1,K.map bool),(2,U.map bool),(3,(y::c).map nat++[nat i])] []):=
   af.r a [.eb 55 (ah d),yu (bR d),yu (w7 d),.eq 58 e,.er 63 (yI 1 bj [nat i]),yu (La (b:=y::c) (x:=i) h),.eq 65 (bL sc)]
  rw[show y6 (y::c)+1=y6 (y::c++[i]) from by simp,show(y::c).map nat++[nat i]=(y::c++[i]).map nat from by simp]at g
  exact g
 ·rw[aph rfl]
  cases b<;>exact af.r a [.eb 55 (ah d),yu (bR d),yu (w7 d),.eq 58 e,.eq 65 (bL sc)]
def afo{nj:aw}{K U:ai b5}(c:y6 K<=1000000):aI zZq G 82 0 (.loop (ae f78 3)) (rbS nj K U [] 0) (y5 6) (rbE nj U (ze K (y6 K))):=by refine aI.z zZq G (ae f78 3) (y5 6) (rbE nj U (ze K (y6 K))) (λi=>rbS nj K U (ze K i) i) (y6 K) (λi d=>?_) ?_;have:=Dg K i;rw[Lt];exact aaj a d c za;generalize ze K (y6 K)=b;cases b<;>exact af.r a [.eb 55 (av (apc (y6 K)))]
def riN:ai aw->aw
 |[]=>3
 |_::_=>4
def RY(U:ai b5)(b c:ai aw)(i:aw):St:=lay 82 [(2,riO 3 b),(3,riO (riN b) c),(66,.aY 2 0 (y6 U) (y6 U)),(67,nat (y6 U)),(68,nat i)] ((2,U.map bool)::(riB 3 b++riB (riN b) c)) []
def alB(b c:ai aw):St:=lay 82 [(2,riO 3 b),(3,riO (riN b) c)] (riB 3 b++riB (riN b) c) []
def aaa{U:ai b5}{b c:ai aw}{i:aw}(f:i<y6 U)(k:y6 U<=1000000)(j:y6 c<=1000000):xo G (ae f78 4) (RY U b c i) y3 (RY U b (if y7 U i aj=bj then c else c++[i]) (i+1)):=by
 have e:=adH f;have sc:bJ .i64 (zNq i+1)=zNq (i+1):=ax f za;cases h:y7 U i aj<;>rw[h]at e;rw[ape zb];cases c with
 |nil=>cases b<;>exact af.r a [.eb 69 (ah f),yu (bR f),yu (w7 f),.eq 72 e,.eq 79 (bL sc)]
 |cons z d=>
  have g:xo G (ae f78 4) (RY U b (z::d) i) y3 (lay 82 [(2,riO 3 b),(3,.bG (riN b) (y6 (z::d)+1) 1),(66,.aY 2 0 (y6 U) (y6 U)),(67,nat (y6 U)),(68,nat (i+1))] ((2,U.map bool)::(riB 3 b++[(riN b,(z::d).map nat++[nat i])])) []):=by cases b<;>exact af.r a [.eb 69 (ah f),yu (bR f),yu (w7 f),.eq 72 e,.er 77 (yI 1 bj [nat i]),yu (La (b:=z::d) (x:=i) j),.eq 79 (bL sc)]
  rw[show y6 (z::d)+1=y6 (z::d++[i]) from by simp,show(z::d).map nat++[nat i]=(z::d++[i]).map nat from by simp]at g;exact g
 rw[aph rfl];cases b<;>cases c<;>exact af.r a [.eb 69 (ah f),yu (bR f),yu (w7 f),.eq 72 e,.eq 79 (bL sc)]
def afj{U:ai b5}{b:ai aw}(d:y6 U<=1000000):aI zZq G 82 0 (.loop (ae f78 4)) (RY U b [] 0) (y5 8) (alB b (ze U (y6 U))):=by refine aI.z zZq G (ae f78 4) (y5 8) (alB b (ze U (y6 U))) (λi=>RY U b (ze U i) i) (y6 U) (λi e=>?_) ?_;have:=Dg U i;rw[Lt];exact aaa a e d za;generalize ze U (y6 U)=c;cases b<;>cases c<;>exact af.r a [.eb 69 (av (apc (y6 U)))]
def aht:ai aw->D
 |[]=>nD []
 |y::a=>yI (y::a).length aj (((y::a).map nat).take (y6 (y::a)*1))
def PB(b:ai aw):aht b=nD b:=by
 cases b with
 |nil=>rfl
 |cons y a=>simp only[aht];rw[apA (by rw[apq];omega)];rfl
def aiH(d:aa G){l:Lk}(a:g7 l):∃b c:ai aw,xf G 78 [lM l] (.aP [nD b,nD c])/\y6 b<=100/\y6 c<=1000000:=by
 have t:=a.nb;have nj:=a.nj;have s:=a.b0;obtain⟨gs,f,m,x⟩:=Uv d a;have hm:y6 (mi (y6 l.bs) 0)=y6 l.bs:=by unfold mi;rw[apY,aqb]
 have r:=ai2 d (l:=l) (b:=0) za s
 have k:=qU a.nj;have h:=afb d (l:=l) (K:=mi (y6 l.bs) 0) (U:=cd (y6 l.js) aj) (gs:=gs) za hm zb m
 have j:=PY gs (mi (y6 l.bs) 0) (y6 gs);have ul:=OB gs (cd (y6 l.js) aj) (y6 gs);rw[hm]at j;rw[aqb]at ul;generalize Nk gs (mi (y6 l.bs) 0) (y6 gs)=K at h j;generalize Mr gs (cd (y6 l.js) aj) (y6 gs)=U at h ul;have lq:=afo d (nj:=y6 l.js) (K:=K) (U:=U) za
 have e:=λb=>afj d (U:=U) (b:=b) za
 have q:(mi (y6 l.bs) 0).map bool=PX (y6 l.bs):=(G4 a.b0).symm;have p:rsS (y6 l.bs) (y6 l.js) (mi (y6 l.bs) 0) (cd (y6 l.js) aj) gs 0=lay 82 [(2,yI 0 bj []),(3,yI 0 bj []),(4,.aY 1 0 (y6 l.bs) (y6 l.bs)),(5,.aY 2 0 (y6 l.js) (y6 l.js)),(23,aQ kg gs),(24,nat (y6 gs)),(25,nat 0)] [(1,PX (y6 l.bs)),(2,cd (y6 l.js) (bool aj))] []:=by
  unfold rsS;rw[q,asc]
 rw[p]at h;have v:=Dg K (y6 K);have u:=Dg U (y6 U);refine⟨ze K (y6 K),ze U (y6 U),?_,by omega,by omega⟩
 have o:rbS (y6 l.js) K U [] 0=lay 82 [(2,yI 0 bj []),(3,yI 0 bj []),(5,.aY 2 0 (y6 l.js) (y6 l.js)),(52,.aY 1 0 (y6 l.bs) (y6 l.bs)),(53,nat (y6 l.bs)),(54,nat 0)] [(1,K.map bool),(2,U.map bool)] []:=by
  unfold rbS;rw[j];rfl
 rw[o]at lq;generalize ze K (y6 K)=b at lq;generalize w:ze U (y6 U)=c at e;have e:=e b;have n:RY U b [] 0=lay 82 [(2,riO 3 b),(3,yI 0 bj []),(66,.aY 2 0 (y6 l.js) (y6 l.js)),(67,nat (y6 l.js)),(68,nat 0)] ((2,U.map bool)::(riB 3 b++[])) []:=by
  unfold RY;rw[ul];rfl
 rw[n,aqs]at e;rw[<-PB b,<-PB c];cases b<;>cases c<;>exact Spec.r d func78 [1] [.VD r,.er 20 (nat (y6 l.js)),yu k,z3 f,.code (aI.wg [(2,1),(1,0)] zv h),.code lq,.code e]
def Z5{l:Lk}(k:g7 l):∃(gs:ai Gp)(e:aw),xf G 32 [lM l] (.aP [aQ kg gs,nat e])/\y6 gs<=y6 l.bs/\(e=0\/e=7):=by obtain⟨b,c,h,p,o⟩:=aiH a k;obtain⟨gs,f,-,n⟩:=Uv a k;have m:=bL (Hk (B:=y6 b) (b:=y6 c) za);by_cases j:0<y6 b+y6 c;exact⟨[],7,Spec.r a func32 [1] [z3 h,.eq 15 m,.eb 16 (uC j)],apJ _,y2 rfl⟩;exact⟨gs,0,Spec.r a func32 [1] [z3 h,.eq 15 m,.eb 16 (fu j),z3 f],n,y1 rfl⟩
def siS(l:pB)(xs:ai zZ)(i k:aw):St:=lay 121 [(1,aQ oU xs),(2,.aJ (uI l)),(5,nat i),(6,nat k)] []
def soS(l:pB)(xs:ai zZ)(i:aw):St:=lay 121 [(1,aQ oU xs),(2,.aJ (uI l)),(5,nat i)] []
def stS(l:pB)(xs:ai zZ)(i:aw):St:=lay 121 [(1,aQ oU xs),(2,.aJ (uI l)),(7,nat i)] []
def smR:St:=lay 121 [(4,bool aj)] []
def smF(l:pB)(xs:ai zZ):St:=lay 121 [(1,aQ oU xs),(2,.aJ (uI l))] []
def w9(r:Raw):Prop:=y6 r.n+y6 r.d<=1000000000000
section
variable {l:pB} {xs:ai zZ} {i k:aw}
def spE(b:xd)(k:aw):aw:=if(mo (y7 b.aC k bc).x||mo (y7 b.aC k bc).y)=bj then 1 else 0
def RJ(f:i<y6 l.bs)(g:k<(y7 l.bs i bc).aC.length)(r:(y7 l.bs i bc).aC.length<=8)(w:w9 ((y7 l.bs i bc).aC.getD k bc).x/\w9 ((y7 l.bs i bc).aC.getD k bc).y):
  (spE (y7 l.bs i bc) k=0->xo G (ae f8 1) (siS l xs i k) y3 (siS l xs i (k+1)))/\(spE (y7 l.bs i bc) k≠0->xo G (ae f8 1) (siS l xs i k) .ret smR):=by
 have c:=ama a w.1 w.2;have a1:=Bn f;have d:=bA a8 f 1 za;have b:=j5 a8 f bc 1 za;unfold spE;generalize y7 l.bs i bc=B at*;have e:=ay bb za g;have n:0<3/\3<=y6 (((B.aC.flatMap qp).drop ((zNq k).toNat*7)).drop 1):=by have:=(aq bb za g).2;rw[apu];omega
 have m:0<3/\3<=y6 (((B.aC.flatMap qp).drop ((zNq k).toNat*7)).drop 4):=by have:=(aq bb za g).2;rw[apu];omega
 have j:=fO bb g bc;simp only[D.agg.injEq]at j;have q:D.agg ((((B.aC.flatMap qp).drop ((zNq k).toNat*7)).drop 1).take 3)=y4 (qO (y7 B.aC k bc).x):=by
  have:(((B.aC.flatMap qp).drop ((zNq k).toNat*7)).drop 1).take 3=((((B.aC.flatMap qp).drop ((zNq k).toNat*7)).take 7).drop 1).take 3:=by rw[arY,arl];rfl
  rw[this,j];rfl
 have p:D.agg ((((B.aC.flatMap qp).drop ((zNq k).toNat*7)).drop 4).take 3)=y4 (qO (y7 B.aC k bc).y):=by
  have:(((B.aC.flatMap qp).drop ((zNq k).toNat*7)).drop 4).take 3=((((B.aC.flatMap qp).drop ((zNq k).toNat*7)).take 7).drop 4).take 3:=by rw[arY,arl];rfl
  rw[this,j];rfl
 cases o:(mo (y7 B.aC k bc).x||mo (y7 B.aC k bc).y)with
 |false=>
  rw[o]at c;refine⟨λ_=>?_,λh=>api (ape zb) h⟩;exact af.r a [.er 49 (nat i),yu a1,yu d,.eq 52 b,.eb 54 (ah g),.er 59 (nat i),yu a1,yu d,.eq 62 b,.er 63 (nat k),yu e,yu n,.eq 66 q,.er 69 (nat i),yu a1,yu d,.eq 72 b,.er 73 (nat k),yu e,yu m,.eq 76 p,z3 c,.eq 56 (bL (ax g za))]
 |true=>
  rw[o]at c;refine⟨λh=>api h zb,λ_=>?_⟩;exact af.r a [.er 49 (nat i),yu a1,yu d,.eq 52 b,.eb 54 (ah g),.er 59 (nat i),yu a1,yu d,.eq 62 b,.er 63 (nat k),yu e,yu n,.eq 66 q,.er 69 (nat i),yu a1,yu d,.eq 72 b,.er 73 (nat k),yu e,yu m,.eq 76 p,z3 c]
def aiq(b:i<y6 l.bs):xo G (ae f8 1) (siS l xs i (y7 l.bs i bc).aC.length) (y5 2) (soS l xs i):=by have a1:=Bn b;have d:=bA a8 b 1 za;have c:=j5 a8 b bc 1 za;generalize y7 l.bs i bc=B at*;exact af.r a [.er 49 (nat i),yu a1,yu d,.eq 52 c,.eb 54 (av (apc (y6 B.aC)))]
def sbE(l:pB)(i:aw):aw:=jY (spE (y7 l.bs i bc)) (y7 l.bs i bc).aC.length
def RF(b:i<y6 l.bs)(r:y6 l.bs<=1000)(n:(y7 l.bs i bc).aC.length<=8)(w:∀m∈(y7 l.bs i bc).aC,w9 m.x/\w9 m.y):
  (sbE l i=0->xo G (ae f8 0) (soS l xs i) y3 (soS l xs (i+1)))/\(sbE l i≠0->xo G (ae f8 0) (soS l xs i) .ret smR):=by
 unfold sbE;have f:∀k,k<(y7 l.bs i bc).aC.length->w9 ((y7 l.bs i bc).aC.getD k bc).x/\w9 ((y7 l.bs i bc).aC.getD k bc).y:=λk c=>w _ (aA c bc)
 rcases dg (spE (y7 l.bs i bc)) (y7 l.bs i bc).aC.length with⟨e,d⟩|⟨k,e,d,q,p⟩
 have g:=aI.z zZq G (ae f8 1) (y5 2) (soS l xs i) (λk=>siS l xs i k) (y7 l.bs i bc).aC.length (λk c=>(RJ a b c n (f k c)).1 (d k c)) (aiq a b);refine⟨λ_=>?_,λh=>api e h⟩;exact af.r a [.eb 43 (ah b),.code g,.eq 45 (bL (ax b za))];have g:=aI.z zZq G (ae f8 1) .ret smR (λk=>siS l xs i k) k (λj o=>(RJ a b za n (f j za)).1 (p j o)) ((RJ a b e n (f k e)).2 d);refine⟨λh=>api (q.symm.trans h) d,λ_=>?_⟩;exact af.r a [.eb 43 (ah b),.code g]
def aip:xo G (ae f8 0) (soS l xs (y6 l.bs)) (y5 0) (smF l xs):=
 af.r a [.eb 43 (av (apc (y6 l.bs)))]
def stE(xs:ai zZ)(i:aw):aw:=if YU (y7 xs i bc)=0/\mo (y7 xs i bc).t=aj then 0 else 1
def aez(x:zZ):YU x=0\/YU x=2:=by unfold YU;split;exact y2 rfl;split;exact y2 rfl;exact y1 rfl
def RE(d:i<y6 xs)(p:y6 xs<=1000)(ok:(y7 xs i bc).Ok)(w:w9 (y7 xs i bc).t):
  (stE xs i=0->xo G (ae f8 2) (stS l xs i) y3 (stS l xs (i+1)))/\(stE xs i≠0->xo G (ae f8 2) (stS l xs i) .ret smR):=by
 have ck:=Yi a ok;have c:=ahw a w;have b:=ay uH za d;have g:=aq uH za d;have j:0<3/\3<=y6 (((xs.flatMap oU).drop ((zNq i).toNat*4)).drop 0):=by have:=(aq uH za d).2;rw[apu];omega
 have e:=fO uH d bc;have o:=e;simp only[D.agg.injEq]at o;have n:D.agg ((((xs.flatMap oU).drop ((zNq i).toNat*4)).drop 0).take 3)=y4 (qO (y7 xs i bc).t):=by
  have:(((xs.flatMap oU).drop ((zNq i).toNat*4)).drop 0).take 3=(((xs.flatMap oU).drop ((zNq i).toNat*4)).take 4).take 3:=by rw[aqD,arl];rfl
  rw[this,o];rfl
 have sc:bJ .i64 (zNq i+1)=zNq (i+1):=ax d za;unfold stE;rcases aez (y7 xs i bc)with f|f
 rw[f]at ck;cases m:mo (y7 xs i bc).t with
 |false=>
  rw[m]at c;refine⟨λ_=>?_,λh=>api (aph ⟨f,rfl⟩) h⟩;exact af.r a [.eb 82 (ah d),.er 86 (nat i),yu b,yu g,.eq 88 e,z3 ck,.er 93 (nat i),yu b,yu j,.eq 96 n,z3 c,.eq 84 (bL sc)]
 |true=>
  rw[m]at c;refine⟨λh=>api h zb,λ_=>?_⟩;exact af.r a [.eb 82 (ah d),.er 86 (nat i),yu b,yu g,.eq 88 e,z3 ck,.er 93 (nat i),yu b,yu j,.eq 96 n,z3 c]
 rw[f]at ck;refine⟨λh=>api h (by rw[f];simp),λ_=>?_⟩;exact af.r a [.eb 82 (ah d),.er 86 (nat i),yu b,yu g,.eq 88 e,z3 ck]
def ail:xo G (ae f8 2) (stS l xs (y6 xs)) (y5 4) (smF l xs):=
 af.r a [.eb 82 (av (apc (y6 xs)))]
end
structure TM(l:pB)(xs:ai zZ):Prop where
 ck:PM l=0
 b6:l.bs.length<=6
 j8:l.js.length<=8
 d2:l.ds.length<=2
 len:xs.length=l.ds.length
 sh:Oi l
 tn:∀x∈xs,YU x=0/\mo x.t=aj
def neB{i j:aw}(h:i≠j):(zNq i !=zNq j)=bj:=by have:(zNq i==zNq j)=aj:=fh h;unfold bne;rw[this];rfl
def NJ{i j:aw}(h:i=j):(zNq i !=zNq j)=aj:=by subst h;simp
def aeW(a:aa G){l:pB}{xs:ai zZ}(ok:l.Ok)(B:∀x∈xs,x.Ok)(E:∀b∈l.bs,∀m∈b.aC,w9 m.x/\w9 m.y)(rx:∀x∈xs,w9 x.t):∃z,xf G 8 [Co l,aQ oU xs] (bool z)/\(z=bj->TM l xs):=by
 by_cases d:6<y6 l.bs;exact⟨aj,Spec.r a func8 [2] [.eb 13 (uC d)],λh=>by cases h⟩;by_cases f:8<y6 l.js;exact⟨aj,Spec.r a func8 [2] [.eb 13 (fu d),.eb 18 (uC f)],λh=>by cases h⟩;by_cases n:2<y6 l.ds;exact⟨aj,Spec.r a func8 [2] [.eb 13 (fu d),.eb 18 (fu f),.eb 24 (uC n)],λh=>by cases h⟩;by_cases g:y6 xs=y6 l.ds
 case neg=>exact⟨aj,Spec.r a func8 [2] [.eb 13 (fu d),.eb 18 (fu f),.eb 24 (fu n),.eb 32 (neB g)],λh=>by cases h⟩
 have ck:=agB a ok;by_cases r:PM l=0
 case neg=>exact⟨aj,Spec.r a func8 [2] [.eb 13 (fu d),.eb 18 (fu f),.eb 24 (fu n),.eb 32 (NJ g),z3 ck,.eb 37 (neB r)],λh=>by cases h⟩
 rw[r]at ck;have pv:=wi r;have o:∀i<y6 l.bs,(y7 l.bs i bc).aC.length<=8/\∀m∈(y7 l.bs i bc).aC,w9 m.x/\w9 m.y:=λi q=>⟨(pv _ (aA q bc)).1,E _ (aA q bc)⟩
 rcases dg (sbE l) (y6 l.bs) with⟨-,u⟩|⟨i,A,u,-,J⟩
 case inr=>
  have p:=aI.z zZq G (ae f8 0) .ret smR (λk=>soS l xs k) i (λj H=>(RF a za za (o j za).1 (o j za).2).1 (J j H)) ((RF a A za (o i A).1 (o i A).2).2 u);exact⟨aj,Spec.r a func8 [2] [.eb 13 (fu d),.eb 18 (fu f),.eb 24 (fu n),.eb 32 (NJ g),z3 ck,.code p],λh=>by cases h⟩
 have p:=aI.z zZq G (ae f8 0) (y5 0) (smF l xs) (λk=>soS l xs k) (y6 l.bs) (λk c=>(RF a c za (o k c).1 (o k c).2).1 (u k c)) (aip a);have y:Oi l:=by
  refine yi λi q=>yi λk c=>?_
  have:=jr (u i q) k c;unfold spE at this;split at this;cases this;rename_i F;simpa using F
 rcases dg (stE xs) (y6 xs) with⟨-,f2⟩|⟨i,f1,f2,-,f4⟩
 case inr=>
  have lq:=aI.z zZq G (ae f8 2) .ret smR (λk=>stS l xs k) i (λk c=>(RE a za za (B _ (aA za bc)) (rx _ (aA za bc))).1 (f4 k c)) ((RE a f1 za (B _ (aA f1 bc)) (rx _ (aA f1 bc))).2 f2);exact⟨aj,Spec.r a func8 [2] [.eb 13 (fu d),.eb 18 (fu f),.eb 24 (fu n),.eb 32 (NJ g),z3 ck,.code p,.code lq],λh=>by cases h⟩
 have lq:=aI.z zZq G (ae f8 2) (y5 4) (smF l xs) (λk=>stS l xs k) (y6 xs) (λk c=>(RE a c za (B _ (aA c bc)) (rx _ (aA c bc))).1 (f2 k c)) (ail a);have w:∀x∈xs,YU x=0/\mo x.t=aj:=by
  refine yi λi q=>?_
  have:=f2 i q;unfold stE at this;split at this;assumption;cases this
 have fin:TM l xs:=⟨r,by omega,by omega,by omega,g,y,w⟩;obtain⟨gs,e,v,-,I⟩:=Z5 a (abF r);rw[<-SL r]at v;obtain rfl|rfl:=I
 case inr=>exact⟨bj,Spec.r a func8 [2] [.eb 13 (fu d),.eb 18 (fu f),.eb 24 (fu n),.eb 32 (NJ g),z3 ck,.code p,.code lq,z3 v],λ_=>fin⟩
 cases D:decide (bJ .i64 (zNq (y6 gs)-zNq (y6 l.ds))<=1)with
 |true=>exact⟨bj,Spec.r a func8 [2] [.eb 13 (fu d),.eb 18 (fu f),.eb 24 (fu n),.eb 32 (NJ g),z3 ck,.code p,.code lq,z3 v,.eb 114 D],λ_=>fin⟩
 |false=>
  obtain⟨z,lo⟩:=al9 a (l:=l) (xs:=xs) za za (λb s=>⟨(pv b s).1,λm t=>⟨BE ((pv b s).2 m t).1 (y b s m t).1,BE ((pv b s).2 m t).2 (y b s m t).2⟩⟩) (λx C=>BE (yK (w x C).1).1 (w x C).2);exact⟨z,by cases z<;>exact Spec.r a func8 [2] [.eb 13 (fu d),.eb 18 (fu f),.eb 24 (fu n),.eb 32 (NJ g),z3 ck,.code p,.code lq,z3 v,.eb 114 D,z3 lo],λ_=>fin⟩
variable {M:ai zZ} {h:pB} {l u:ai cA}
def G6(h:b<y6 l):((0:cA)<=zNq b/\zNq b<(y6 l:cA))/\(zNq b).toNat*1<y6 (l.map int):=by have e:(zNq b).toNat=b:=rfl;rw[apq,e,aqx];exact⟨⟨by simp,by simpa using h⟩,h⟩
def Av(h:b<y6 l):0<1/\1<=y6 ((l.map int).drop ((zNq b).toNat*1)):=by have e:(zNq b).toNat=b:=rfl;rw[apu,apq,e];omega
def ints_at(h:b<y6 l):((l.map int).drop ((zNq b).toNat*1)).headD .any=int (y7 l b 0):=by have e:(zNq b).toNat=b:=rfl;rw[e,aqx,<-List.map_drop,aqr h,are,asy,apf,apj h];rfl
def inS(a b:ai cA)(i:aw):St:=lay 26 [(0,sZ a),(1,sZ b),(5,nat i)] []
def SY(c:b<y6 l)(d:b<y6 u)(k:y6 l<=1000000):
  (y7 l b 0=y7 u b 0->xo G (ae f12 0) (inS l u b) y3 (inS l u (b+1)))/\(y7 l b 0≠y7 u b 0->xo G (ae f12 0) (inS l u b) .ret (lay 26 [(4,bool aj)] [])):=by
 have j:=ints_at c;have g:=ints_at d;generalize y7 l b 0=x at*;generalize y7 u b 0=y at*;refine⟨λh=>?_,λh=>?_⟩
 ·have e:(x !=y)=aj:=by rw[h];simp
  exact af.r a [.eb 14 (ah c),.er 18 (nat b),yu (G6 c),yu (Av c),.eq 20 j,.er 22 (nat b),yu (G6 d),yu (Av d),.eq 24 g,.eb 25 e,.eq 16 (bL (ax c za))]
 ·have e:(x !=y)=bj:=by simpa using h
  exact af.r a [.eb 14 (ah c),.er 18 (nat b),yu (G6 c),yu (Av c),.eq 20 j,.er 22 (nat b),yu (G6 d),yu (Av d),.eq 24 g,.eb 25 e]
def ajM(c:aa G){a b:ai cA}(l:y6 a<=1000000):xf G 12 [sZ a,sZ b] (bool (decide (a=b))):=by
 by_cases d:y6 a=y6 b
 case neg=>
  rw[apG (λe=>d (by rw[e]))];exact Spec.r c func12 [] [.eb 10 (neB d)]
 rcases dg (λi=>if y7 a i 0=y7 b i 0 then 0 else 1) (y6 a) with⟨-,f⟩|⟨i,h,f,-,n⟩
 have eq:∀i<y6 a,y7 a i 0=y7 b i 0:=λi g=>by have:=f i g;split at this;assumption;cases this
 have e:a=b:=by
  refine arv d λi h f=>?_
  have:=eq i h;rw[apf,apf,apj h,apj f]at this;exact this
 rw[apE e];have k:=aI.z zZq G (ae f12 0) (y5 0) (lay 26 [] []) (λi=>inS a b i) (y6 a) (λi g=>(SY c g za l).1 (eq i g))
  (af.r c [.eb 14 (av (apc (y6 a)))])
 exact Spec.r c func12 [] [.eb 10 (NJ d),.code k];have ne:y7 a i 0≠y7 b i 0:=λe=>f (aph e)
 have e:a≠b:=λe=>ne (by rw[e])
 rw[apG e];have k:=aI.z zZq G (ae f12 0) .ret (lay 26 [(4,bool aj)] []) (λi=>inS a b i) i (λj m=>(SY c za za l).1 (by have:=n j m;split at this;assumption;cases this)) ((SY c h za l).2 ne)
 exact Spec.r c func12 [] [.eb 10 (NJ d),.code k]
structure Smd(G:bn->Prop)(l:Lk)(xs:ai Tn):Prop where
 S:Rl l xs
 ck:Spec zZq G 37 [lM l] (yT .nilIface)
 ht:∀x∈xs,TnC G x
def TM.smd(ok:h.Ok)(k:∀x∈M,x.Ok)(l:TM h M):Smd G (jA h) (M.map Em)/\Co h=lM (jA h)/\aQ oU M=aQ Y9 (M.map Em):=by
 have f:=SL l.ck;have j:aQ oU M=aQ Y9 (M.map Em):=yR λx e=>aih (l.tn x e).1
 have ck:=PF a ok l.ck;rw[f]at ck;have c:∀x∈M.map Em,TnC G x/\iC 64 x.t/\(x.half=bj->x.t=0):=λx e=>by obtain⟨y,b,rfl⟩:=apN.1 e;exact ano a (k y b) (l.tn y b).1 (l.tn y b).2
 have i:(jA h).bs.length=y6 h.bs:=apq ..;have g:(jA h).js.length=y6 h.js:=apq ..;have d:(jA h).ds.length=y6 h.ds:=apq ..;exact⟨⟨⟨abF l.ck,amb ok l.ck l.sh,by rw[i];exact l.b6,by rw[g];exact l.j8,by rw[d];exact l.d2,ahx l.ck,by rw[apq,d];exact l.len,λx e=>(c x e).2⟩,ck,λx e=>(c x e).1⟩,f,j⟩
def Smd.split{xs:ai Tn}(h:Smd G d xs):∃t:Fn,vR d (vU d) t/\qt d t/\Path d t.gs/\t=Gn d t.gs (y6 t.gs)/\xf G 47 [lM d] (alc (aeR t)):=by
 obtain⟨t,l⟩:=vR.ex h.S.ok _ (vU d) (xY d) (apc _);obtain⟨P,e⟩:=l.path;have ok:qt d t:=by rw[e];exact yM d t.gs _ (apc _)
 exact⟨t,l,ok,P,e,Uj a h.S.ok h.ck l ok⟩
open fb zY dH
set_option synthInstance.maxSize 100000
set_option synthInstance.maxHeartbeats 2000000
def V2.sc(k:cl)(v:V2):V2:=⟨v.x*k,v.y*k⟩
def V2.BH(k:cl)(p q:V2):(p.sc k).sub (q.sc k)=(p.sub q).sc k:=by unfold V2.sub V2.sc;simp only[V2.mk.injEq];exact⟨by grind,by grind⟩
def V2.Ur(k:cl)(v:V2):(v.sc k).sq=v.sq*(k*k):=by
 unfold V2.sq V2.sc
 grind
def V2.ZU(k:cl)(v w:V2):(v.sc k).qw (w.sc k)=v.qw w*(k*k):=by
 unfold V2.qw V2.sc
 grind
def V2.CQ{k:cl}(h:k≠0)(v:V2):(v.sc k).sq=0↔v.sq=0:=by
 rw[V2.Ur];constructor;intro e;obtain e|e:=Rat.mul_eq_zero.1 e
 exact e;obtain e|e:=Rat.mul_eq_zero.1 e<;>exact api e h;intro e;rw[e,arZ]
section
variable {K:Type} [dH K]
def QH{c a n m:K}(b:n≠0)(d:m≠0)(h:a*(n*m)=c*n*m):a=c:=
 pf (ji b d) (rg1 [c,a,n,m] 1 h)
variable {K:Type} [dH K] (ι:pD cl K) (k:cl) (s:aw->K) {t t':aM}
def jB(i:aw):K:=s i*(ι.φ k*ι.φ k)
structure ot(t t':aM)(P P':Pt):Prop where
 h1:vl ι (jB ι k s) t' P'.1=ι.φ k*vl ι s t P.1
 h2:vl ι (jB ι k s) t' P'.2=ι.φ k*vl ι s t P.2
structure BSc(t t':aM)(b b':Pl):Prop where
 hc:vl ι (jB ι k s) t' b'.c=vl ι s t b.c
 hs:vl ι (jB ι k s) t' b'.s=vl ι s t b.s
 hx:vl ι (jB ι k s) t' b'.x=ι.φ k*vl ι s t b.x
 hy:vl ι (jB ι k s) t' b'.y=ι.φ k*vl ι s t b.y
variable {Y Z:Pl} {p q r:Pt}
def ot.sub{Q':Pt}(e:fx (y6 t) p)(c:fx (y6 t') q)(d:fx (y6 t) r)(b:fx (y6 t') Q')(h:ot ι k s t t' p q)(g:ot ι k s t t' r Q'):ot ι k s t t' (kv p r) (kv q Q'):=by have l:(kv p r).1=g8 p.1 r.1:=rfl;have j:(kv p r).2=g8 p.2 r.2:=rfl;have i:(kv q Q').1=g8 q.1 Q'.1:=rfl;have f:(kv q Q').2=g8 q.2 Q'.2:=rfl;constructor;rw[l,i,dU ι s e.1 d.1,dU ι _ c.1 b.1,h.h1,g.h1];generalize ι.φ k=κ;generalize vl ι s t p.1=x;generalize vl ι s t r.1=y;exact rg [κ,x,y];rw[j,f,dU ι s e.2 d.2,dU ι _ c.2 b.2,h.h2,g.h2];generalize ι.φ k=κ;generalize vl ι s t p.2=x;generalize vl ι s t r.2=y;exact rg [κ,x,y]
def ot.along(n:eJ (y6 t) t)(o:Model ι s t (y6 t))(c:eJ (y6 t') t')(i:Model ι (jB ι k s) t' (y6 t')){b:Pt}{g d:ai cl}(l:fx (y6 t) p)(f:fx (y6 t') q)(m:Sh (y6 t) g)(v:Sh (y6 t') d)(j:fx (y6 t) r)(a:fx (y6 t') b)
  (h:ot ι k s t t' p q) (e:vl ι (jB ι k s) t' d=vl ι s t g) (w:ot ι k s t t' r b):ot ι k s t t' (cM t p g r) (cM t' q d b):=by
 constructor;rw[qC ι s n o l m j,qC ι _ c i f v a,h.h1,e,w.h1];generalize ι.φ k=κ;generalize vl ι s t p.1=x;generalize vl ι s t g=y;generalize vl ι s t r.1=z;exact rg [κ,x,y,z];rw[qB ι s n o l m j,qB ι _ c i f v a,h.h2,e,w.h2];generalize ι.φ k=κ;generalize vl ι s t p.2=x;generalize vl ι s t g=y;generalize vl ι s t r.2=z;exact rg [κ,x,y,z]
def ot.up{d d':ai cl}(c:fx (y6 t) p)(a:fx (y6 t') q)(h:ot ι k s t t' p q):ot ι k s (mK t d) (mK t' d') p q:=by constructor;rw[iE ι s d c.1,iE ι _ d' a.1];exact h.h1;rw[iE ι s d c.2,iE ι _ d' a.2];exact h.h2
def vB.scale{m:cl}{u z p C:V2}{l j o1 o2 e d g f:K}(h:vB ι s t Y u l j p o1 o2)(q:vB ι (jB ι k s) t' Z z e d C g f)(hu:u.sq≠0)(E:m≠0)
  (F:z=u.sc m) (G:C=p.sc k) (L:e=ι.φ m*l) (J:d=ι.φ m*j) (I:g=ι.φ k*o1) (H:f=ι.φ k*o2):BSc ι k s t t' Y Z:=by
 subst F G L J I H;have D:=xG ι hu;have o:=xG ι E;have y:ι.φ (u.sc m).x=ι.φ u.x*ι.φ m:=ι.mul _ _;have x:ι.φ (u.sc m).y=ι.φ u.y*ι.φ m:=ι.mul _ _;have us:ι.φ (u.sc m).sq=ι.φ u.sq*(ι.φ m*ι.φ m):=by rw[V2.Ur,ι.mul,ι.mul]
 have B:ι.φ (p.sc k).x=ι.φ p.x*ι.φ k:=ι.mul _ _;have A:ι.φ (p.sc k).y=ι.φ p.y*ι.φ k:=ι.mul _ _;have f1:vl ι (jB ι k s) t' Z.c=vl ι s t Y.c:=by refine QH (n:=ι.φ u.sq) (m:=ι.φ m*ι.φ m) D (ji o o) ?_;have i:=q.hc;rw[us,y,x]at i;rw[i,h.hc];generalize ι.φ u.x=a1;generalize ι.φ u.y=c;generalize ι.φ m=a;exact rg [a1,c,a,l,j]
 have f2:vl ι (jB ι k s) t' Z.s=vl ι s t Y.s:=by refine QH (n:=ι.φ u.sq) (m:=ι.φ m*ι.φ m) D (ji o o) ?_;have i:=q.hs;rw[us,y,x]at i;rw[i,h.hs];generalize ι.φ u.x=a1;generalize ι.φ u.y=c;generalize ι.φ m=a;exact rg [a1,c,a,l,j]
 refine⟨f1,f2,?_,?_⟩;rw[q.hx,f1,f2,B,A,h.hx];generalize ι.φ p.x=a1;generalize ι.φ p.y=c;generalize ι.φ k=a;generalize vl ι s t Y.c=w;generalize vl ι s t Y.s=v;exact rg [a1,c,a,w,v,o1];rw[q.hy,f1,f2,B,A,h.hy];generalize ι.φ p.x=a1;generalize ι.φ p.y=c;generalize ι.φ k=a;generalize vl ι s t Y.c=w;generalize vl ι s t Y.s=v;exact rg [a1,c,a,w,v,o2]
def BSc.at(q:eJ (y6 t) t)(r:Model ι s t (y6 t))(u:eJ (y6 t') t')(o:Model ι (jB ι k s) t' (y6 t')){b c:Pl}(p:Cj (y6 t) b)(v:Cj (y6 t') c)(h:BSc ι k s t t' b c)(m:V2):ot ι k s t t' (J4 t b m.x m.y) (J4 t' c (m.sc k).x (m.sc k).y):=by have e:=adO ι s q r p m;have a:=adO ι _ u o v (m.sc k);unfold vV at e a;simp only[gu]at e a;have n:ι.φ (m.sc k).x=ι.φ m.x*ι.φ k:=ι.mul _ _;have l:ι.φ (m.sc k).y=ι.φ m.y*ι.φ k:=ι.mul _ _;rw[n,l,h.hc,h.hs,h.hx,h.hy]at a;constructor;rw[a.1,e.1];generalize ι.φ k=i;generalize ι.φ m.x=a1;generalize ι.φ m.y=j;generalize vl ι s t b.c=g;generalize vl ι s t b.s=f;generalize vl ι s t b.x=d;exact rg [a1,j,i,g,f,d];rw[a.2,e.2];generalize ι.φ k=i;generalize ι.φ m.x=a1;generalize ι.φ m.y=j;generalize vl ι s t b.c=g;generalize vl ι s t b.s=f;generalize vl ι s t b.y=d;exact rg [a1,j,i,g,f,d]
def BF(e:eJ (y6 t) t)(f:Model ι s t (y6 t))(g:eJ (y6 t') t'){s':aw->K}(c:Model ι s' t' (y6 t')){Y b:ai cl}(d:Sh (y6 t) Y)(a:Sh (y6 t') b){m:K}(pm:dH.pos m)(h:vl ι s' t' b=m*vl ι s t Y):aL t' b=aL t Y:=by rw[ku ι s e f d,ku ι _ g c a,h,HW,sG pm,Int.one_mul]
def Model.snoc{d:ai cl}(a:Model ι s t (y6 t))(e:dH.nn (s (y6 t)))(h:s (y6 t)*s (y6 t)=vl ι s t d):Model ι s (mK t d) (mK t d).length:=by
 have b:y6 (mK t d)=y6 t+1:=bW d;rw[b];refine⟨λj c=>?_,λj c=>?_⟩;obtain g|g:=apy j (y6 t)
 exact a.nn j g;obtain rfl:j=y6 t:=za
 exact e;obtain g|g:=apy j (y6 t)
 rw[mK,apf,aqe g,<-apf];exact a.sq j g;obtain rfl:j=y6 t:=za
 rw[mK,apf,apS (apc _),asw];rw[h];show _=lv ι s (y6 t) (aZ d (2^y6 t));rw[Ao];rfl
def Model.sc{X X':ai cl}(len:y6 t'=y6 t)(b:Model ι s (mK t X) (mK t X).length)(d:Model ι (jB ι k s) t' (y6 t'))(a:dH.pos (ι.φ k))(h:vl ι (jB ι k s) t' X'=ι.φ k*ι.φ k*(ι.φ k*ι.φ k)*vl ι s t X):Model ι (jB ι k s) (mK t' X') (mK t' X').length:=by obtain⟨-,e⟩:=Model.base ι s b;have c:=b.nn (y6 t) (by rw[bW];omega);refine Model.snoc ι _ d ?_ ?_;rw[len];exact BS c (y1 (cQ a a));rw[h,len,<-e];unfold jB;generalize ι.φ k=κ;generalize s (y6 t)=x;exact rg [κ,x]
end
section
variable {K:Type} [dH K] (ι:pD cl K) (k:cl) (s:aw->K) {t t':aM}
structure YP(t t':aM)(c c':Cr):Prop where
 ho:ot ι k s t t' c.o c'.o
 hr:vl ι (jB ι k s) t' c'.r=ι.φ k*ι.φ k*vl ι s t c.r
structure akZ(t t':aM)(a b a' b':Cr):Prop where
 hv:ot ι k s t t' (cV a b) (cV a' b')
 hd:vl ι (jB ι k s) t' (cD t' a' b')=ι.φ k*ι.φ k*vl ι s t (cD t a b)
 hS:vl ι (jB ι k s) t' (cS t' a' b')=ι.φ k*ι.φ k*vl ι s t (cS t a b)
 hW:vl ι (jB ι k s) t' (Bl t' a' b')=ι.φ k*ι.φ k*vl ι s t (Bl t a b)
 hX:vl ι (jB ι k s) t' (cX t' a' b')=ι.φ k*ι.φ k*(ι.φ k*ι.φ k)*vl ι s t (cX t a b)
variable {C E w:Cr} {p q r:Pt}
def NT(q:eJ (y6 t) t)(r:Model ι s t (y6 t))(u:eJ (y6 t') t')(p:Model ι (jB ι k s) t' (y6 t')){c:Cr}(m:zX (y6 t) w)(l:zX (y6 t) C)(j:zX (y6 t') E)(o:zX (y6 t') c)(h:YP ι k s t t' w E)(g:YP ι k s t t' C c):akZ ι k s t t' w C E c:=by
 have v:=yc ι s q r m l;have e:=yc ι _ u p j o;have i:ot ι k s t t' (cV w C) (cV E c):=ot.sub ι k s l.o o.o m.o j.o g.ho h.ho;have f:vl ι (jB ι k s) t' (cD t' E c)=ι.φ k*ι.φ k*vl ι s t (cD t w C):=by rw[e.hd,v.hd,i.h1,i.h2];generalize ι.φ k=κ;generalize vl ι s t (cV w C).1=x;generalize vl ι s t (cV w C).2=y;exact rg [κ,x,y]
 have n:vl ι (jB ι k s) t' (cS t' E c)=ι.φ k*ι.φ k*vl ι s t (cS t w C):=by rw[e.hS,v.hS,f,h.hr,g.hr];generalize ι.φ k=κ;generalize vl ι s t (cD t w C)=x;generalize vl ι s t w.r=y;generalize vl ι s t C.r=z;exact rg [κ,x,y,z]
 refine⟨i,f,n,?_,?_⟩;rw[e.hW,v.hW,f];generalize ι.φ k=κ;generalize vl ι s t (cD t w C)=x;exact rg [κ,x];rw[e.hX,v.hX,f,n,h.hr];generalize ι.φ k=κ;generalize vl ι s t (cD t w C)=x;generalize vl ι s t w.r=y;generalize vl ι s t (cS t w C)=z;exact rg [κ,x,y,z]
def CX{x x' w:K}{m:K}(a:w≠0)(b:m≠0){e:K}(h:x*w=e)(c:x'*(m*w)=m*e):x'=x:=by subst h;exact QH a b (rg1 [x,x',w,m] 1 c)
def L5(y:k≠0)(e:eJ (y6 t) t)(l:Model ι s t (y6 t))(m:eJ (y6 t') t')(p:Model ι (jB ι k s) t' (y6 t')){n:Cr}(d:zX (y6 t) w)(j:zX (y6 t) C)(i:zX (y6 t') E)(u:zX (y6 t') n)(h:YP ι k s t t' w E)(g:YP ι k s t t' C n)(d0:vl ι s t (cD t w C)≠0):ot ι k s t t' (Eh t w C) (Eh t' E n):=by
 have c:=p7 e d j;have a:=p7 m i u;have q:=NT ι k s e l m p d j i u h g;have f:=xG ι y;have x:vl ι s t (Bl t w C)≠0:=by rw[(yc ι s e l d j).hW];exact Jl d0
 have r:vl ι (jB ι k s) t' (cD t' E n)≠0:=by rw[q.hd];exact ji (ji f f) d0
 have z:=NU ι s e l d j d0;have v:=NU ι _ m p i u r;rw[q.hW,q.hS]at v;exact ot.along ι k s e l m p d.o i.o c.hG a.hG c.hv a.hv h.ho (CX x (ji f f) z v) q.hv
def Ye(R:k≠0)(len:y6 t'=y6 t)(b:eJ (y6 t) t)(D:eJ (y6 t') t'){d:Cr}(m:Model ι s (cT t w C) (cT t w C).length)(l:Model ι (jB ι k s) t' (y6 t'))(X:dH.pos (ι.φ k))(e:zX (y6 t) w)(B:zX (y6 t) C)(G:zX (y6 t') E)(O:zX (y6 t') d)(h:YP ι k s t t' w E)(g:YP ι k s t t' C d)(d0:vl ι s t (cD t w C)≠0):
  Model ι (jB ι k s) (cT t' E d) (cT t' E d).length/\ot ι k s (cT t w C) (cT t' E d) (Za t w C) (Za t' E d)/\ot ι k s (cT t w C) (cT t' E d) (Y_ t w C) (Y_ t' E d):=by
 obtain⟨H,Y⟩:=Model.base ι s m;have c:=p7 b e B;have f:=p7 D G O;have q:=NT ι k s b H D l e B G O h g;have A:=xG ι R;have r:Model ι (jB ι k s) (cT t' E d) (cT t' E d).length:=Model.sc ι k s len m l X q.hX;have F:=L5 ι k s R b H D l e B G O h g d0;have J:cT t w C=mK t (cX t w C):=rfl;have o:cT t' E d=mK t' (cX t' E d):=rfl;have j:eJ (cT t w C).length (cT t w C):=oN b _;have i:eJ (cT t' E d).length (cT t' E d):=oN D _;have le:y6 t<=y6 (cT t w C):=by rw[J,bW];omega
 have y:y6 t'<=y6 (cT t' E d):=by rw[o,bW];omega
 have S:Sh (cT t w C).length (cg (y6 t)):=(iO (t:=t) (cX t w C)).sh;have V:Sh (cT t' E d).length (cg (y6 t')):=(iO (t:=t') (cX t' E d)).sh;have I:Sh (cT t w C).length (cH t w C):=Sh.div j S (c.hW.mono le);have n:Sh (cT t' E d).length (cH t' E d):=Sh.div i V (f.hW.mono y);have a:vl ι s t (Bl t w C)≠0:=by rw[(yc ι s b H e B).hW];exact Jl d0
 have W:vl ι s (cT t w C) (cH t w C)*vl ι s t (Bl t w C)=s (y6 t):=by
  have:=lD ι s j m S (c.hW.mono le) (by rw[J,iE ι s _ c.hW];exact a)
  rw[J,iE ι s _ c.hW,te]at this;exact this
 have v:vl ι (jB ι k s) (cT t' E d) (cH t' E d)*vl ι (jB ι k s) t' (Bl t' E d)=jB ι k s (y6 t'):=by
  have:=lD ι _ i r V (f.hW.mono y) (by rw[o,iE ι _ _ f.hW,q.hW];exact ji (ji A A) a)
  rw[o,iE ι _ _ f.hW,te]at this;exact this
 rw[q.hW,len]at v;have T:vl ι (jB ι k s) (cT t' E d) (cH t' E d)=vl ι s (cT t w C) (cH t w C):=by
  refine CX a (ji A A) W (v.trans ?_);unfold jB;generalize ι.φ k=κ;generalize s (y6 t)=x;exact rg [κ,x]
 have P:ot ι k s (cT t w C) (cT t' E d) (cV w C) (cV E d):=ot.up ι k s c.hv f.hv q.hv;have U:ot ι k s (cT t w C) (cT t' E d) (Eh t w C) (Eh t' E d):=ot.up ι k s c.hF f.hF F;have M:=c.hv.mono le;have p:=f.hv.mono y;have Q:fx (cT t w C).length (cN t w C):=⟨Sh.mul j (Sh.l7 _ _) M.2,M.1⟩;have u:fx (cT t' E d).length (cN t' E d):=⟨Sh.mul i (Sh.l7 _ _) p.2,p.1⟩;have N:ot ι k s (cT t w C) (cT t' E d) (cN t w C) (cN t' E d):=by
  refine⟨?_,P.h1⟩;show vl ι (jB ι k s) (cT t' E d) (mulL (cT t' E d) (iq (-1)) (cV E d).2)=ι.φ k*vl ι s (cT t w C) (mulL (cT t w C) (iq (-1)) (cV w C).2);rw[cZ ι _ i r (Sh.l7 _ _) p.2,cZ ι s j m (Sh.l7 _ _) M.2,gV,gV,P.h2];generalize ι.φ k=κ;generalize ι.φ (-1)=z;generalize vl ι s (cT t w C) (cV w C).2=x;exact rg [κ,x,z]
 have L:vl ι (jB ι k s) (cT t' E d) (Yo t' E d)=vl ι s (cT t w C) (Yo t w C):=by
  show vl ι (jB ι k s) (cT t' E d) (mulL (cT t' E d) (iq (-1)) (cH t' E d))=vl ι s (cT t w C) (mulL (cT t w C) (iq (-1)) (cH t w C));rw[cZ ι _ i r (Sh.l7 _ _) n,cZ ι s j m (Sh.l7 _ _) I,gV,gV,T]
 exact⟨r,ot.along ι k s j m i r (c.hF.mono le) (f.hF.mono y) I n Q u U T N,ot.along ι k s j m i r (c.hF.mono le) (f.hF.mono y) (Sh.mul j (Sh.l7 _ _) I) (Sh.mul i (Sh.l7 _ _) n) Q u U L N⟩
structure akW(t t':aM)(c c':Cr)(p q p' q':Pt):Prop where
 hv:ot ι k s t t' (lV p q) (lV p' q')
 hQ:vl ι (jB ι k s) t' (lQ t' p' q')=ι.φ k*ι.φ k*vl ι s t (lQ t p q)
 hE:vl ι (jB ι k s) t' (lE t' c' p' q')=ι.φ k*ι.φ k*vl ι s t (lE t c p q)
 hX:vl ι (jB ι k s) t' (lX t' c' p' q')=ι.φ k*ι.φ k*(ι.φ k*ι.φ k)*vl ι s t (lX t c p q)
def Ni(j:eJ (y6 t) t)(d:Model ι s t (y6 t))(l:eJ (y6 t') t')(A:Model ι (jB ι k s) t' (y6 t')){b:Pt}(E:zX (y6 t) w)(B:fx (y6 t) p)(D:fx (y6 t) q)(G:zX (y6 t') C)(v:fx (y6 t') r)(F:fx (y6 t') b)(h:YP ι k s t t' w C)(g:ot ι k s t t' p r)(f:ot ι k s t t' q b):akW ι k s t t' w C p q r b:=by
 have L:=m8 j E B D;have e:=m8 l G v F;have i:ot ι k s t t' (lV p q) (lV r b):=ot.sub ι k s D F B v f g;have hw:ot ι k s t t' (lW w p) (lW C r):=ot.sub ι k s E.o G.o B v h.ho g;have H:vl ι s t (lQ t p q)=_:=tS ι s j d L.hv L.hv;have m:vl ι (jB ι k s) t' (lQ t' r b)=_:=tS ι _ l A e.hv e.hv;have I:vl ι s t (lE t w p q)=_:=tS ι s j d L.hv L.hw;have n:vl ι (jB ι k s) t' (lE t' C r b)=_:=tS ι _ l A e.hv e.hw;have J:vl ι s t (lC t w p q)=_:=Cz ι s j d L.hv L.hw;have o:vl ι (jB ι k s) t' (lC t' C r b)=_:=Cz ι _ l A e.hv e.hw;rw[i.h1,i.h2]at m;rw[i.h1,i.h2,hw.h1,hw.h2]at n o;have Q:vl ι (jB ι k s) t' (lQ t' r b)=ι.φ k*ι.φ k*vl ι s t (lQ t p q):=by rw[m,H];generalize ι.φ k=κ;generalize vl ι s t (lV p q).1=x;generalize vl ι s t (lV p q).2=y;exact rg [κ,x,y]
 refine⟨i,Q,?_,?_⟩;rw[n,I];generalize ι.φ k=κ;generalize vl ι s t (lV p q).1=x;generalize vl ι s t (lV p q).2=y;generalize vl ι s t (lW w p).1=z;generalize vl ι s t (lW w p).2=a;exact rg [κ,x,y,z,a];rw[SO ι _ l A G v F,SO ι s j d E B D,Q,h.hr,o,J];generalize ι.φ k=κ;generalize vl ι s t (lV p q).1=x;generalize vl ι s t (lV p q).2=y;generalize vl ι s t (lW w p).1=z;generalize vl ι s t (lW w p).2=a;generalize vl ι s t (lQ t p q)=u;generalize vl ι s t w.r=c;exact rg [κ,x,y,z,a,u,c]
def Xg(A:k≠0)(d:eJ (y6 t) t)(c:Model ι s t (y6 t))(e:eJ (y6 t') t')(n:Model ι (jB ι k s) t' (y6 t')){b:Pt}(a:zX (y6 t) w)(o:fx (y6 t) p)(v:fx (y6 t) q)(z:zX (y6 t') C)(m:fx (y6 t') r)(y:fx (y6 t') b)(h:YP ι k s t t' w C)(g:ot ι k s t t' p r)(f:ot ι k s t t' q b)(u:vl ι s t (lQ t p q)≠0):
  ot ι k s t t' (cM t p (lF t w p q) (lV p q)) (cM t' r (lF t' C r b) (lV r b)):=by
 have L:=m8 d a o v;have j:=m8 e z m y;have S:=Ni ι k s d c e n a o v z m y h g f;have l:=xG ι A;have B:vl ι s t (lF t w p q)*vl ι s t (lQ t p q)=vl ι s t (lE t w p q):=lD ι s d c L.hE L.hQ u;have x:vl ι (jB ι k s) t' (lF t' C r b)*vl ι (jB ι k s) t' (lQ t' r b)=vl ι (jB ι k s) t' (lE t' C r b):=lD ι _ e n j.hE j.hQ (by rw[S.hQ];exact ji (ji l l) u);rw[S.hQ,S.hE]at x;exact ot.along ι k s d c e n o m (Sh.div d L.hE L.hQ) (Sh.div e j.hE j.hQ) L.hv j.hv g (CX u (ji l l) B x) S.hv
def Xf(k0:k≠0)(len:y6 t'=y6 t)(F:eJ (y6 t) t)(I:eJ (y6 t') t'){b:Pt}(n:Model ι s (lT t w p q) (lT t w p q).length)(c:Model ι (jB ι k s) t' (y6 t'))(pk:dH.pos (ι.φ k))(T:zX (y6 t) w)(v:fx (y6 t) p)(R:fx (y6 t) q)(I5:zX (y6 t') C)(o:fx (y6 t') r)(Y:fx (y6 t') b)(h:YP ι k s t t' w C)(g:ot ι k s t t' p r)(f:ot ι k s t t' q b)(D:vl ι s t (lQ t p q)≠0):
  Model ι (jB ι k s) (lT t' C r b) (lT t' C r b).length/\ot ι k s (lT t w p q) (lT t' C r b) (cM (lT t w p q) p (lG t w p q) (lV p q)) (cM (lT t' C r b) r (lG t' C r b) (lV r b))/\ot ι k s (lT t w p q) (lT t' C r b) (cM (lT t w p q) p (lH t w p q) (lV p q)) (cM (lT t' C r b) r (lH t' C r b) (lV r b)):=by
 obtain⟨m0,hr⟩:=Model.base ι s n;have L:=m8 F T v R;have e:=m8 I I5 o Y;have S:=Ni ι k s F m0 I c T v R I5 o Y h g f;have B:=xG ι k0;have u:Model ι (jB ι k s) (lT t' C r b) (lT t' C r b).length:=Model.sc ι k s len n c pk S.hX;have eT:lT t w p q=mK t (lX t w p q):=rfl;have J:lT t' C r b=mK t' (lX t' C r b):=rfl;have m:eJ (lT t w p q).length (lT t w p q):=oN F _;have l:eJ (lT t' C r b).length (lT t' C r b):=oN I _;have le:y6 t<=y6 (lT t w p q):=by rw[eT,bW];omega
 have i:y6 t'<=y6 (lT t' C r b):=by rw[J,bW];omega
 have d:Sh (lT t w p q).length (cg (y6 t)):=(iO (t:=t) (lX t w p q)).sh;have E:Sh (lT t' C r b).length (cg (y6 t')):=(iO (t:=t') (lX t' C r b)).sh;have W:vl ι s (lT t w p q) (cg (y6 t))=s (y6 t):=te ι s _;have a:vl ι (jB ι k s) (lT t' C r b) (cg (y6 t'))=jB ι k s (y6 t):=(te ι _ _).trans (by rw[len])
 have V:Sh (lT t w p q).length (lA t w p q):=(L.hE.mono le).add d;have U:Sh (lT t w p q).length (lB t w p q):=(L.hE.mono le).sub d;have X:Sh (lT t' C r b).length (lA t' C r b):=(e.hE.mono i).add E;have N:Sh (lT t' C r b).length (lB t' C r b):=(e.hE.mono i).sub E;have M:vl ι s (lT t w p q) (lQ t p q)=vl ι s t (lQ t p q):=iE ι s _ L.hQ;have j:vl ι (jB ι k s) (lT t' C r b) (lQ t' r b)=vl ι (jB ι k s) t' (lQ t' r b):=iE ι _ _ e.hQ;have E1:vl ι s (lT t w p q) (lE t w p q)=vl ι s t (lE t w p q):=iE ι s _ L.hE;have A:vl ι (jB ι k s) (lT t' C r b) (lE t' C r b)=vl ι (jB ι k s) t' (lE t' C r b):=iE ι _ _ e.hE;have Z:vl ι s (lT t w p q) (lQ t p q)≠0:=by rw[M];exact D
 have z:vl ι (jB ι k s) (lT t' C r b) (lQ t' r b)≠0:=by rw[j,S.hQ];exact ji (ji B B) D
 have gG:vl ι s (lT t w p q) (lG t w p q)*vl ι s t (lQ t p q)=vl ι s t (lE t w p q)+s (y6 t):=by
  have:=lD ι s m n V (L.hQ.mono le) Z;rw[M]at this;refine this.trans ?_;show vl ι s (lT t w p q) (oX (lE t w p q) (cg (y6 t)))=_;rw[qD ι s (L.hE.mono le) d,W,E1]
 have gH:vl ι s (lT t w p q) (lH t w p q)*vl ι s t (lQ t p q)=vl ι s t (lE t w p q)-s (y6 t):=by
  have:=lD ι s m n U (L.hQ.mono le) Z;rw[M]at this;refine this.trans ?_;show vl ι s (lT t w p q) (g8 (lE t w p q) (cg (y6 t)))=_;rw[dU ι s (L.hE.mono le) d,W,E1]
 have H:vl ι (jB ι k s) (lT t' C r b) (lG t' C r b)*(ι.φ k*ι.φ k*vl ι s t (lQ t p q))=ι.φ k*ι.φ k*(vl ι s t (lE t w p q)+s (y6 t)):=by
  have:=lD ι _ l u X (e.hQ.mono i) z;rw[j,S.hQ]at this;refine this.trans ?_;show vl ι (jB ι k s) (lT t' C r b) (oX (lE t' C r b) (cg (y6 t')))=_;rw[qD ι _ (e.hE.mono i) E,a,A,S.hE];unfold jB;generalize ι.φ k=κ;generalize s (y6 t)=x;generalize vl ι s t (lE t w p q)=y;exact rg [κ,x,y]
 have G:vl ι (jB ι k s) (lT t' C r b) (lH t' C r b)*(ι.φ k*ι.φ k*vl ι s t (lQ t p q))=ι.φ k*ι.φ k*(vl ι s t (lE t w p q)-s (y6 t)):=by
  have:=lD ι _ l u N (e.hQ.mono i) z;rw[j,S.hQ]at this;refine this.trans ?_;show vl ι (jB ι k s) (lT t' C r b) (g8 (lE t' C r b) (cg (y6 t')))=_;rw[dU ι _ (e.hE.mono i) E,a,A,S.hE];unfold jB;generalize ι.φ k=κ;generalize s (y6 t)=x;generalize vl ι s t (lE t w p q)=y;exact rg [κ,x,y]
 have O:ot ι k s (lT t w p q) (lT t' C r b) (lV p q) (lV r b):=ot.up ι k s L.hv e.hv S.hv;have P:ot ι k s (lT t w p q) (lT t' C r b) p r:=ot.up ι k s v o g;have Q:=ji B B;exact⟨u,ot.along ι k s m n l u (v.mono le) (o.mono i) (Sh.div m V (L.hQ.mono le)) (Sh.div l X (e.hQ.mono i)) (L.hv.mono le) (e.hv.mono i) P (CX D Q gG H) O,
  ot.along ι k s m n l u (v.mono le) (o.mono i) (Sh.div m U (L.hQ.mono le)) (Sh.div l N (e.hQ.mono i)) (L.hv.mono le) (e.hv.mono i) P (CX D Q gH G) O⟩
end
section
variable {K:Type} [dH K] (ι:pD cl K) (k:cl) (s:aw->K) {t t' T T':aM}
variable {H I:Hd} {p q:Pt} {z:Rp}
def Ez(j:k≠0)(c:eJ (y6 T) T)(r:Model ι s T (y6 T))(v:eJ (y6 T') T')(l:Model ι (jB ι k s) T' (y6 T'))(f:fx (y6 T) H.o)(a:fx (y6 T') I.o)(sc:fx (y6 T) p)(b:fx (y6 T') q)(eA:I.p=H.p.sc k)(x:I.c=H.c.sc k)(i:ot ι k s T T' H.o I.o)(n:ot ι k s T T' p q)(h:H.v.sq≠0):BSc ι k s T T' (oO T p H) (oO T' q I):=by
 have ev:I.v=H.v.sc k:=by unfold Hd.v;rw[eA,x,V2.BH]
 have g:I.v.sq≠0:=by rw[ev];exact λe=>h ((V2.CQ j _).1 e)
 have S:=ot.sub ι k s sc b f a n i;exact vB.scale ι k s (m:=k) (tx ι s c r (R:=H.v) (S:=H.p) (m:=kv p H.o) (n:=H.o) (sc.sub f) f h) (tx ι _ v l (R:=I.v) (S:=I.p) (m:=kv q I.o) (n:=I.o) (b.sub a) a g) h j ev eA S.h1 S.h2 i.h1 i.h2
def ada(eA:I.p=H.p.sc k)(a:I.c=H.c.sc k)(o:ot ι k s t t' H.o I.o):YP ι k s t t' H.cr I.cr:=by
 have ev:I.v=H.v.sc k:=by unfold Hd.v;rw[eA,a,V2.BH]
 refine⟨o,?_⟩;show vl ι (jB ι k s) t' (iq I.v.sq)=ι.φ k*ι.φ k*vl ι s t (iq H.v.sq);rw[gV,gV,ev,V2.Ur,ι.mul,ι.mul,fT]
structure RpE(x x':Rp):Prop where
 ep:x'.p=x.p.sc k
 ev:x'.v=x.v.sc k
 ef:x'.f=x.f.sc k
def ahg(q:eJ (y6 t) t)(r:Model ι s t (y6 t))(b:eJ (y6 T) T)(d:Model ι s T (y6 T))(le:y6 t<=y6 T)(up:∀{a:ai cl},Sh (y6 t) a->vl ι s T a=vl ι s t a){x:Rp}(h:Zb (y6 t) x)(d0:vl ι s t (x.d t)≠0){root:ai cl}(l:Sh (y6 T) root):
  fx (y6 T) (x.z t T root)/\vl ι s T (x.z t T root).1*vl ι s t (x.d t)=vl ι s T root*vl ι s t x.mc.1-vl ι s t x.h* -vl ι s t x.mc.2/\vl ι s T (x.z t T root).2*vl ι s t (x.d t)=vl ι s T root*vl ι s t x.mc.2-vl ι s t x.h*vl ι s t x.mc.1:=by
 have S:=CT q h;have c:=S.hy.mono le;have n:Sh (y6 T) (wH x.mc.2):=c.2.neg;have f:Sh (y6 T) (mulL T x.h (wH x.mc.2)):=Sh.mul b (S.hh.mono le) n;have e:Sh (y6 T) (mulL T x.h x.mc.1):=Sh.mul b (S.hh.mono le) c.1;have i:Sh (y6 T) (mulL T root x.mc.1):=Sh.mul b l c.1;have g:Sh (y6 T) (mulL T root x.mc.2):=Sh.mul b l c.2;have p:Sh (y6 T) (x.w T root).1:=i.sub f;have o:Sh (y6 T) (x.w T root).2:=g.sub e;have m:Sh (y6 T) (x.d t):=S.hd.mono le;have j:vl ι s T (x.d t)≠0:=by rw[up S.hd];exact d0
 refine⟨⟨Sh.div b p m,Sh.div b o m⟩,?_,?_⟩
 ·have:=lD ι s b d p m j
  rw[up S.hd]at this;refine this.trans ?_;show vl ι s T (g8 (mulL T root x.mc.1) (mulL T x.h (wH x.mc.2)))=_;rw[dU ι s i f,cZ ι s b d l c.1,cZ ι s b d (S.hh.mono le) n,Hu ι s c.2,up S.hh,up S.hy.1,up S.hy.2]
 ·have:=lD ι s b d o m j
  rw[up S.hd]at this;refine this.trans ?_;show vl ι s T (g8 (mulL T root x.mc.2) (mulL T x.h x.mc.1))=_;rw[dU ι s g e,cZ ι s b d l c.2,cZ ι s b d (S.hh.mono le) c.1,up S.hh,up S.hy.1,up S.hy.2]
structure am7(t t':aM)(x x':Rp):Prop where
 hy:ot ι k s t t' x.mc x'.mc
 hd:vl ι (jB ι k s) t' (x'.d t')=ι.φ k*ι.φ k*vl ι s t (x.d t)
 hh:vl ι (jB ι k s) t' x'.h=ι.φ k*ι.φ k*vl ι s t x.h
 hr:vl ι (jB ι k s) t' (x'.r t')=ι.φ k*ι.φ k*(ι.φ k*ι.φ k)*vl ι s t (x.r t)
def ahh(f:eJ (y6 t) t)(m:Model ι s t (y6 t))(g:eJ (y6 t') t')(i:Model ι (jB ι k s) t' (y6 t')){x:Rp}(h:Zb (y6 t) x)(c:Zb (y6 t') z)(e:RpE k x z)(o:ot ι k s t t' x.o z.o)(q:ot ι k s t t' x.q z.q):am7 ι k s t t' x z:=by
 have S:=CT f h;have n:=CT g c;have d:ot ι k s t t' x.mc z.mc:=ot.sub ι k s h.q c.q h.o c.o q o;have r:vl ι s t (x.d t)=_:=tS ι s f m S.hy S.hy;have b:vl ι (jB ι k s) t' (z.d t')=_:=tS ι _ g i n.hy n.hy;rw[d.h1,d.h2]at b;have l:vl ι (jB ι k s) t' (z.d t')=ι.φ k*ι.φ k*vl ι s t (x.d t):=by
  rw[b,r];generalize ι.φ k=κ;generalize vl ι s t x.mc.1=y;generalize vl ι s t x.mc.2=x';exact rg [κ,y,x']
 have p:z.u=x.u.sc k:=by unfold Rp.u;rw[e.ep,e.ef,V2.BH]
 have j:vl ι (jB ι k s) t' z.h=ι.φ k*ι.φ k*vl ι s t x.h:=by
  show vl ι (jB ι k s) t' (iq (z.v.qw z.u))=ι.φ k*ι.φ k*vl ι s t (iq (x.v.qw x.u));rw[gV,gV,e.ev,p,V2.ZU,ι.mul,ι.mul,fT]
 refine⟨d,l,j,?_⟩;rw[Z_ ι _ g i c,Z_ ι s f m h,l,j,e.ev,V2.Ur,ι.mul,ι.mul];generalize ι.φ k=κ;generalize ι.φ x.v.sq=a;generalize vl ι s t (x.d t)=y;generalize vl ι s t x.h=x';exact rg [κ,a,y,x']
def ahp(C:k≠0)(G:eJ (y6 t) t)(H:Model ι s t (y6 t))(F:eJ (y6 T) T)(J:Model ι s T (y6 T))(le:y6 t<=y6 T)(up:∀{a:ai cl},Sh (y6 t) a->vl ι s T a=vl ι s t a)
  (I:eJ (y6 t') t') (E:Model ι (jB ι k s) t' (y6 t')) (D:eJ (y6 T') T') (v:Model ι (jB ι k s) T' (y6 T')) (L:y6 t'<=y6 T') (f:∀{a:ai cl},Sh (y6 t') a->vl ι (jB ι k s) T' a=vl ι (jB ι k s) t' a){x:Rp} (h:Zb (y6 t) x) (r:Zb (y6 t') z) (e:RpE k x z) (o:ot ι k s t t' x.o z.o) (q:ot ι k s t t' x.q z.q) (d0:vl ι s t (x.d t)≠0) (B:x.v.sq≠0) {root j:ai cl} (P:Sh (y6 T) root) (U:Sh (y6 T') j) (er:vl ι (jB ι k s) T' j=ι.φ k*ι.φ k*vl ι s T root):
  BSc ι k s T T' (x.pl t T root) (z.pl t' T' j):=by
 have R:=ahh ι k s G H I E h r e o q;have i:=xG ι C;obtain⟨M,O,N⟩:=ahg ι s G H F J le up h d0 P;obtain⟨y,n,l⟩:=ahg ι _ I E D v L f r (by rw[R.hd];exact ji (ji i i) d0) U;rw[R.hd,er,R.hh,R.hy.h1,R.hy.h2]at n l;have S:vl ι (jB ι k s) T' (z.z t' T' j).1=ι.φ k*vl ι s T (x.z t T root).1:=by
  refine QH d0 (ji i i) ?_;have:ι.φ k*vl ι s T (x.z t T root).1*vl ι s t (x.d t)*(ι.φ k*ι.φ k)=ι.φ k*(ι.φ k*ι.φ k)*(vl ι s T (x.z t T root).1*vl ι s t (x.d t)):=by generalize ι.φ k=κ;generalize vl ι s T (x.z t T root).1=a;generalize vl ι s t (x.d t)=b;exact rg [κ,a,b]
  rw[this,O,fT (vl ι s t (x.d t)),n];generalize ι.φ k=κ;generalize vl ι s T root=a;generalize vl ι s t x.mc.1=b;generalize vl ι s t x.mc.2=c;generalize vl ι s t x.h=d;exact rg [κ,a,b,c,d]
 have Q:vl ι (jB ι k s) T' (z.z t' T' j).2=ι.φ k*vl ι s T (x.z t T root).2:=by
  refine QH d0 (ji i i) ?_;have:ι.φ k*vl ι s T (x.z t T root).2*vl ι s t (x.d t)*(ι.φ k*ι.φ k)=ι.φ k*(ι.φ k*ι.φ k)*(vl ι s T (x.z t T root).2*vl ι s t (x.d t)):=by generalize ι.φ k=κ;generalize vl ι s T (x.z t T root).2=a;generalize vl ι s t (x.d t)=b;exact rg [κ,a,b]
  rw[this,N,fT (vl ι s t (x.d t)),l];generalize ι.φ k=κ;generalize vl ι s T root=a;generalize vl ι s t x.mc.1=b;generalize vl ι s t x.mc.2=c;generalize vl ι s t x.h=d;exact rg [κ,a,b,c,d]
 have A:z.v.sq≠0:=by rw[e.ev];exact λg=>B ((V2.CQ C _).1 g)
 have oT:=h.o.mono le;have x':=r.o.mono L;exact vB.scale ι k s (m:=k) (tx ι s F J (R:=x.v) (S:=x.p) (m:=x.z t T root) (n:=x.o) M oT B) (tx ι _ D v (R:=z.v) (S:=z.p) (m:=z.z t' T' j) (n:=z.o) y x' A) B C e.ev e.ep S Q (by rw[f r.o.1,up h.o.1];exact o.h1) (by rw[f r.o.2,up h.o.2];exact o.h2)
end
inductive VT{α β:Type}(R:α->β->Prop):ai α->ai β->Prop
 |nil:VT R [] []
 |cons {a:α} {b:β} {l:ai α} {m:ai β} (h:R a b) (r:VT R l m):VT R (a::l) (b::m)
structure TSc(k:cl)(t t':aM):Prop where
 len:t'.length=t.length
 md:∀(K:Type)[dH K](ι:pD cl K)(s:aw->K),Model ι s t t.length->Model ι (jB ι k s) t' t'.length
def Fv(k:cl)(t t':aM)(P a:Pt):Prop:=∀(K:Type)[dH K](ι:pD cl K)(s:aw->K),Model ι s t (y6 t)->ot ι k s t t' P a
def aek(k:cl)(t t':aM)(b a:Pl):Prop:=∀(K:Type)[dH K](ι:pD cl K)(s:aw->K),Model ι s t (y6 t)->BSc ι k s t t' b a
structure SSc(k:cl)(z z':uU):Prop where
 tw:TSc k z.T z'.T
 md:z'.mode=z.mode
 ps:VT (aek k z.T z'.T) z.ps z'.ps
def OSc(k:cl)(o c:bF (ai uU)):Prop:=(o=bk/\c=bk)\/∃b a,o=a6 b/\c=a6 a/\VT (SSc k) b a
def Ai{K:Type}[dH K](ι:pD cl K){k:cl}(a:nV k=1):dH.pos (ι.φ k):=Wr.1 (by rw[<-BG];exact a)
def GQ{k:cl}(a:nV k=1):k≠0:=λe=>by have:=HV.2 e;rw[this]at a;cases a
section
variable {k:cl} {t t':aM}
variable {H I:Hd} {p q r:Pt} {z:Rp}
def aiC(W:nV k=1)(b:j7 t)(i:j7 t')(o:TSc k t t'){A' B':Hd}(O:fx (y6 t) H.o)(R:fx (y6 t') A'.o)(N:fx (y6 t) I.o)(B:fx (y6 t') B'.o)(eA:A'.p=H.p.sc k/\A'.c=H.c.sc k)(eB:B'.p=I.p.sc k/\B'.c=I.c.sc k)(V:Fv k t t' H.o A'.o)(U:Fv k t t' I.o B'.o):OSc k (yB t H I) (yB t' A' B'):=by
 obtain⟨E,_,c,g,n⟩:=b.model (y6 t) (apc _);have l:=o.md E c g n;have p:=GQ W;have pk:=Ai c W;have ca:=DO O;have cb:=DO N;have f:=DO R;have d:=DO B;have C:=p7 b.sh ca cb;have G:=p7 i.sh f d;have J:∀(K:Type)[dH K](ι:pD cl K)(s:aw->K),Model ι s t (y6 t)->YP ι k s t t' H.cr A'.cr:=λK _ ι s m=>ada ι k s eA.1 eA.2 (V K ι s m)
 have A:∀(K:Type)[dH K](ι:pD cl K)(s:aw->K),Model ι s t (y6 t)->YP ι k s t t' I.cr B'.cr:=λK _ ι s m=>ada ι k s eB.1 eB.2 (U K ι s m)
 have q0:=NT c k g b.sh n i.sh l ca cb f d (J E c g n) (A E c g n);have L:=cQ pk pk;have e1:aL t' (cD t' A'.cr B'.cr)=aL t (cD t H.cr I.cr):=BF c g b.sh n i.sh l C.hd G.hd L q0.hd;have e2:aL t' (g8 A'.cr.r B'.cr.r)=aL t (g8 H.cr.r I.cr.r):=BF c g b.sh n i.sh l (ca.r.sub cb.r) (f.r.sub d.r) L (by
  rw[dU c _ f.r d.r,dU c g ca.r cb.r,(J E c g n).hr,(A E c g n).hr];generalize c.φ k=κ;generalize vl c g t H.cr.r=x;generalize vl c g t I.cr.r=y;exact rg [κ,x,y])
 have e3:aL t' (cX t' A'.cr B'.cr)=aL t (cX t H.cr I.cr):=BF c g b.sh n i.sh l C.hX G.hX (cQ L L) q0.hX;have evA:A'.v=H.v.sc k:=by unfold Hd.v;rw[eA.1,eA.2,V2.BH]
 have Z:B'.v=I.v.sc k:=by unfold Hd.v;rw[eB.1,eB.2,V2.BH]
 have nA:A'.v.sq=0↔H.v.sq=0:=by rw[evA];exact V2.CQ p _
 have nB:B'.v.sq=0↔I.v.sq=0:=by rw[Z];exact V2.CQ p _
 unfold yB;by_cases u:H.v.sq=0\/I.v.sq=0
 ·rw[aph u,aph (u.imp nA.2 nB.2)];exact y1 ⟨rfl,rfl⟩
 ·have Y:¬(A'.v.sq=0\/B'.v.sq=0):=λh=>u (h.imp nA.1 nB.1)
  have zA:H.v.sq≠0:=λe=>u (y1 e)
  have zB:I.v.sq≠0:=λe=>u (y2 e)
  rw[ape u,ape Y,e1,e2,e3];by_cases r:aL t (cD t H.cr I.cr)=0
  ·rw[aph r,aph r]
   by_cases q:aL t (g8 H.cr.r I.cr.r)=0
   ·rw[aph q];exact y1 ⟨rfl,rfl⟩
   ·rw[ape q];exact y2 ⟨_,_,rfl,rfl,.nil⟩
  ·rw[ape r,ape r]
   by_cases q:aL t (cX t H.cr I.cr)=1
   ·rw[aph q,aph q]
    have z:∀(K:Type)[dH K](ι:pD cl K)(s:aw->K),Model ι s (cT t H.cr I.cr) (cT t H.cr I.cr).length->Model ι (jB ι k s) (cT t' A'.cr B'.cr) (cT t' A'.cr B'.cr).length/\ot ι k s (cT t H.cr I.cr) (cT t' A'.cr B'.cr) (Za t H.cr I.cr) (Za t' A'.cr B'.cr)/\ot ι k s (cT t H.cr I.cr) (cT t' A'.cr B'.cr) (Y_ t H.cr I.cr) (Y_ t' A'.cr B'.cr):=λK _ ι s a=>by
     obtain⟨M,-⟩:=Model.base ι s a;exact Ye ι k s p o.len b.sh i.sh a (o.md K ι s M) (Ai ι W) ca cb f d (J K ι s M) (A K ι s M) (u9 ι s b.sh M C.hd r)
    have tw:TSc k (cT t H.cr I.cr) (cT t' A'.cr B'.cr):=⟨by show y6 (mK t' (cX t' A'.cr B'.cr))=y6 (mK t (cX t H.cr I.cr));rw[bW,bW,o.len],λK _ ι s a=>(z K ι s a).1⟩
    have le:y6 t<=y6 (cT t H.cr I.cr):=by show y6 t<=y6 (mK t (cX t H.cr I.cr));rw[bW];omega
    have Cq:y6 t'<=y6 (cT t' A'.cr B'.cr):=by show y6 t'<=y6 (mK t' (cX t' A'.cr B'.cr));rw[bW];omega
    have j:eJ (cT t H.cr I.cr).length (cT t H.cr I.cr):=oN b.sh _;have S:eJ (cT t' A'.cr B'.cr).length (cT t' A'.cr B'.cr):=oN i.sh _;have v:∀{t:aM}{H I:Hd}(b:eJ (y6 t) t)(j:eJ (cT t H.cr I.cr).length (cT t H.cr I.cr))(C:ah5 t H.cr I.cr)(le:y6 t<=y6 (cT t H.cr I.cr)),fx (cT t H.cr I.cr).length (Za t H.cr I.cr)/\fx (cT t H.cr I.cr).length (Y_ t H.cr I.cr):=λ{t H I} b j C le=>by
     have hR:Sh (cT t H.cr I.cr).length (cg (y6 t)):=(iO (t:=t) (cX t H.cr I.cr)).sh;have hH:Sh (cT t H.cr I.cr).length (cH t H.cr I.cr):=Sh.div j hR (C.hW.mono le);have X:Sh (cT t H.cr I.cr).length (Yo t H.cr I.cr):=Sh.mul j (Sh.l7 _ _) hH;have hN:fx (cT t H.cr I.cr).length (cN t H.cr I.cr):=⟨Sh.mul j (Sh.l7 _ _) (C.hv.mono le).2,(C.hv.mono le).1⟩;exact⟨(C.hF.mono le).along j hH hN,(C.hF.mono le).along j X hN⟩
    obtain⟨s1,s2⟩:=v b.sh j C le;obtain⟨On,YW⟩:=v i.sh S G Cq;have two:∀{P D:Pt},fx (cT t H.cr I.cr).length P->fx (cT t' A'.cr B'.cr).length D->Fv k (cT t H.cr I.cr) (cT t' A'.cr B'.cr) P D->VT (aek k (cT t H.cr I.cr) (cT t' A'.cr B'.cr)) [oO (cT t H.cr I.cr) P H,oO (cT t H.cr I.cr) P I] [oO (cT t' A'.cr B'.cr) D A',oO (cT t' A'.cr B'.cr) D B']:=λ{P D} hP w h=>
     .cons (λK _ ι s a=>Ez ι k s p j a S (z K ι s a).1 (O.mono le) (R.mono Cq) hP w eA.1 eA.2 (ot.up ι k s O R (V K ι s (Model.base ι s a).1)) (h K ι s a) zA)
      (.cons (λK _ ι s a=>Ez ι k s p j a S (z K ι s a).1 (N.mono le) (B.mono Cq) hP w eB.1 eB.2 (ot.up ι k s N B (U K ι s (Model.base ι s a).1)) (h K ι s a) zB) .nil)
    exact y2 ⟨_,_,rfl,rfl,.cons ⟨tw,rfl,two s1 On λK _ ι s a=>(z K ι s a).2.1⟩ (.cons ⟨tw,rfl,two s2 YW λK _ ι s a=>(z K ι s a).2.2⟩ .nil)⟩
   ·rw[ape q,ape q]
    by_cases Q:aL t (cX t H.cr I.cr)=0
    ·rw[aph Q,aph Q]
     have F:Fv k t t' (Eh t H.cr I.cr) (Eh t' A'.cr B'.cr):=λK _ ι s a=>L5 ι k s p b.sh a i.sh (o.md K ι s a) ca cb f d (J K ι s a) (A K ι s a) (u9 ι s b.sh a C.hd r)
     exact y2 ⟨_,_,rfl,rfl,.cons ⟨o,rfl,.cons (λK _ ι s a=>Ez ι k s p b.sh a i.sh (o.md K ι s a) O R C.hF G.hF eA.1 eA.2 (V K ι s a) (F K ι s a) zA) (.cons (λK _ ι s a=>Ez ι k s p b.sh a i.sh (o.md K ι s a) N B C.hF G.hF eB.1 eB.2 (U K ι s a) (F K ι s a) zB) .nil)⟩ .nil⟩
    ·rw[ape Q,ape Q];exact y2 ⟨_,_,rfl,rfl,.nil⟩
def alK(O:nV k=1)(d:j7 t)(f:j7 t')(l:TSc k t t'){b:Pt}(B:fx (y6 t) H.o)(E:fx (y6 t') I.o)(e:fx (y6 t) p)(A':fx (y6 t') r)(z:fx (y6 t) q)(F:fx (y6 t') b)(eA:I.p=H.p.sc k/\I.c=H.c.sc k)(N:Fv k t t' H.o I.o)(sp:Fv k t t' p r)(sq:Fv k t t' q b)(Y:aL t (lQ t p q)≠0):OSc k (MR t H p q) (MR t' I r b):=by
 obtain⟨A,_,j,o,u⟩:=d.model (y6 t) (apc _);have x:=l.md A j o u;have w:=GQ O;have V:=Ai j O;have ca:=DO B;have g:=DO E;have L:=m8 d.sh ca e z;have y:=m8 f.sh g A' F;have M:∀(K:Type)[dH K](ι:pD cl K)(s:aw->K),Model ι s t (y6 t)->YP ι k s t t' H.cr I.cr:=λK _ ι s m=>ada ι k s eA.1 eA.2 (N K ι s m)
 have q0:=Ni j k o d.sh u f.sh x ca e z g A' F (M A j o u) (sp A j o u) (sq A j o u);have W:=cQ V V;have e3:aL t' (lX t' I.cr r b)=aL t (lX t H.cr p q):=BF j o d.sh u f.sh x L.hX y.hX (cQ W W) q0.hX;have R:I.v=H.v.sc k:=by unfold Hd.v;rw[eA.1,eA.2,V2.BH]
 have nA:I.v.sq=0↔H.v.sq=0:=by rw[R];exact V2.CQ w _
 unfold MR;by_cases n:H.v.sq=0
 ·rw[aph n,aph (nA.2 n)];exact y1 ⟨rfl,rfl⟩
 ·rw[ape n,ape (λh=>n (nA.1 h)),e3]
  by_cases D:aL t (lX t H.cr p q)=1
  ·rw[aph D,aph D]
   have G:∀(K:Type)[dH K](ι:pD cl K)(s:aw->K),Model ι s (lT t H.cr p q) (lT t H.cr p q).length->_:=λK _ ι s a=>
    Xf ι k s w l.len d.sh f.sh a (l.md K ι s (Model.base ι s a).1) (Ai ι O) ca e z g A' F (M K ι s (Model.base ι s a).1) (sp K ι s (Model.base ι s a).1) (sq K ι s (Model.base ι s a).1) (u9 ι s d.sh (Model.base ι s a).1 L.hQ Y)
   have S:TSc k (lT t H.cr p q) (lT t' I.cr r b):=⟨by show y6 (mK t' (lX t' I.cr r b))=y6 (mK t (lX t H.cr p q));rw[bW,bW,l.len],λK _ ι s a=>(G K ι s a).1⟩
   have le:y6 t<=y6 (lT t H.cr p q):=by show y6 t<=y6 (mK t (lX t H.cr p q));rw[bW];omega
   have Z:y6 t'<=y6 (lT t' I.cr r b):=by show y6 t'<=y6 (mK t' (lX t' I.cr r b));rw[bW];omega
   have i:eJ (lT t H.cr p q).length (lT t H.cr p q):=oN d.sh _;have U:eJ (lT t' I.cr r b).length (lT t' I.cr r b):=oN f.sh _;have v:∀{t:aM}{H:Hd}{p q:Pt}(e:fx (y6 t) p)(i:eJ (lT t H.cr p q).length (lT t H.cr p q))(L:ah1 t H.cr p q)(le:y6 t<=y6 (lT t H.cr p q)),fx (lT t H.cr p q).length (cM (lT t H.cr p q) p (lG t H.cr p q) (lV p q))/\fx (lT t H.cr p q).length (cM (lT t H.cr p q) p (lH t H.cr p q) (lV p q)):=λ{t H p q} e i L le=>by
    have X:Sh (lT t H.cr p q).length (cg (y6 t)):=(iO (t:=t) (lX t H.cr p q)).sh;have hG:Sh (lT t H.cr p q).length (lG t H.cr p q):=Sh.div i ((L.hE.mono le).add X) (L.hQ.mono le);have hH:Sh (lT t H.cr p q).length (lH t H.cr p q):=Sh.div i ((L.hE.mono le).sub X) (L.hQ.mono le);exact⟨(e.mono le).along i hG (L.hv.mono le),(e.mono le).along i hH (L.hv.mono le)⟩
   obtain⟨s1,s2⟩:=v e i L le;obtain⟨On,YW⟩:=v A' U y Z;have one:∀{P c:Pt},fx (lT t H.cr p q).length P->fx (lT t' I.cr r b).length c->Fv k (lT t H.cr p q) (lT t' I.cr r b) P c->VT (aek k (lT t H.cr p q) (lT t' I.cr r b)) [oO (lT t H.cr p q) P H] [oO (lT t' I.cr r b) c I]:=λ{P c} hP Q h=>
    .cons (λK _ ι s a=>Ez ι k s w i a U (G K ι s a).1 (B.mono le) (E.mono Z) hP Q eA.1 eA.2 (ot.up ι k s B E (N K ι s (Model.base ι s a).1)) (h K ι s a) n) .nil
   exact y2 ⟨_,_,rfl,rfl,.cons ⟨S,rfl,one s1 On λK _ ι s a=>(G K ι s a).2.1⟩ (.cons ⟨S,rfl,one s2 YW λK _ ι s a=>(G K ι s a).2.2⟩ .nil)⟩
  ·rw[ape D,ape D]
   by_cases C:aL t (lX t H.cr p q)=0
   ·rw[aph C,aph C]
    have sF:Sh (y6 t) (lF t H.cr p q):=Sh.div d.sh L.hE L.hQ;have J:Sh (y6 t') (lF t' I.cr r b):=Sh.div f.sh y.hE y.hQ;exact y2 ⟨_,_,rfl,rfl,.cons ⟨l,rfl,.cons (λK _ ι s a=>Ez ι k s w d.sh a f.sh (l.md K ι s a) B E (e.along d.sh sF L.hv) (A'.along f.sh J y.hv) eA.1 eA.2 (N K ι s a) (Xg ι k s w d.sh a f.sh (l.md K ι s a) ca e z g A' F (M K ι s a) (sp K ι s a) (sq K ι s a) (u9 ι s d.sh a L.hQ Y)) n) .nil⟩ .nil⟩
   ·rw[ape C,ape C];exact y2 ⟨_,_,rfl,rfl,.nil⟩
def aiD(C:nV k=1)(b:j7 t)(f:j7 t')(c:TSc k t t'){x:Rp}(h:Zb (y6 t) x)(w:Zb (y6 t') z)(e:RpE k x z)(A:Fv k t t' x.o z.o)(sq:Fv k t t' x.q z.q)(J:x.v.sq≠0):OSc k (MI t x) (MI t' z):=by
 obtain⟨x',_,g,i,n⟩:=b.model (y6 t) (apc _);have l:=c.md x' g i n;have L:=GQ C;have I:=Ai g C;have S:=CT b.sh h;have F:=CT f.sh w;have R:∀(K:Type)[dH K](ι:pD cl K)(s:aw->K),Model ι s t (y6 t)->am7 ι k s t t' x z:=λK _ ι s m=>ahh ι k s b.sh m f.sh (c.md K ι s m) h w e (A K ι s m) (sq K ι s m)
 have u:=cQ I I;have W:aL t' (z.d t')=aL t (x.d t):=BF g i b.sh n f.sh l S.hd F.hd u (R x' g i n).hd;have E:aL t' z.h=aL t x.h:=BF g i b.sh n f.sh l S.hh F.hh u (R x' g i n).hh;have V:aL t' (z.r t')=aL t (x.r t):=BF g i b.sh n f.sh l S.hr F.hr (cQ u u) (R x' g i n).hr;unfold MI;rw[W,E,V];by_cases o:aL t (x.d t)=0/\aL t x.h=0
 ·rw[aph o,aph o];exact y1 ⟨rfl,rfl⟩
 ·rw[ape o,ape o]
  have d0:∀(K:Type)[dH K](ι:pD cl K)(s:aw->K),Model ι s t (y6 t)->dH.nn (vl ι s t (x.r t))->vl ι s t (x.d t)≠0:=λK _ ι s d B e=>by
   have v:=Z_ ι s b.sh d h;rw[e,bB]at v;have j:vl ι s t x.h*vl ι s t x.h=0:=Nd (rN _) (by
    have E: -(vl ι s t x.h*vl ι s t x.h)=vl ι s t (x.r t):=by
     rw[v];generalize vl ι s t x.h=y;exact rg [y]
    rw[E];exact B)
   refine o ⟨?_,?_⟩
   ·rw[ku ι s b.sh d S.hd,e,iU]
   ·rw[ku ι s b.sh d S.hh,qI j,iU]
  by_cases j:aL t (x.r t)=1
  ·rw[aph j,aph j]
   have le:y6 t<=y6 (x.T t):=by show y6 t<=y6 (mK t (x.r t));rw[bW];omega
   have Y:y6 t'<=y6 (z.T t'):=by show y6 t'<=y6 (mK t' (z.r t'));rw[bW];omega
   have U:eJ (x.T t).length (x.T t):=oN b.sh _;have Q:eJ (z.T t').length (z.T t'):=oN f.sh _;have N:∀(K:Type)[dH K](ι:pD cl K)(s:aw->K),Model ι s (x.T t) (x.T t).length->Model ι (jB ι k s) (z.T t') (z.T t').length:=λK _ ι s a=>
    Model.sc ι k s c.len a (c.md K ι s (Model.base ι s a).1) (Ai ι C) (R K ι s (Model.base ι s a).1).hr
   have H:TSc k (x.T t) (z.T t'):=⟨by show y6 (mK t' (z.r t'))=y6 (mK t (x.r t));rw[bW,bW,c.len],λK _ ι s a=>N K ι s a⟩
   have D:Sh (x.T t).length (cg (y6 t)):=(iO (t:=t) (x.r t)).sh;have G:Sh (z.T t').length (cg (y6 t')):=(iO (t:=t') (z.r t')).sh;have M:∀(K:Type)[dH K](ι:pD cl K)(s:aw->K),vl ι (jB ι k s) (z.T t') (cg (y6 t'))=ι.φ k*ι.φ k*vl ι s (x.T t) (cg (y6 t)):=λK _ ι s=>by
    have a1:vl ι s (x.T t) (cg (y6 t))=s (y6 t):=te ι s _;have X:vl ι (jB ι k s) (z.T t') (cg (y6 t'))=jB ι k s (y6 t'):=te ι _ _;rw[a1,X,c.len];unfold jB;rw[fT]
   have one:∀{r q:ai cl},Sh (x.T t).length r->Sh (z.T t').length q->(∀(K:Type)[dH K](ι:pD cl K)(s:aw->K),vl ι (jB ι k s) (z.T t') q=ι.φ k*ι.φ k*vl ι s (x.T t) r)->VT (aek k (x.T t) (z.T t')) [x.pl t (x.T t) r] [z.pl t' (z.T t') q]:=λ{r q} v O er=>
    .cons (λK _ ι s a=>by
     obtain⟨d,-⟩:=Model.base ι s a;have B:dH.nn (vl ι s t (x.r t)):=ZQ.1 (by rw[<-ku ι s b.sh d S.hr,j];decide)
     exact ahp ι k s L b.sh d U a le (λh=>iE ι s _ h) f.sh (c.md K ι s d) Q (N K ι s a) Y (λh=>iE ι _ _ h) h w e (A K ι s d) (sq K ι s d) (d0 K ι s d B) J v O (er K ι s)) .nil
   refine y2 ⟨_,_,rfl,rfl,.cons ⟨H,rfl,one D G M⟩ (.cons ⟨H,rfl,one D.neg G.neg λK _ ι s=>?_⟩ .nil)⟩
   rw[Hu ι _ G,Hu ι s D,M K ι s];generalize ι.φ k=κ;generalize vl ι s (x.T t) (cg (y6 t))=y;exact rg [κ,y]
  ·rw[ape j,ape j]
   by_cases p:aL t (x.r t)=0
   ·rw[aph p,aph p]
    refine y2 ⟨_,_,rfl,rfl,.cons ⟨c,rfl,.cons (λK _ ι s a=>?_) .nil⟩ .nil⟩
    have P:=GP ι s b.sh a S.hr p;exact ahp ι k s L b.sh a b.sh a (apc _) (λh=>rfl) f.sh (c.md K ι s a) f.sh (c.md K ι s a) (apc _) (λh=>rfl) h w e (A K ι s a) (sq K ι s a) (d0 K ι s a (by rw[P];exact UO)) J (.nil _) (.nil _) (by rw[Ht,Ht,bB])
   ·rw[ape p,ape p];exact y2 ⟨_,_,rfl,rfl,.nil⟩
end
def rO(k:cl)(m:Mk):Mk:=⟨m.nm,m.x*k,m.y*k⟩
def Gs(k:cl)(b:Bd):Bd:=⟨b.nm,b.aC.map (rO k)⟩
def d_(k:cl)(l:Lk):Lk:=⟨l.nm,l.bs.map (Gs k),l.js,l.ds⟩
def HX(k:cl)(l:Lk):(d_ k l).bs.length=y6 l.bs:=apq ..
def IB(k:cl)(l:Lk)(b i:aw):n8 (dQ (d_ k l) b i)=(n8 (dQ l b i)).sc k:=by
 have z:n8 (bc:Mk)=(n8 (bc:Mk)).sc k:=by show(⟨0,0⟩:V2)=⟨0*k,0*k⟩;rw[arZ]
 unfold dQ;have e:((d_ k l).bs.getD b bc).aC=((y7 l.bs b bc).aC.map (rO k)):=by
  show(((l.bs.map (Gs k)).getD b bc)).aC=_;rw[apf,aqz,apf];cases l.bs[b]?with
  |none=>rfl
  |some x=>rfl
 rw[e];generalize(y7 l.bs b bc).aC=c;rw[apf,aqz,apf];cases c[i]?with
 |none=>exact z
 |some x=>rfl
def afv(k:cl)(l:Lk)(g:Gp)(i b:aw):n8 (jX (d_ k l) g i b)=(n8 (jX l g i b)).sc k:=by unfold jX;show n8 (if(fc l g i).a=b then dQ (d_ k l) b (fc l g i).p else dQ (d_ k l) b (fc l g i).on)=_;split<;>exact IB k l _ _
def UQ(k:cl)(l:Lk)(s:Fn):jh (d_ k l) s=jh l s:=by
 have b:=HX k l;have f:pY (d_ k l) s=pY l s:=rfl;have d:wq (d_ k l) s=wq l s:=by unfold wq;rw[b];rfl
 have c:oz (d_ k l) s=oz l s:=by
  have e:CN (d_ k l) s=CN l s:=by unfold CN;rw[b];rfl
  unfold oz;rw[e,b];rfl
 unfold jh;rw[f,d,c]
def aj_(k:cl)(l:Lk):vU (d_ k l)=vU l:=by unfold vU A0;rw[HX];rfl
def vR.sc{k:cl}{l:Lk}{s t:Fn}(h:vR l s t):vR (d_ k l) s t:=by
 induction h with
 |stop h=>exact .stop (by rw[UQ];exact h)
 |step h r b=>exact .step (by rw[UQ];exact h) b
structure RSc(k:cl)(a a':As):Prop where
 tw:TSc k a.t a'.t
 ms:a'.ms=a.ms
 bs:∀i,aek k a.t a'.t (dt a i) (dt a' i)
def RSc.start(k:cl)(n:aw):RSc k (iT n) (iT n):=by
 refine⟨⟨rfl,λK _ ι s c=>⟨λj b=>by simp[iT]at b,λj b=>by simp[iT]at b⟩⟩,rfl,λi K _ ι s c=>?_⟩;rw[HM];have z:∀σ:aw->K,vl ι σ (iT n).t []=0:=λσ=>Ht ι σ
 split;constructor;show vl ι _ _ (iq ((1:cA):cl))=vl ι _ _ (iq ((1:cA):cl));rw[gV,gV];show vl ι _ _ []=vl ι _ _ [];rw[z,z];show vl ι _ _ []=_*vl ι _ _ [];rw[z,z,bB];show vl ι _ _ []=_*vl ι _ _ [];rw[z,z,bB];constructor;show vl ι _ _ []=vl ι _ _ [];rw[z,z];show vl ι _ _ []=vl ι _ _ [];rw[z,z];show vl ι _ _ []=_*vl ι _ _ [];rw[z,z,bB];show vl ι _ _ []=_*vl ι _ _ [];rw[z,z,bB]
variable {Y Z:Pl} {n:Type}
def BSc.upU[dH n](ι:pD cl n)(k:cl)(s:aw->n){t f T T':aM}(u:Up t T)(c:Up f T')(d:Cj (y6 t) Y)(e:Cj (y6 f) Z)(h:BSc ι k s t f Y Z):BSc ι k s T T' Y Z:=by constructor;rw[u.vl ι s d.c,c.vl ι _ e.c];exact h.hc;rw[u.vl ι s d.s,c.vl ι _ e.s];exact h.hs;rw[u.vl ι s d.x,c.vl ι _ e.x];exact h.hx;rw[u.vl ι s d.y,c.vl ι _ e.y];exact h.hy
def RSc.put{k:cl}{a a':As}{g:Gp}{z n:uU}(R:RSc k a a')(q:SSc k z n)(f:D8 a g z)(f':D8 a' g n)(u:Up a.t z.T)(M:Up a'.t n.T)(N:∀i,Cj (y6 a.t) (dt a i))(C:∀i,Cj (y6 a'.t) (dt a' i)):RSc k (a.put g z) (a'.put g n):=by
 have p:=MN f;have A:=MN f';refine⟨by rw[p.2.2.1,A.2.2.1];exact q.tw,by rw[p.2.2.2.1,A.2.2.2.1,R.ms,q.md],λi=>?_⟩
 rw[p.2.2.1,A.2.2.1];by_cases o:i∈g.bs
 ·have y:=q.ps
  rcases f with⟨b,c,t,w,D⟩|⟨b,c,d,e,t,w,D,S⟩
  ·rcases f' with⟨I,B,m,x,E⟩|⟨I,B,L,J,m,-⟩
   ·rw[t]at m o
    simp only[en,and_true]at m;subst m;rw[apg]at o;have H:a.put g z=a.BK b c z.T z.mode:=by unfold As.put;rw[t,w]
    have F:a'.put g n=a'.BK b B n.T n.mode:=by unfold As.put;rw[t,x]
    rw[H,F,Ag D,Ag E,aph o,aph o];rw[w,x]at y;cases y with
    |cons h r=>exact h
   ·rw[t]at m;simp at m
  ·rcases f' with⟨I,B,m,-⟩|⟨I,B,L,J,m,x,E,T⟩
   ·rw[t]at m;simp at m
   ·rw[t]at m o
    simp only[en,and_true]at m;obtain⟨rfl,rfl⟩:=m;have H:a.put g z=a.xC b c d e z.T z.mode:=by unfold As.put;rw[t,w]
    have F:a'.put g n=a'.xC b c L J n.T n.mode:=by unfold As.put;rw[t,x]
    rw[w,x]at y;rw[H,F,GX D S,GX E T];cases y with
    |cons P r=>
     cases r with
     |cons O r=>
      by_cases v:i=c
      ·rw[aph v,aph v];exact O
      ·rw[ape v,ape v]
       simp only[b4,bI,or_false]at o;rw[aph (o.resolve_right v),aph (o.resolve_right v)];exact P
 ·rw[p.1 i o,A.1 i o]
  exact λK _ ι s Q=>BSc.upU ι k s u M (N i) (C i) (R.bs i K ι s (u.model ι s Q))
def ZJ{l:Lk}{a:As}{g:Gp}{x:Tn}{ss:ai uU}(h:iX l a g x=a6 ss):∀z∈ss,Up a.t z.T:=by
 have r:∀{t A B ss},yB t A B=a6 ss->∀z∈ss,Up t z.T:=λ{t A B ss} h=>by
  unfold yB at h
  repeat' split at h
  all_goals first
   |cases h;done
   |(simp only[zIq]at h;subst h;intro z b;cases b;done)
   |(simp only[zIq]at h;subst h;intro z b;simp only[b4,bI,or_false]at b;first|(subst b;exact y1 rfl)|(obtain rfl|rfl:=b<;>exact y2 ⟨_,rfl⟩))
 have p:∀{t A q c ss},MR t A q c=a6 ss->∀z∈ss,Up t z.T:=λ{t A q c ss} h=>by
  unfold MR at h
  repeat' split at h
  all_goals first
   |cases h;done
   |(simp only[zIq]at h;subst h;intro z b;cases b;done)
   |(simp only[zIq]at h;subst h;intro z b;simp only[b4,bI,or_false]at b;first|(subst b;exact y1 rfl)|(obtain rfl|rfl:=b<;>exact y2 ⟨_,rfl⟩))
 have q:∀{t x ss},MI t x=a6 ss->∀z∈ss,Up t z.T:=λ{t x ss} h=>by
  unfold MI at h
  repeat' split at h
  all_goals first
   |cases h;done
   |(simp only[zIq]at h;subst h;intro z b;cases b;done)
   |(simp only[zIq]at h;subst h;intro z b;simp only[b4,bI,or_false]at b;first|(subst b;exact y1 rfl)|(obtain rfl|rfl:=b<;>exact y2 ⟨_,rfl⟩))
 unfold iX at h;split at h;simp only[Kv,zIq]at h;subst h;intro z b;rw[apg]at b;subst b;exact y1 rfl;exact r h;exact p h;exact q h;cases h
section
variable {k:cl} {l:Lk} {xs:ai Tn} {gs:ai Gp} {nn ee up:aw->aw} {rr:b5} {j:aw} {a a':As}
def aaB(f:eJ (y6 a.t) a.t)(g:eJ (y6 a'.t) a'.t)(R:RSc k a a')(e:∀i,Cj (y6 a.t) (dt a i))(c:∀i,Cj (y6 a'.t) (dt a' i))(b m:aw):Fv k a.t a'.t (kS l a b m) (kS (d_ k l) a' b m):=λK _ ι s d=>by have h:=BSc.at ι k s f d g (R.tw.md K ι s d) (e b) (c b) (R.bs b K ι s d) (n8 (dQ l b m));rw[<-IB]at h;exact h
def aaJ(e:eJ (y6 a.t) a.t)(f:eJ (y6 a'.t) a'.t)(R:RSc k a a')(d:∀i,Cj (y6 a.t) (dt a i))(c:∀i,Cj (y6 a'.t) (dt a' i))(g:Gp)(i b:aw):Fv k a.t a'.t (il l g a i b) (il (d_ k l) g a' i b):=by unfold il;show Fv k a.t a'.t _ (if(fc l g i).a=b then kS (d_ k l) a' (fc l g i).b (fc l g i).on else kS (d_ k l) a' (fc l g i).a (fc l g i).p);split<;>exact aaB e f R d c _ _
def amO(Q:nV k=1)(c:Chn gs nn ee up rr)(S:Rl l xs)(P:Path l gs)(w:Hl l xs gs nn ee j a)(w':Hl (d_ k l) xs gs nn ee j a')(H:j<y6 gs)(R:RSc k a a')(x:Tn):OSc k (iX l a (y7 gs j bc) x) (iX (d_ k l) a' (y7 gs j bc) x):=by
 have hg:=P.step j H;have hT:=w.tow c;have n:=w.ok.sh;have r:=w'.ok.sh;have L:=w.v.sh;have y:=w'.v.sh;have un:=w.v.un;have pc:=afv k l;have D:=aaJ (l:=l) n r R L y;have pp:=aaB (l:=l) n r R L y;have s1:∀g i b,fx (y6 a.t) (il l g a i b):=λg i b=>Pe n w.v
 have s2:∀g i b,fx (y6 a'.t) (il (d_ k l) g a' i b):=λg i b=>Pe r w'.v
 have N:∀b m,fx (y6 a.t) (kS l a b m):=λb m=>JK n (L b) _ _
 have M:∀b m,fx (y6 a'.t) (kS (d_ k l) a' b m):=λb m=>JK r (y b) _ _
 generalize y7 gs j bc=g at hg⊢;cases hg with
 |sO d body o8 hd V kb hp=>
  generalize t:(⟨0,[body],[o8],d⟩:Gp)=g;have C:iX l a g x=a6 [⟨a.t,[E9 l a g body x.cos x.sin],1⟩]:=by rw[<-t];rfl
  have z:iX (d_ k l) a' g x=a6 [⟨a'.t,[E9 (d_ k l) a' g body x.cos x.sin],1⟩]:=by rw[<-t];rfl
  refine y2 ⟨_,_,C,z,.cons ⟨R.tw,rfl,.cons (λK _ ι s I=>?_) .nil⟩ .nil⟩
  have u1:V2.sq ⟨((1:cA):cl),0⟩=1:=z2
  have J:V2.sq ⟨((1:cA):cl),0⟩≠0:=by rw[u1];decide
  have b1:=tx ι s n I (R:=⟨((1:cA):cl),0⟩) (S:=n8 (jX l g 0 body)) (m:=yC x.cos x.sin) (n:=il l g a 0 body) (fx.of _ _ _) (s1 _ _ _) J;have b2:=tx ι _ r (R.tw.md K ι s I) (R:=⟨((1:cA):cl),0⟩) (S:=n8 (jX (d_ k l) g 0 body)) (m:=yC x.cos x.sin) (n:=il (d_ k l) g a' 0 body) (fx.of _ _ _) (s2 _ _ _) J;have v1:∀q:cl,vl ι (jB ι k s) a'.t (iq q)=ι.φ 1*vl ι s a.t (iq q):=λq=>by rw[gV,gV,ι.one,yY]
  exact vB.scale ι k s (m:=1) b1 b2 J zv (by show(⟨((1:cA):cl),0⟩:V2)=⟨((1:cA):cl)*1,0*1⟩;rw[asI,asI]) (pc _ _ _) (v1 _) (v1 _) (D g 0 body K ι s I).h1 (D g 0 body K ι s I).h2
 |pair i i2 T f jc pC hj fi fj ha V hc kc oc=>
  generalize t:(⟨1,[i,i2],[T,f,jc],0⟩:Gp)=g;have C:iX l a g x=yB a.t (AX l g a 0 i) (AX l g a 1 i2):=by rw[<-t];rfl
  have z:iX (d_ k l) a' g x=yB a'.t (AX (d_ k l) g a' 0 i) (AX (d_ k l) g a' 1 i2):=by rw[<-t];rfl
  rw[C,z];exact aiC Q w.ok w'.ok R.tw (H:=AX l g a 0 i) (I:=AX l g a 1 i2) (A':=AX (d_ k l) g a' 0 i) (B':=AX (d_ k l) g a' 1 i2) (s1 _ _ _) (s2 _ _ _) (s1 _ _ _) (s2 _ _ _) ⟨pc _ _ _,pc _ _ _⟩ ⟨pc _ _ _,pc _ _ _⟩ (D _ _ _) (D _ _ _)
 |single i T f hi fi ha V=>
  have ki:=fQ fi;have Z:∀{o:aw},(Gn l gs j).known.getD o aj=bj->o≠i:=λH e=>by rw[e,ki]at H;cases H
  obtain⟨TD,F,p,hp,X⟩:=V;have Y:=mZ hp (Z X);obtain⟨q1,q2,q3,q4,O⟩:=S.ok.at TD;have O:=O F;have jm:=aA TD (bc:Jt);have W:=S.ok.ne _ jm F;generalize t:(⟨eO l i f,[i],[T,f],0⟩:Gp)=g;by_cases v:(y7 l.js f bc).a=i
  ·have E:eO l i f=2:=by unfold eO;rw[aph v]
   have U:(y7 l.js f bc).b=p:=(Y.resolve_right λh=>(Z X) (h.1.symm.trans v)).2
   have un:JO a.t (dt a (y7 l.js f bc).b):=by rw[U];exact un _ X
   have ll:=IM hT S.sz w.pl q4 O un W;have C:iX l a g x=MR a.t (Ku l a (i:=i) g (y7 l.js f bc)) (kS l a (y7 l.js f bc).b (y7 l.js f bc).on) (kS l a (y7 l.js f bc).b (y7 l.js f bc).to):=by rw[<-t,E];rfl
   have z:iX (d_ k l) a' g x=MR a'.t (Ku (d_ k l) a' (i:=i) g (y7 l.js f bc)) (kS (d_ k l) a' (y7 l.js f bc).b (y7 l.js f bc).on) (kS (d_ k l) a' (y7 l.js f bc).b (y7 l.js f bc).to):=by rw[<-t,E];rfl
   rw[C,z];exact alK Q w.ok w'.ok R.tw (H:=Ku l a (i:=i) g (y7 l.js f bc)) (I:=Ku (d_ k l) a' (i:=i) g (y7 l.js f bc)) (s1 _ _ _) (s2 _ _ _) (N _ _) (M _ _) (N _ _) (M _ _) ⟨pc _ _ _,IB k l _ _⟩ (D _ _ _) (pp _ _) (pp _ _) (λe0=>api (ll.symm.trans e0) zv)
  ·have E:eO l i f=3:=by unfold eO;rw[ape v]
   have hw:=Y.resolve_left λh=>v h.1
   have C:iX l a g x=MI a.t (H0 l g a i (y7 l.js f bc)):=by rw[<-t,E];rfl
   have z:iX (d_ k l) a' g x=MI a'.t (H0 (d_ k l) g a' i (y7 l.js f bc)):=by rw[<-t,E];rfl
   rw[hw.2]at W;have nz:(H0 l g a i (y7 l.js f bc)).v.sq≠0:=V2.RD W;rw[C,z];refine aiD Q w.ok w'.ok R.tw (x:=H0 l g a i (y7 l.js f bc)) (z:=H0 (d_ k l) g a' i (y7 l.js f bc)) ⟨s1 _ _ _,N _ _⟩ ⟨s2 _ _ _,M _ _⟩ ⟨pc _ _ _,?_,IB k l _ _⟩ (D _ _ _) (pp _ _) nz;show(n8 (dQ (d_ k l) i (y7 l.js f bc).to)).sub (n8 (dQ (d_ k l) i (y7 l.js f bc).on))=_;rw[IB,IB,V2.BH];rfl
variable {v:Type}
def VT.mem{R:n->v->Prop}{l:ai n}{m:ai v}(h:VT R l m):VT (λa b=>a∈l/\b∈m/\R a b) l m:=by
 have key:∀{l:ai n}{m:ai v},VT R l m->∀(L:ai n)(M:ai v),(∀a∈l,a∈L)->(∀b∈m,b∈M)->VT (λa b=>a∈L/\b∈M/\R a b) l m:=λ{l m} h=>by
  induction h with
  |nil=>intro L M _ _;exact .nil
  |cons h r e=>
   intro L M d c;exact .cons ⟨d _ (apw ..),c _ (apw ..),h⟩ (e L M (λa g=>d a (apX _ g)) (λb f=>c b (apX _ f)))
 exact key h l m (λ_ h=>h) (λ_ h=>h)
def Q8(r r':ai As×b5):Prop:=r'.2=r.2/\r'.1.map As.ms=r.1.map As.ms
def Zk{f f':As->ai As->ai As×b5}{a a':As}{g:Gp}{R:uU->uU->Prop}{ss d:ai uU}(h:VT R ss d)(v:∀s s',R s s'->∀o c:ai As,c.map As.ms=o.map As.ms->Q8 (f (a.put g s) o) (f' (a'.put g s') c)):∀o c:ai As,c.map As.ms=o.map As.ms->Q8 (qv f a g ss o) (qv f' a' g d c):=by
 induction h with
 |nil=>intro o c p;exact⟨rfl,p⟩
 |cons h r u=>
  rename_i s s' ss d;intro o c p;have q:=v s s' h o c p;simp only[qv];cases e:f (a.put g s) o with
  |mk o1 b=>
   cases w:f' (a'.put g s') c with
   |mk i t=>
    rw[e,w]at q;obtain⟨n,m⟩:=q;have n:t=b:=n;have m:i.map As.ms=o1.map As.ms:=m;subst n;cases t with
    |true=>exact u o1 i m
    |false=>exact⟨rfl,m⟩
def T1(t:aa G)(x:nV k=1)(c:Chn gs nn ee up rr)(S:Rl l xs)(S':Rl (d_ k l) xs)(P:Path l gs)(A:Path (d_ k l) gs)(B:xf G 47 [lM l] (.aP [aQ kg gs,xc]))(h:xf G 47 [lM (d_ k l)] (.aP [aQ kg gs,xc]))(ck:xf G 37 [lM l] xc)(g:xf G 37 [lM (d_ k l)] xc):
  ∀(n j:aw)(a a':As),Hl l xs gs nn ee j a->Hl (d_ k l) xs gs nn ee j a'->RSc k a a'->y6 gs-j=n->∀o b:ai As,b.map As.ms=o.map As.ms->Q8 (pG l xs (gs.drop j) a o) (pG (d_ k l) xs (gs.drop j) a' b)
 |0,j,a,a',w,w',R,F,o,b,d=>by
  have:=w.hk;obtain rfl:j=y6 gs:=za
  rw[ar1];refine⟨rfl,?_⟩;show(b++[a']).map As.ms=(o++[a]).map As.ms;rw[aqp,aqp,d];show _++[a'.ms]=_++[a.ms];rw[R.ms]
 |n+1,j,a,a',w,w',R,F,o,b,d=>by
  have i:j<y6 gs:=za
  have K:gs.drop j=y7 gs j bc::gs.drop (j+1):=AI i bc;have q:=amO x c S P w w' i R (rM xs (y7 gs j bc));have v:=(w.solve t c S P B ck i).2;have m:=(w'.solve t c S' A h g i).2;rw[K];simp only[pG];rcases q with⟨f,e⟩|⟨C,r,f,e,D⟩
  rw[f,e];exact⟨rfl,d⟩;have up:=ZJ f;have p:=ZJ e;have v:=v C f;have m:=m r e;rw[f,e];refine Zk D.mem (λs u E o b d=>?_) o b d;obtain⟨z,y,H⟩:=E;obtain⟨f1,f2⟩:=v s z;obtain⟨J,I⟩:=m u y;exact T1 t x c S S' P A B h ck g n (j+1) _ _ f2 I (R.put H f1 J (up s z) (p u y) w.v.sh w'.v.sh) za o b d
def akG(f:aa G)(e:nV k=1)(c:Chn gs nn ee up rr)(S:Rl l xs)(S':Rl (d_ k l) xs)(P:Path l gs)(g:Path (d_ k l) gs)(i:xf G 47 [lM l] (.aP [aQ kg gs,xc]))(d:xf G 47 [lM (d_ k l)] (.aP [aQ kg gs,xc]))(ck:xf G 37 [lM l] xc)(b:xf G 37 [lM (d_ k l)] xc):
  Q8 (YA l xs gs) (YA (d_ k l) xs gs):=by
 have h:=T1 f e c S S' P g i d ck b (y6 gs-0) 0 (iT (y6 l.bs)) (iT (d_ k l).bs.length) (Hl.start (gs:=gs) c S) (Hl.start (gs:=gs) c S') (by rw[HX];exact RSc.start k _) rfl [] [] rfl;rw[aqD]at h;exact h
end
def Er(k:cl)(m:Cm):Cm:=⟨m.nm,gM (m.x.q*k),gM (m.y.q*k)⟩
def Gq(k:cl)(b:xd):xd:=⟨b.nm,b.aC.map (Er k)⟩
def Ep(k:cl)(l:pB):pB:=⟨l.nm,l.bs.map (Gq k),l.js,l.ds⟩
variable {m:aw->aw}
def AG(h:∀i<b,m i=0):jY m b=0:=by
 rcases dg m b with⟨a,-⟩|⟨i,a,f,-⟩
 exact a;exact api (h i a) f
def agv{a b:cl}(h:a≠b):(wW a b==0)=aj:=by unfold wW;by_cases c:a<b;rw[aph c];rfl;rw[ape c];by_cases d:b<a;rw[aph d];rfl;exact api (Rat.le_antisymm (Rat.not_lt.1 d) (Rat.not_lt.1 c)) h
section
variable {k:cl} {l:pB}
variable {Q:ai xd} {R:ai Cm} {y:Q_}
def ME(h:b<y6 Q):(Q.map (Gq k)).getD b bc=Gq k (y7 Q b bc):=rU (Gq k) h bc bc
def MD(h:b<y6 R):(R.map (Er k)).getD b bc=Er k (y7 R b bc):=rU (Er k) h bc bc
def aiK(c:b<y6 R)(h:R_ R b=0):R_ (R.map (Er k)) b=0:=by
 have n:(R.map (Er k)).map (·.nm)=R.map (·.nm):=by rw[aqG];rfl
 have v1:(Er k (y7 R b bc)).x.valid=bj:=vd _;have v2:(Er k (y7 R b bc)).y.valid=bj:=vd _;unfold R_ at h⊢;rw[MD c,n,v1,v2];split at h
 ·cases h
 ·split at h
  ·cases h
  ·rename_i a i
   rw[ape (by exact a),ape i,ape zb]
def akA(d:b<y6 Q)(h:Yu Q b=0):Yu (Q.map (Gq k)) b=0:=by
 obtain⟨-,-,g,f⟩:=TH d h;have n:(Q.map (Gq k)).map xd.nm=Q.map xd.nm:=by rw[aqG];rfl
 have e:R8 (Gq k (y7 Q b bc)).aC=0:=by
  have le:(Gq k (y7 Q b bc)).aC.length=(y7 Q b bc).aC.length:=apq ..;unfold R8;rw[le,ape za]
  exact AG λj c=>aiK c (f j c)
 unfold Yu at h⊢;rw[ME d,n,e];split at h
 ·cases h
 ·split at h
  ·cases h
  ·rename_i a i
   rw[ape (by exact a),ape i]
def ZX(c:k≠0){p q:Cm}(h:Ba p q=aj):Ba (Er k p) (Er k q)=aj:=by
 unfold Ba at h⊢;show((wW (gM (p.x.q*k)).q (gM (q.x.q*k)).q==0)&&(wW (gM (p.y.q*k)).q (gM (q.y.q*k)).q==0))=aj;rw[ti,ti,ti,ti];have inj:∀{a b:cl},a*k=b*k->a=b:=λ{a b} e=>by have:=aql (·*k⁻¹) e;simp only[Rat.mul_assoc,Rat.mul_inv_cancel k c,Rat.mul_one]at this;exact this
 have one:∀a b:cl,(wW a b==0)=aj->(wW (a*k) (b*k)==0)=aj:=λa b h=>agv λe=>by rw[inj e]at h;unfold wW at h;rw[ape ar7,ape ar7]at h;cases h
 rw[asn]at h⊢;exact h.imp (one _ _) (one _ _)
def O'{x:cA}(h:vi x (y6 l.bs)=bj):nZ (Ep k l) x=(nZ l x).map (Er k):=by unfold nZ;show((l.bs.map (Gq k)).getD x.toNat bc).aC=_;rw[ME (mq h).2];rfl
def ajI(e:k≠0)(h:jtF l y=0):jtF (Ep k l) y=0:=by
 obtain⟨d,b,a,ne,f,go⟩:=abR h;have g:(Ep k l).bs.length=y6 l.bs:=apq ..;have ne':¬(y.a==y.b)=bj:=by rw[ne];simp
 unfold jtF;rw[g,O' b,O' a,apq,apq,b,a,f,go];rcases d with⟨k1,k2⟩|⟨k1,k2,k3⟩
 ·rw[k1,k2,ape zb,ape zb,ape ne',ape zb,aph (by rfl),ape zb]
 ·have c:=ZX e k3
  rw[k1,k2,ape zb,ape zb,ape ne',ape zb,ape zv,ape zb,MD (mq go).2,MD (mq k2).2,c,ape zb]
def ajC(g:k≠0)(h:PM l=0):PM (Ep k l)=0:=by
 obtain⟨t,s,r,q,p,o,n,m⟩:=EO h;have e:(Ep k l).bs.length=y6 l.bs:=apq ..;have u:Kz (Ep k l).bs=0:=by unfold Kz;rw[e];exact AG λi d=>akA d (jr q i d)
 have j:jY (P3 (Ep k l)) (Ep k l).js.length=0:=AG λi d=>by have c:=jr o i d;unfold P3 at c⊢;split at c;cases c;split at c;cases c;rename_i a b;rw[ape (by exact a),ape (by exact b)];exact ajI g c
 have d0:jY (Rf (Ep k l)) (Ep k l).ds.length=0:=AG λi d=>by have f:=jr m i d;unfold Rf at f⊢;rw[e];exact f
 unfold PM;rw[u,j,d0,e];show(if n7 l.nm=aj then 5 else if y6 l.bs=0 then 10 else if 8<y6 l.bs then 4 else if(0:aw)≠0 then 0 else if 16<y6 l.js then 4 else if(0:aw)≠0 then 0 else if 2<y6 l.ds then 4 else 0)=0;rw[t,ape zb,ape s,ape r,ape zb,ape p,ape zb,ape n]
def Mv:jA (Ep k l)=d_ k (jA l):=by
 unfold jA d_;congr 1;show(l.bs.map (Gq k)).map J6=(l.bs.map J6).map (Gs k);rw[aqG,aqG];refine apz λb _=>?_
 show Bd.mk b.nm ((b.aC.map (Er k)).map HA)=Bd.mk b.nm ((b.aC.map HA).map (rO k));rw[aqG,aqG];congr 1;refine apz λm _=>?_
 show Mk.mk m.nm (gM (m.x.q*k)).q (gM (m.y.q*k)).q=Mk.mk m.nm (m.x.q*k) (m.y.q*k);rw[ti,ti]
end
def gY.anH{q:cl}(h:gY 1 q):iC 32 q:=by
 have w:∀{n:aw},y6 (words n)<=1->n<=2^32:=λ{n} h=>by
  have a:=mE (aU n);rw[aK]at a;have c:BP (words n).length<=BP 1:=ny h;have b:BP 1<=2^32:=z2
  omega
 exact⟨w h.1,w h.2.1⟩
def HR{k:aw}(c:e.ok k)(d:e.valid=bj)(f:mo e=aj):iC 32 e.q:=by
 have f:¬2<y6 e.n+y6 e.d:=by simpa [mo]using f
 have h:e.ok 1:=by by_cases r:e.n=[]/\e.d=[];refine⟨c.1,c.2.1,?_,?_,by omega⟩;rw[r.1];exact apJ _;rw[r.2];exact apJ _;unfold Raw.valid at d;rw[ape r]at d;have g:=hJ d;have a:0<y6 e.n:=aqd.2 g.1;have b:0<y6 e.d:=aqd.2 g.2.1;exact⟨c.1,c.2.1,by omega,by omega,by omega⟩
 exact gY.anH h.sz
def ae8{k:cl}{l:pB}(ok:l.Ok)(h:∀b∈l.bs,∀m∈b.aC,iC 64 (m.x.q*k)/\iC 64 (m.y.q*k)):(Ep k l).Ok:=by
 obtain⟨o1,o2,o3,u⟩:=ok;refine⟨o1,λb w=>?_,o3,u⟩;obtain⟨c,o,rfl⟩:=apN.1 w;obtain⟨t,s⟩:=o2 c o;refine⟨t,λm v=>?_⟩;obtain⟨n,i,rfl⟩:=apN.1 v;obtain⟨r,p⟩:=h c o n i;have d:∀{n:aw},n<=2^64->y6 (words n)<=3:=λ{n} h=>by
  obtain j|j:=apy 3 (words n).length
  have e:y6 (words (2^64))=3:=z2
  have:=xg (a:=2^64) (e:=n) za;omega;exact j
 have f:∀{q:cl},iC 64 q->∃k,(gM q).ok k/\2*k<KB:=λ{q} g=>⟨3,gY.ok ⟨d g.1,d g.2,by omega⟩,by have:=pn;omega⟩
 exact⟨(s n i).1,f r,f p⟩
def TM.scd{l:pB}{k:cl}(ok:l.Ok)(z:∀x∈M,x.Ok)(h:TM l M)(v:k≠0)(q:iC 32 k):Smd G (d_ k (jA l)) (M.map Em):=by
 have D:=(h.smd a ok z).1;have pv:=wi h.ck;have sz:∀b∈l.bs,∀m∈b.aC,iC 64 (m.x.q*k)/\iC 64 (m.y.q*k):=λb n m j=>by obtain⟨v1,v2⟩:=(pv b n).2 m j;obtain⟨s1,s2⟩:=h.sh b n m j;have o:=(ok.bs b n).aC m j;obtain⟨r,a1,-⟩:=o.x;obtain⟨c,y,-⟩:=o.y;exact⟨(HR a1 v1 s1).mul q,(HR y v2 s2).mul q⟩
 have d:=ajC (l:=l) v h.ck;have ck:=PF a (ae8 ok sz) d;rw[SL d,Mv]at ck;have lo:=abF d;have p:=ahx d;rw[Mv]at lo p;have S:=D.S;refine⟨⟨lo,λb i w=>?_,by rw[HX];exact S.b6,S.j8,S.d2,p,S.len,S.tr⟩,ck,D.ht⟩;obtain⟨g,f⟩:=w;have u:(d_ k (jA l)).bs.length=y6 l.bs:=(HX k (jA l)).trans (apq ..);rw[u]at g;have e:(d_ k (jA l)).bs.getD b bc=Gs k (J6 (y7 l.bs b bc)):=by
  rw[<-Mv,VH (l:=Ep k l) (by show b<y6 (l.bs.map (Gq k));rw[apq];exact g)];show J6 ((l.bs.map (Gq k)).getD b bc)=_;rw[ME g];show Bd.mk _ (((y7 l.bs b bc).aC.map (Er k)).map HA)=Bd.mk _ (((y7 l.bs b bc).aC.map HA).map (rO k));rw[aqG,aqG];congr 1;refine apz λm _=>?_
  show Mk.mk m.nm (gM (m.x.q*k)).q (gM (m.y.q*k)).q=Mk.mk m.nm (m.x.q*k) (m.y.q*k);rw[ti,ti]
 rw[e]at f;have f:i<(y7 l.bs b bc).aC.length:=by
  have:i<y6 (((y7 l.bs b bc).aC.map HA).map (rO k)):=f
  rwa [apq,apq]at this
 rw[IB,UT g f];obtain⟨t,s⟩:=sz _ (aA g (bc:xd)) _ (aA f (bc:Cm));exact⟨t,s⟩
end Tw
end Lw

namespace Lw
namespace Tw
open Go Go.RowKit Go.Proofs
open fb
variable {G:bn->Prop}
variable (a:aa G)
def UM:xf G 15 [xc] (nat 0):=Spec.r a func15 [] []
def ahq:xf G 15 [lY 7] (nat 7):=Spec.r a func15 [] []
def abd:xf G 15 [lY 15] (nat 15):=Spec.r a func15 [] []
def agQ(a:aa G){r:Raw}{m:aw}(f:r.ok m)(g:m<=KB)(i:y6 r.n+y6 r.d<=1000000000000):∃z,xf G 13 [yI 1 aj (qO r)] (bool z)/\(z=bj->r.valid=bj/\mo r=aj/\nV r.q=1):=by
 have v:=lK a f g;have b:=ahw a i;have sg:=z4 a (Raw.ok.uV f) g;by_cases d:r.valid=bj
 case neg=>
  rw[nv]at d;rw[d]at v;exact⟨aj,Spec.r a func13 [] [z3 v],λh=>by cases h⟩
 rw[d]at v;by_cases e:mo r=bj;rw[e]at b;exact⟨aj,Spec.r a func13 [] [z3 v,z3 b],λh=>by cases h⟩;rw[nv]at e;rw[e]at b;rcases(by have:=MC r.q;omega:nV r.q= -1\/nV r.q=0\/nV r.q=1)with c|c|c
 rw[c]at sg;exact⟨aj,Spec.r a func13 [] [z3 v,z3 b,z3 sg],λh=>by cases h⟩;rw[c]at sg;exact⟨aj,Spec.r a func13 [] [z3 v,z3 b,z3 sg],λh=>by cases h⟩;rw[c]at sg;exact⟨bj,Spec.r a func13 [] [z3 v,z3 b,z3 sg],λ_=>⟨d,e,c⟩⟩
section
variable {l:Lk} {xs:ai Tn} {k:cl}
def adT(b:aa G)(h:Smd G l xs)(d:Smd G (d_ k l) xs)(m:nV k=1):
  (xf G 9 [lM l,aQ Y9 xs] (.aP [yI 0 aj [],lY 7])/\xf G 9 [lM (d_ k l),aQ Y9 xs] (.aP [yI 0 aj [],lY 7]))\/
  ∃r r',xf G 9 [lM l,aQ Y9 xs] (adW r)/\xf G 9 [lM (d_ k l),aQ Y9 xs] (adW r')/\Q8 r r'/\y6 r.1<=100/\∀x∈r.1,y6 x.ms<=1000000:=by
 obtain⟨t,o,ok,P,e,sp⟩:=h.split b;have j:vR (d_ k l) (vU (d_ k l)) t:=by rw[aj_];exact o.sc
 obtain⟨i,p⟩:=j.path;have f:qt (d_ k l) t:=by rw[p];exact yM (d_ k l) t.gs _ (apc _)
 have a:=Uj b d.S.ok d.ck j f;unfold aeR at sp a;split at sp
 ·rename_i g
  rw[aph g]at a;exact y1 ⟨adU b (by rw[h.S.len];exact h.S.d2) sp,adU b (by rw[h.S.len];exact h.S.d2) a⟩
 ·rename_i g
  rw[ape g]at a;obtain⟨nn,y,up,v,c⟩:=adt h.S.ok P h.S.j8 h.S.d2;obtain⟨a1,u,s⟩:=Ma b c h.S P h.ht sp h.ck;obtain⟨q,-,-⟩:=Ma b c d.S i d.ht a d.ck;have w:=(P.counts h.S.ok).2.2;have z:=h.S.b6;refine y2 ⟨_,_,a1,q,akG b m c h.S d.S P i sp a h.ck d.ck,u,λx n=>?_⟩
  rw[(s.q x n).ms];omega
def wsI(o a:ai As)(i:aw):St:=lay 79 [(9,aQ Bm o),(11,aQ Bm a),(13,nat i)] []
variable {b:aw}
def Zf(f:aa G){o a:ai As}(d:b<y6 o)(e:b<y6 a)(r:y6 o<=1000)(n:(y7 o b ⟨[],[],[]⟩).ms.length<=1000000)(eq:(y7 o b ⟨[],[],[]⟩).ms=(y7 a b ⟨[],[],[]⟩).ms):xo G (ae Tryz.f4 0) (wsI o a b) y3 (wsI o a (b+1)):=by have h:=ay vu za d;have m:=bA vu d 2 za;have q:=j5 vu d ⟨[],[],[]⟩ 2 za;have g:=ay vu za e;have j:=bA vu e 2 za;have p:=j5 vu e ⟨[],[],[]⟩ 2 za;have c:=ajM f (b:=(y7 a b ⟨[],[],[]⟩).ms) n;rw[apE eq]at c;generalize y7 o b ⟨[],[],[]⟩=x at*;generalize y7 a b ⟨[],[],[]⟩=y at*;exact af.r f [.eb 64 (ah d),.er 68 (nat b),yu h,yu m,.eq 71 q,.er 73 (nat b),yu g,yu j,.eq 76 p,z3 c,.eq 66 (bL (ax d za))]
end
variable {b:aw} {e:Raw}
def ZS(c:aa G)(m:xf G 7 [] (bool bj)){l:pB}{xs:ai zZ}(ok:l.Ok)(A:∀x∈xs,x.Ok)(K:∀d∈l.bs,∀b∈d.aC,w9 b.x/\w9 b.y)(rx:∀x∈xs,w9 x.t)(C:e.ok b)(O:b<=KB)(P:w9 e)
  (h:TM l xs->Smd G (jA l) (xs.map Em)->iC 32 e.q->Smd G (d_ e.q (jA l)) (xs.map Em)->nV e.q=1->xf G 14 [lM (jA l),F e.q] (.aP [lM (d_ e.q (jA l)),xc])):
  xf G 4 [Co l,aQ oU xs,e.Cd] (bool bj):=by
 obtain⟨z,f,w⟩:=aeW c ok A K rx;cases z with
 |false=>exact Spec.r c func4 [3,5] [z3 m,z3 f,z3 m]
 |true=>
  obtain⟨J,p,u⟩:=agQ c C O P;cases J with
  |false=>exact Spec.r c func4 [3,5] [z3 m,z3 f,z3 p,z3 m]
  |true=>
   obtain⟨v,s,t⟩:=u rfl;have B:=HR C v s;obtain⟨D,V,U⟩:=(w rfl).smd c ok A;have I:=(w rfl).scd c ok A (GQ t) B;have T:e.Cd=F e.q:=aql Lw.D.agg (H' v);have S:qO e=cF e.q:=H' v;have sc:=h (w rfl) D B I t;clear h;rw[V,U]at f⊢;rw[T];rw[S]at p;generalize jA l=l at*;generalize xs.map Em=xs at*;generalize e.q=k at*;rcases adT c D I t with⟨a,q⟩|⟨r,L,a,q,R,Q,H⟩
   ·exact Spec.r c func4 [3,5] [z3 m,z3 f,z3 p,z3 sc,z3 a,z3 q,z3 (ahq c),z3 (ahq c)]
   ·obtain⟨o,d⟩:=r
    obtain⟨g,W⟩:=L;obtain⟨E,y⟩:=R;simp only at E y Q H;subst E;cases W with
    |false=>exact Spec.r c func4 [3,5] [z3 m,z3 f,z3 p,z3 sc,z3 a,z3 q,z3 (abd c),z3 (abd c)]
    |true=>
     have N:y6 g=y6 o:=by have:=aql List.length y;rwa [apq,apq]at this
     have eq:∀i<y6 o,(y7 o i ⟨[],[],[]⟩).ms=(y7 g i ⟨[],[],[]⟩).ms:=λi n=>by
      have:=aql (λl:ai (ai cA)=>y7 l i []) y
      simp only[bP,qW,py n,py (by omega:i<y6 g)]at this⊢
      exact this.symm
     have M:=aI.z zZq G (ae Tryz.f4 0) (y5 0) (lay 79 [] []) (λi=>wsI o g i) (y6 o) (λi n=>Zf c n za za (H _ (aA n _)) (eq i n))
      (af.r c [.eb 64 (av (apc (y6 o)))])
     exact Spec.r c func4 [3,5] [z3 m,z3 f,z3 p,z3 sc,z3 a,z3 q,z3 (UM c),z3 (UM c),.eb 59 (NJ (i:=y6 o) (j:=y6 g) N.symm),.code M]
end Tw
open Go Go.RowKit
variable {P:cp} {Good:bn->Prop}
def D.sized:D->b5
 |.bG _ _ size=>decide (0<size)
 |_=>bj
variable {S X:b3} {b:aw} {f:aw->b5} {g:D->b3} {i:D} {m:aw->aw}
def aX.one{w:bn}{d:aw->Prop}(h:aX m w d S i)(c:aX m w d X i)(β:i.ref=a6 b)(hs:i.sized=bj):S=X:=by
 cases h with
 |p h=>rw[fC h]at β;cases β
 |ptr b off=>
  cases c with
  |p h=>cases fC h
  |ptr=>rfl
 |aY b off len cap l k=>
  cases c with
  |p h=>cases fC h
  |aY=>rfl
 |bG b n size cap e l k j=>
  have hs:0<size:=hJ hs;generalize a:D.bG b n size=i at c;cases c with
  |p h=>subst a;cases fC h
  |ptr=>cases a
  |aY=>cases a
  |bG s q v o r u t f=>
   cases a;rw[j]at f;simp only[eE,gu]at f;have:=Nat.eq_of_mul_eq_mul_right hs f.2;rw[this]
def gK(bC:aw->b5)(lit:D->b3)(d:D):D:=match d.ref with
 |some b=>if bC b then yT (lit d)else d
 |none=>d
def yD(bC:aw->b5)(lit:D->b3):D->D
 |y4 xs=>y4 (xs.map (gK bC lit))
 |.aP xs=>.aP (xs.map (gK bC lit))
 |d=>gK bC lit d
def as0.B5(bC:aw->b5)(lit:D->b3)(s:as0)(ns:aw->b5):as0:=
 ⟨λt=>yD bC lit (s.tmp t),λb=>if bC b then bk else(s.blk b).map (·.map (gK bC lit)),ns⟩
def I3(h:(gK f g i).ref=a6 b):i.ref=a6 b/\f b=aj/\gK f g i=i:=by unfold gK at h⊢;split at h;rename_i e a;split at h;cases h;rename_i c;rw[a]at h;cases h;simp only[ks c];exact⟨a,by simpa using c,trivial⟩;rename_i a;rw[a]at h;cases h
def rV(h:i.ref=a6 b)(a:f b=bj):gK f g i=yT (g i):=by unfold gK;rw[h];simp only[a,gn]
def gF(h:∀b,i.ref=a6 b->f b=aj):gK f g i=i:=by unfold gK;split;rename_i b a;rw[h b a];rfl;rfl
def D.parts:D->ai D
 |y4 xs=>xs
 |.aP xs=>xs
 |d=>[d]
def as0.holds(bC:aw->b5)(s:as0)(d:D):Prop:=(∃t,d∈(s.tmp t).parts)\/∃b cs,bC b=aj/\s.blk b=a6 cs/\d∈cs
def XA{bC:aw->b5}{lit:D->b3}{d:D}{b:aw}(h:b∈(yD bC lit d).refs):b∈d.refs/\bC b=aj:=by
 have one:∀d:D,(∀xs,d≠.agg xs)->(∀xs,d≠.aP xs)->b∈(gK bC lit d).refs->b∈d.refs/\bC b=aj:=λd m l h=>by
  cases a:d.ref with
  |none=>rw[gF (by rw[a];intro b h;cases h)]at h;cases d<;>first|(simp[D.refs,D.ref]at h a;done)|exact api rfl (m _)|exact api rfl (l _)
  |some k=>
   cases g:bC k with
   |true=>rw[rV a g]at h;simp[D.refs]at h
   |false=>
    rw[gF (by rw[a];intro b h;cases h;exact g)]at h;have:b=k:=by cases d<;>simp[D.refs,D.ref]at h a<;>first|(subst a;exact h)|skip
    exact⟨h,by rw[this];exact g⟩
 cases d with
 |agg xs=>
  obtain⟨x,f,e⟩:=apM.1 (show b∈(xs.map (gK bC lit)).filterMap D.ref from h);obtain⟨y,c,rfl⟩:=apN.1 f;obtain⟨j,i,-⟩:=I3 e;exact⟨apM.2 ⟨y,c,j⟩,i⟩
 |aP xs=>
  obtain⟨x,f,e⟩:=apM.1 (show b∈(xs.map (gK bC lit)).filterMap D.ref from h);obtain⟨y,c,rfl⟩:=apN.1 f;obtain⟨j,i,-⟩:=I3 e;exact⟨apM.2 ⟨y,c,j⟩,i⟩
 |_=>exact one _ zb zb h
def bU.B5{β:aw->aw}{w:bn}{X:aw->Prop}{bC:aw->b5}{lit:D->b3}{v:b3}{d:D}(h:bU β w X v d)
  (m:∀x∈d.parts,∀b,x.ref=a6 b->bC b=bj->∀v,aX β w X v x->v=lit x):bU β w X v (yD bC lit d):=by
 have one:∀{v:b3}{x:D},x∈d.parts->aX β w X v x->aX β w X v (gK bC lit x):=λ{v x} g j=>by
  cases f:x.ref with
  |none=>rw[gF (by rw[f];intro b h;cases h)];exact j
  |some b=>
   cases o:bC b with
   |true=>rw[rV f o,m x g b f o v j];exact .p (.lit _)
   |false=>rw[gF (by rw[f];intro b h;cases h;exact o)];exact j
 cases h with
 |c h=>
  have l:(yD bC lit d=gK bC lit d/\d.parts=[d]/\(∀a,d≠.agg a)/\∀a,d≠.aP a)\/(∃a,d=.agg a)\/∃a,d=.aP a:=by cases d<;>simp[yD,D.parts]
  rcases l with⟨e,p,r,q⟩|⟨a,rfl⟩|⟨a,rfl⟩
  ·rw[e];exact .c (one (by rw[p];simp) h)
  ·have l:=h.pure rfl
   have:a.map (gK bC lit)=a:=by
    cases l with
    |agg us a m j=>exact(apz (λx g=>gF (λb f=>by
      obtain⟨i,n,rfl⟩:=aqU g;rw[fC (j i za n)]at f;cases f))).trans (aqo _)
   show bU β w X v (.agg (a.map (gK bC lit)));rw[this];exact .c h
  ·have l:=h.pure rfl
   have:a.map (gK bC lit)=a:=by
    cases l with
    |aP us a m j=>exact(apz (λx g=>gF (λb f=>by
      obtain⟨i,n,rfl⟩:=aqU g;rw[fC (j i za n)]at f;cases f))).trans (aqo _)
   show bU β w X v (.aP (a.map (gK bC lit)));rw[this];exact .c h
 |agg us a k=>exact .agg us _ (k.map λu x g k=>one g k)
 |aP us a k=>exact .aP us _ (k.map λu x g k=>one g k)
def bU.Zs{β n:aw->aw}{w w':bn}{X X':aw->Prop}{bC:aw->b5}{lit:D->b3}{v:b3}{d:D}(h:bU β w X v (yD bC lit d))
  (s:∀x∈d.parts,∀v,(∀b,x.ref=a6 b->bC b=aj)->aX β w X v x->aX n w' X' v x) (y:∀x∈d.parts,∀b,x.ref=a6 b->bC b=bj->aX n w' X' (lit x) x):bU n w' X' v d:=by
 have one:∀{v:b3}{x:D},x∈d.parts->aX β w X v (gK bC lit x)->aX n w' X' v x:=λ{v x} q f=>by
  cases j:x.ref with
  |none=>rw[gF (by rw[j];intro b h;cases h)]at f;exact s x q v (by rw[j];intro b h;cases h) f
  |some b=>
   cases o:bC b with
   |true=>
    rw[rV j o]at f;cases f with
    |p f=>cases f;exact y x q b j o
   |false=>
    rw[gF (by rw[j];intro b h;cases h;exact o)]at f
    exact s x q v (by rw[j];intro b h;cases h;exact o) f
 have m:(yD bC lit d=gK bC lit d/\d.parts=[d]/\(∀a,d≠.agg a)/\∀a,d≠.aP a)\/(∃a,d=.agg a)\/∃a,d=.aP a:=by cases d<;>simp[yD,D.parts]
 rcases m with⟨e,z,u,t⟩|⟨a,rfl⟩|⟨a,rfl⟩
 ·rw[e]at h
  have r:(∀a,gK bC lit d≠.agg a)/\∀a,gK bC lit d≠.aP a:=by
   unfold gK;split
   ·split
    ·simp
    ·exact⟨u,t⟩
   ·exact⟨u,t⟩
  exact .c (one (by rw[z];simp) (h.cell r.1 r.2))
 ·have h:bU β w X v (.agg (a.map (gK bC lit))):=h
  generalize l:a.map (gK bC lit)=k at h;cases h with
  |c h=>
   have m:=h.pure rfl;cases m with
   |agg us k g f=>
    subst l;refine .agg us a ⟨by simpa using g,λi i1 i2=>one (apD i2) (.p ?_)⟩
    have:=f i i1 (by simpa using i2)
    rwa [ap2]at this
  |agg us k g=>
   subst l;refine .agg us a ⟨by simpa using g.1,λi i1 i2=>one (apD i2) ?_⟩
   have:=g.2 i i1 (by simpa using i2)
   rwa [ap2]at this
 ·have h:bU β w X v (.aP (a.map (gK bC lit))):=h
  generalize l:a.map (gK bC lit)=k at h;cases h with
  |c h=>
   have m:=h.pure rfl;cases m with
   |aP us k g f=>
    subst l;refine .aP us a ⟨by simpa using g,λi i1 i2=>one (apD i2) (.p ?_)⟩
    have:=f i i1 (by simpa using i2)
    rwa [ap2]at this
  |aP us k g=>
   subst l;refine .aP us a ⟨by simpa using g.1,λi i1 i2=>one (apD i2) ?_⟩
   have:=g.2 i i1 (by simpa using i2)
   rwa [ap2]at this
end Lw
