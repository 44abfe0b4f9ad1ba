/- Part 8. -/
import Derived.Test.YtmcpfihkambgnaaGreatLw07
set_option maxHeartbeats 2000000
set_option linter.all false
open Option renaming some->a6,none->bk
open _root_ renaming List->ai,Nat->aw,Bool->b5,Option->bF,beq_eq_false_iff_ne->c4,Int->cA,Rat->cl,decide_eq_true_eq->cm,of_decide_eq_true->hJ
open Bool renaming false->aj,true->bj,xor->rf
open Go renaming Value->b3,World->bn,TypeId->c5,FuncId->c7,MemPlace->oA,DataW->qm
open List renaming mem_cons->b4,not_mem_nil->bI,replicate->cd,nil_append->lp,length->yD,getD->yI
open Inhabited renaming default->bc
open Go.DataW renaming trod->dO,trod_struct->kq,Trod->v8,agg->vq
open Lw.Item renaming call->zC,prop->zD
open Lw.D renaming row->zK,lit->zT,ptr->z0,agg->z4
open Or renaming inl->z1,inr->z2
open Lw.iw renaming normal->z3,exit->yu
open Int renaming ofNat->zNq
open Go.Proofs.Tryz renaming prog->zZq
open Go.Proofs.Tryz
namespace Lw
namespace Tw
open Go Go.RowKit Go.Proofs
open fb
variable {G:bn->Prop} {t:aM} {δ n:aw}
variable (a:aa G) {b:Pl} {c:b5} {e:Jt} {o p:cA}
def B'(e:dn δ t){b:ai cl}{q:cl}(d:Qk q)(c:apd δ t b (iq q)):Spec zZq G 159 [aG t,au b,F q] (bool (aL t (s6 b (iq q))==0)):=
 Spec.y a (az (Y'.erase 159)) func159 [] [zC (dL a d),zC (atc a e c rfl)]
def at3(a:aa G)(f:dn δ t)(g:akQ t b)(d:Spec zZq G 158 [aG t,mg (b.c,b.s),mg (b.c,b.s)] (.aP [au (vP t (b.c,b.s) (b.c,b.s)),zT .nilIface]))(c:apd δ t (vP t (b.c,b.s) (b.c,b.s)) (iq ((1:cA):cl))):
  Spec zZq G 93 [aG t,PlD b] (bool (aL t (s6 (vP t (b.c,b.s) (b.c,b.s)) (iq ((1:cA):cl)))==0)):=by
 have e:=B' a f (u6) c;generalize(aL t (s6 (vP t (b.c,b.s) (b.c,b.s)) (iq ((1:cA):cl)))==0)=z at e⊢;exact Spec.y a (az Y') func93 [] [zC (as9 a f g.c),zC (as9 a f g.s),zC (as9 a f g.x),zC (as9 a f g.y),zC d,zC (dM a (i:=1) za za),zC e]
def atH(a:aa G)(e:dn δ t)(c:apd δ t b.c (iq ((1:cA):cl)))(s:apd δ t b.s (iq 0))(x:apd δ t b.x (iq 0))(y:apd δ t b.y (iq 0)):
  ∃z,Spec zZq G 94 [aG t,PlD b] (bool z)/\(z=bj->aL t (s6 b.c (iq ((1:cA):cl)))=0/\aL t (s6 b.s (iq 0))=0/\aL t (s6 b.x (iq 0))=0/\aL t (s6 b.y (iq 0))=0):=by
 have q0:Qk 0:=GO zt
 have d:=B' a e (u6) c;have es:=B' a e q0 s;have ex:=B' a e q0 x;have f:=B' a e q0 y;generalize r:(aL t (s6 b.c (iq ((1:cA):cl)))==0)=l at d;generalize q:(aL t (s6 b.s (iq 0))==0)=k at es;generalize p:(aL t (s6 b.x (iq 0))==0)=j at ex;generalize m:(aL t (s6 b.y (iq 0))==0)=g at f;have o:=dM a (i:=1) za za
 cases l with
 |false=>exact⟨aj,Spec.y a (az (Y'.erase 94)) func94 [] [zC o,zC d],λh=>by cases h⟩
 |true=>
  cases k with
  |false=>exact⟨aj,Spec.y a (az (Y'.erase 94)) func94 [] [zC o,zC d,zC es],λh=>by cases h⟩
  |true=>
   cases j with
   |false=>exact⟨aj,Spec.y a (az (Y'.erase 94)) func94 [] [zC o,zC d,zC es,zC ex],λh=>by cases h⟩
   |true=>exact⟨g,Spec.y a (az (Y'.erase 94)) func94 [] [zC o,zC d,zC es,zC ex,zC f],λh=>⟨eq_of_beq r,eq_of_beq q,eq_of_beq p,eq_of_beq (m.trans h)⟩⟩
def atp(a:aa G)(f:dn δ t){x:Tn}(d:agR x)(k:Qk x.cos)(j:Qk x.sin)(c:apd δ t b.c (iq x.cos))(s:apd δ t b.s (iq x.sin)):
  ∃z,Spec zZq G 100 [aG t,PlD b,J5 x] (bool z)/\(z=bj->aL t (s6 b.c (iq x.cos))=0/\aL t (s6 b.s (iq x.sin))=0):=by
 have e:=B' a f k c;have es:=B' a f j s;generalize m:(aL t (s6 b.c (iq x.cos))==0)=i at e;generalize l:(aL t (s6 b.s (iq x.sin))==0)=g at es;cases i with
 |false=>exact⟨aj,Spec.y a (az (Y'.erase 100)) func100 [] [zC (ao_ a d),zC (ao9 a d),zC e],λh=>by cases h⟩
 |true=>exact⟨g,Spec.y a (az (Y'.erase 100)) func100 [] [zC (ao_ a d),zC (ao9 a d),zC e,zC es],λh=>⟨eq_of_beq m,eq_of_beq (l.trans h)⟩⟩
def at7(a:aa G)(e:dn δ t){p q:Pt}(l:jD t p)(k:jD t q)(o:apd δ t p.1 q.1)(m:apd δ t p.2 q.2):
  ∃z,Spec zZq G 161 [aG t,mg p,mg q] (.aP [bool z,zT .nilIface])/\(z=bj->aL t (s6 p.1 q.1)=0/\aL t (s6 p.2 q.2)=0):=by
 have ck:=r_ a e l k;have d:=atc a e o rfl;have c:=atc a e m rfl;generalize s:aL t (s6 p.1 q.1)=g at d;generalize r:aL t (s6 p.2 q.2)=f at c;by_cases j:g=0
 ·subst j
  by_cases i:f=0
  ·subst i
   exact⟨bj,Spec.y a (az Ka) func161 [] [zC ck,zC d,zC c],λ_=>⟨rfl,rfl⟩⟩
  ·have b:(f==0)=aj:=c4.2 i
   exact⟨aj,Spec.y a (az Ka) func161 [] [zC ck,zC d,zC c,.eb 45 b],λh=>by cases h⟩
 ·have b:(g==0)=aj:=c4.2 j
  exact⟨aj,Spec.y a (az Ka) func161 [] [zC ck,zC d,zC c,.eb 42 b],λh=>by cases h⟩
def aus(l:Lk)(j:As)(b:e.kind=0)(g:tB l e.a e.p)(f:tB l e.b e.on)(a1:e.a<yD j.bs)(h:e.b<yD j.bs)(z:Rd G l j e.a e.p)(d:Rd G l j e.b e.on)
  (s:Spec zZq G 161 [aG j.t,mg (kS l j e.a e.p),mg (kS l j e.b e.on)] (.aP [bool c,zT .nilIface])):Spec zZq G 97 [lM l,qx j,JtD e] (bool c):=by
 obtain⟨i,k,q,jp,p,o,m⟩:=e;simp only at b;subst b;exact Spec.y a (az Y') func97 [] [zC (atn a l j g a1 z),zC (atn a l j f h d),zC s]
def atI(l:Lk)(j:As)(c:e.kind=1)(k:tB l e.a e.p)(i:tB l e.b e.on)(h:tB l e.b e.to)(a1:e.a<yD j.bs)(d:e.b<yD j.bs)(g:Rd G l j e.a e.p)(f:Rd G l j e.b e.on)(b:Rd G l j e.b e.to)
  (s:Spec zZq G 162 [aG j.t,mg (kS l j e.b e.on),mg (kS l j e.b e.to),mg (kS l j e.a e.p)] (.aP [int o,zT .nilIface])):Spec zZq G 97 [lM l,qx j,JtD e] (bool (o==0)):=by
 obtain⟨m,z,u,jp,r,q,p⟩:=e;simp only at c;subst c;exact Spec.y a (az Y') func97 [] [zC (atn a l j k a1 g),zC (atn a l j i d f),zC (atn a l j h d b),zC s]
def aui(z:aa G)(a:As){i:aw}{y:b5}(u:Spec zZq G 93 [aG a.t,PlD b] (bool c))(st:Spec zZq G 94 [aG a.t,PlD b] (bool y)):
  ∃r,Spec zZq G 92 [nat i,PlD b,.aJ (Bm a)] (bool r)/\(r=aj->c=bj/\(i=0->y=bj)):=by
 cases c with
 |false=>exact⟨bj,Spec.y z (az Y') func92 [] [zC u],λh=>by cases h⟩
 |true=>
  cases i with
  |zero=>
   cases y with
   |false=>exact⟨bj,Spec.y z (az Y') func92 [] [zC u,zC st],λh=>by cases h⟩
   |true=>exact⟨aj,Spec.y z (az Y') func92 [] [zC u,zC st],λ_=>⟨rfl,λ_=>rfl⟩⟩
  |succ i=>exact⟨aj,Spec.y z (az Y') func92 [] [zC u,.eb 13 (fh (i:=i+1) (j:=0) za)],λ_=>⟨rfl,λh=>by cases h⟩⟩
def auj(b:aa G)(l:Lk)(a:As){i:aw}{j:Jt}{z:b5}(h:Spec zZq G 97 [lM l,qx a,JtD j] (bool z)):
  Spec zZq G 96 [nat i,JtD j,.aJ (yJ l),.aJ (Bm a)] (bool (!z)):=
 Spec.y b (az Y') func96 [] [.call h]
def auk(k:aa G)(a:As)(xs:ai Tn){i:aw}{d:Dr}(b:i<xs.length)(c:d.body<a.bs.length){z:b5}(h:Spec zZq G 100 [aG a.t,PlD (dt a d.body),J5 (xs.getD i ⟨0,aj⟩)] (bool z)):
  Spec zZq G 99 [nat i,.agg (Ky d),.aJ (Bm a),.aJ [aQ Y9 xs]] (bool (!z)):=by
 have m:=fO fN c ⟨[],[],[],[]⟩;have j:=cE fN za c
 have g:=aq fN za c
 have l:=fO NX b ⟨0,aj⟩;have f:=cE NX za b
 have e:=aq NX za b
 exact Spec.y k (az Y') func99 [] [.er 12 (nat d.body),.prop j,.prop g,.eq 14 m,.er 16 (nat i),.prop f,.prop e,.eq 18 l,.call h]
def FT{S:aw->b5->Prop}{Q:aw->Prop}:∀n,(∀i<n,∃z,S i z/\(z=aj->Q i))->(∀i<n,S i aj/\Q i)\/∃k,k<n/\(∀i<k,S i aj)/\S k bj
 |0,_=>z1 λi h=>api h za
 |n+1,h=>by
  obtain a|⟨k,e,b,c⟩:=FT n λi d=>h i za
  ·obtain⟨z,s,q⟩:=h n za
   cases z with
   |false=>
    refine z1 λi d=>?_
    rcases Nat.lt_or_eq_of_le (Nat.le_of_lt_succ d)with h|rfl
    ·exact a i h
    ·exact⟨s,q rfl⟩
   |true=>exact z2 ⟨n,by omega,λi d=>(a i d).1,s⟩
  ·exact z2 ⟨k,by omega,b,c⟩
def auw(m:aa G){x:ai D}{l:ai Pl}(d:Pl)(p:yD l<=1000000){Q:aw->Prop}
  (h:∀i<yD l,∃z,Spec zZq G 92 ([nat i,z4 (Hg (yI l i d))]++[.aJ x]) (bool z)/\(z=aj->Q i)):∃r:cA,Spec zZq G 91 [aQ Hg l,.fn 92 [] [.aJ x]] (int r)/\((r= -1/\∀i<yD l,Q i)\/∃k:aw,r=zNq k):=by
 obtain a|⟨k,j,b,c⟩:=FT (yD l) h
 ·exact⟨-1,auN m d p λi g=>(a i g).1,z1 ⟨rfl,λi g=>(a i g).2⟩⟩
 have rd:∀i<k,af zZq G 0 (ae f91 0) (fiP (.fn 92 [] [.aJ x]) l i) z3 (fiP (.fn 92 [] [.aJ x]) l (i+1)):=λi g=>by
  have f:i<yD l:=za
  have e:=fO fN f d;exact af.r m [.eb 10 (ah f),zD (cE fN za f),zD (aq fN za f),.eq 13 e,zC (b i g),.eq 19 (bL (cI f za))]
 have e:=fO fN j d;have o:=aI.z zZq G (ae f91 0) .ret (lay 20 [(4,nat k)] []) (λi=>fiP (.fn 92 [] [.aJ x]) l i) k rd
  (af.r m [.eb 10 (ah j),zD (cE fN za j),zD (aq fN za j),.eq 13 e,zC c])
 exact⟨zNq k,Spec.r m func91 [] [.code o],z2 ⟨k,rfl⟩⟩
def auy(m:aa G){x y:ai D}{l:ai Jt}(d:Jt)(p:yD l<=1000000){Q:aw->Prop}
  (h:∀i<yD l,∃z,Spec zZq G 96 ([nat i,z4 (Hh (yI l i d))]++[.aJ x,.aJ y]) (bool z)/\(z=aj->Q i)):∃r:cA,Spec zZq G 95 [aQ Hh l,.fn 96 [] [.aJ x,.aJ y]] (int r)/\((r= -1/\∀i<yD l,Q i)\/∃k:aw,r=zNq k):=by
 obtain a|⟨k,j,b,c⟩:=FT (yD l) h
 ·exact⟨-1,auO m d p λi g=>(a i g).1,z1 ⟨rfl,λi g=>(a i g).2⟩⟩
 have rd:∀i<k,af zZq G 0 (ae f95 0) (fiJ (.fn 96 [] [.aJ x,.aJ y]) l i) z3 (fiJ (.fn 96 [] [.aJ x,.aJ y]) l (i+1)):=λi g=>by
  have f:i<yD l:=za
  have e:=fO bQ f d;exact af.r m [.eb 10 (ah f),zD (cE bQ za f),zD (aq bQ za f),.eq 13 e,zC (b i g),.eq 19 (bL (cI f za))]
 have e:=fO bQ j d;have o:=aI.z zZq G (ae f95 0) .ret (lay 20 [(4,nat k)] []) (λi=>fiJ (.fn 96 [] [.aJ x,.aJ y]) l i) k rd
  (af.r m [.eb 10 (ah j),zD (cE bQ za j),zD (aq bQ za j),.eq 13 e,zC c])
 exact⟨zNq k,Spec.r m func95 [] [.code o],z2 ⟨k,rfl⟩⟩
def auz(m:aa G){x y:ai D}{l:ai Dr}(d:Dr)(p:yD l<=1000000){Q:aw->Prop}
  (h:∀i<yD l,∃z,Spec zZq G 99 ([nat i,z4 (Ky (yI l i d))]++[.aJ x,.aJ y]) (bool z)/\(z=aj->Q i)):∃r:cA,Spec zZq G 98 [aQ Ky l,.fn 99 [] [.aJ x,.aJ y]] (int r)/\((r= -1/\∀i<yD l,Q i)\/∃k:aw,r=zNq k):=by
 obtain a|⟨k,j,b,c⟩:=FT (yD l) h
 ·exact⟨-1,auP m d p λi g=>(a i g).1,z1 ⟨rfl,λi g=>(a i g).2⟩⟩
 have rd:∀i<k,af zZq G 0 (ae f98 0) (fiD (.fn 99 [] [.aJ x,.aJ y]) l i) z3 (fiD (.fn 99 [] [.aJ x,.aJ y]) l (i+1)):=λi g=>by
  have f:i<yD l:=za
  have e:=fO gd f d;exact af.r m [.eb 10 (ah f),zD (cE gd za f),zD (aq gd za f),.eq 13 e,zC (b i g),.eq 19 (bL (cI f za))]
 have e:=fO gd j d;have o:=aI.z zZq G (ae f98 0) .ret (lay 20 [(4,nat k)] []) (λi=>fiD (.fn 99 [] [.aJ x,.aJ y]) l i) k rd
  (af.r m [.eb 10 (ah j),zD (cE gd za j),zD (aq gd za j),.eq 13 e,zC c])
 exact⟨zNq k,Spec.r m func98 [] [.code o],z2 ⟨k,rfl⟩⟩
def atu(k:aw):decide (zNq k>=0)=bj:=zb
def atQ(l:Lk)(j:As)(xs:ai Tn)(d:dn δ j.t)(b:yD j.bs=yD l.bs){g:cA}{A B C:Prop}
  (f:Spec zZq G 91 [aQ Hg j.bs,.fn 92 [] [.aJ (Bm j)]] (int o)) (w:(o= -1/\A)\/∃k:aw,o=zNq k)
  (m:Spec zZq G 95 [aQ Hh l.js,.fn 96 [] [.aJ (yJ l),.aJ (Bm j)]] (int p)) (v:(p= -1/\B)\/∃k:aw,p=zNq k)
  (h:Spec zZq G 98 [aQ Ky l.ds,.fn 99 [] [.aJ (Bm j),.aJ [aQ Y9 xs]]] (int g)) (u:(g= -1/\C)\/∃k:aw,g=zNq k):
  ∃k i:aw,Spec zZq G 39 [lM l,aQ Y9 xs,qx j] (z4 [nat k,nat i])/\((k=0/\i=0/\A/\B/\C)\/∃c,k=c+1):=by
 have e:(zNq (yD j.bs) !=zNq (yD l.bs))=aj:=by rw[b];simp
 rcases w with⟨rfl,s⟩|⟨k,rfl⟩
 ·rcases v with⟨rfl,r⟩|⟨k,rfl⟩
  ·rcases u with⟨rfl,q⟩|⟨k,rfl⟩
   ·exact⟨0,0,auA a l j xs d b f m h,z1 ⟨rfl,rfl,s,r,q⟩⟩
   ·exact⟨4,k,Spec.y a (az (atd.erase 39)) func39 [3,4,5] [zC (vA a d),.eb 21 e,zC f,zC m,zC h,.eb 45 (atu k)],z2 ⟨3,rfl⟩⟩
  ·exact⟨3,k,Spec.y a (az (atd.erase 39)) func39 [3,4,5] [zC (vA a d),.eb 21 e,zC f,zC m,.eb 37 (atu k)],z2 ⟨2,rfl⟩⟩
 ·exact⟨2,k,Spec.y a (az (atd.erase 39)) func39 [3,4,5] [zC (vA a d),.eb 21 e,zC f,.eb 29 (atu k)],z2 ⟨1,rfl⟩⟩
def atL(l:Lk)(c:As)(b:yD l.ds=0){k i:aw}(c0:Spec zZq G 37 [lM l] (zT .nilIface))(f:Spec zZq G 39 [lM l,aQ Y9 [],qx c] (z4 [nat (k+1),nat i])):
  Spec zZq G 11 [lM l,aQ Y9 [],qx c] (.aP [bool aj,z4 [nat (k+1),nat i],zT .nilIface]):=by
 have e:(zNq 0 !=zNq (yD l.ds))=aj:=by rw[b];decide
 exact Spec.y a (az atd) func11 [] [zC c0,.eb 25 e,zC f]
def atK(l:Lk)(b:As){x:Tn}(c:Qk x.t)(g:x.half=bj->x.t=0)(d:yD l.ds=1){k i:aw}(c0:Spec zZq G 37 [lM l] (zT .nilIface))(f:Spec zZq G 39 [lM l,aQ Y9 [x],qx b] (z4 [nat (k+1),nat i])):
  Spec zZq G 11 [lM l,aQ Y9 [x],qx b] (.aP [bool aj,z4 [nat (k+1),nat i],zT .nilIface]):=by
 have e:(zNq 1 !=zNq (yD l.ds))=aj:=by rw[d];decide
 exact Spec.y a (az atd) func11 [] [zC c0,.eb 25 e,zC (TL a c g),zC f]
def atJ(l:Lk)(b:As){x y:Tn}(d:Qk x.t)(j:x.half=bj->x.t=0)(c:Qk y.t)(h:y.half=bj->y.t=0)(g:yD l.ds=2){k i:aw}(c0:Spec zZq G 37 [lM l] (zT .nilIface))(f:Spec zZq G 39 [lM l,aQ Y9 [x,y],qx b] (z4 [nat (k+1),nat i])):
  Spec zZq G 11 [lM l,aQ Y9 [x,y],qx b] (.aP [bool aj,z4 [nat (k+1),nat i],zT .nilIface]):=by
 have e:(zNq 2 !=zNq (yD l.ds))=aj:=by rw[g];decide
 exact Spec.y a (az atd) func11 [] [zC c0,.eb 25 e,zC (TL a d j),zC (TL a c h),zC f]
def atv(ok:j7 t){a b:ai cl}(g:Sh (yD t) a)(d:Sh (yD t) b)(h:aL t (s6 a b)=0){K:Type}[dH K](ι:pD cl K)(s:aw->K)(i:Model ι s t (yD t)):vl ι s t a=vl ι s t b:=by
 have c:aL t (dV a (gD b))=0:=h;rw[ku ι s ok.sh i (g.plus d.minus)]at c;have e:lv ι s (yD t) (dV a (gD b))=0:=dH.oL.1 c;rw[rD,uq]at e;have f:lv ι s (yD t) a=lv ι s (yD t) a+ -lv ι s (yD t) b+lv ι s (yD t) b:=by rw[zY.fo,zY.rS,zY.add_zero']
 show lv ι s (yD t) a=lv ι s (yD t) b;rw[f,e,zY.iD]
def UnS(t:aM)(b:Pl):Prop:=aL t (s6 (vP t (b.c,b.s) (b.c,b.s)) (iq ((1:cA):cl)))=0
def StS(t:aM)(b:Pl):Prop:=aL t (s6 b.c (iq ((1:cA):cl)))=0/\aL t (s6 b.s (iq 0))=0/\aL t (s6 b.x (iq 0))=0/\aL t (s6 b.y (iq 0))=0
def TnS(t:aM)(b:Pl)(x:Tn):Prop:=aL t (s6 b.c (iq x.cos))=0/\aL t (s6 b.s (iq x.sin))=0
def JtS(l:Lk)(a:As)(j:Jt):Prop:=(j.kind=0->aL a.t (s6 (kS l a j.a j.p).1 (kS l a j.b j.on).1)=0/\aL a.t (s6 (kS l a j.a j.p).2 (kS l a j.b j.on).2)=0)/\
 (j.kind=1->aL a.t (auc a.t (kS l a j.b j.on) (kS l a j.b j.to) (kS l a j.a j.p))=0)
def aul(j:aa G)(d:dn δ t)(E:JZ n δ (yD t))(g:z5 n t b):∃z,Spec zZq G 93 [aG t,PlD b] (bool z)/\(z=bj->UnS t b):=by
 have p:=E;obtain⟨v,u,r⟩:=E;have k:MB<=NB:=z8;have c:s7 n t (b.c,b.s):=gP.sub g (by intro a i;simp only[b4,bI,or_false]at i⊢;obtain h|h:=i<;>simp[h])
 have f:=Ib d.b c c;have o:=QD d.b c c;have e:jD t (b.c,b.s):=c.ok za
 have q:=(iC.int (m:=0) 1 zt).num t
 exact⟨_,at3 j d (g.ok za) (Hc j d e e (f.num zb) (f.num zb) za) (zB p (m:=n+n+tb δ (yD t)+1) za (o.num zb) (q.mono za)),λh=>eq_of_beq h⟩
def atW(f:aa G)(e:dn δ t)(E:JZ n δ (yD t))(d:z5 n t b):∃z,Spec zZq G 94 [aG t,PlD b] (bool z)/\(z=bj->StS t b):=by
 have q:=((iC.int (m:=0) 1 zt).num t).mono (apJ n)
 have o:=((iC.zero 0).num t).mono (apJ n);have c:=gP.num d (a:=b.c) zb
 have s:=gP.num d (a:=b.s) zb
 have x:=gP.num d (a:=b.x) zb
 have y:=gP.num d (a:=b.y) zb
 exact atH f e (zB E (m:=n) za c q) (zB E (m:=n) za s o) (zB E (m:=n) za x o) (zB E (m:=n) za y o)
def aty(o:aa G)(k:dn δ t)(E:JZ n δ (yD t))(g:z5 n t b){x:Tn}(i:iC 64 x.t)(j:x.half=bj->x.t=0):∃z,Spec zZq G 100 [aG t,PlD b,J5 x] (bool z)/\(z=bj->TnS t b x):=by
 obtain⟨f,e,h⟩:=Tn.szs i;have d:4*64+4<=NB:=by have:=z8;have:=E.2.2;omega
 have c:=gP.num g (a:=b.c) zb
 have s:=gP.num g (a:=b.s) zb
 exact atp o k (h x.Ff d j) (f.qk d) (e.qk d) (zB E (m:=n+260) za (c.mono za) ((f.num t).mono za)) (zB E (m:=n+260) za (s.mono za) ((e.num t).mono za))
section
variable {l:Lk} {xs:ai Tn} {a:As}
def atX(d:aa G)(S:Rl l xs)(c:dn δ a.t)(E:JZ n δ (yD a.t))(pl:∀i,z5 n a.t (dt a i))(lb:yD a.bs=yD l.bs){j:aw}(C:j<yD l.js):∃z,Spec zZq G 97 [lM l,qx a,JtD (yI l.js j bc)] (bool z)/\(z=bj->JtS l a (yI l.js j bc)):=by
 have D:=E;obtain⟨O,L,N⟩:=E;obtain⟨r,q,p,o,g⟩:=S.ok.at C;have B:=S.ok.kind _ (aA C (bc:Jt));generalize yI l.js j bc=b at r q p o g B;have y:=C5 d c S.sz pl za p
 have x:=C5 d c S.sz pl za o
 have m:=BQ c.b.ok S.sz pl p;have e:=BQ c.b.ok S.sz pl o;obtain k|k:=B
 ·obtain⟨z,s,f⟩:=at7 d c (m.ok za) (e.ok za) (zB D za m.x e.x) (zB D za m.y e.y)
  exact⟨z,aus d l a k p o (by rw[lb];exact r) (by rw[lb];exact q) y x s,λh=>⟨λ_=>f h,λh=>(by rw[k]at h;cases h)⟩⟩
 ·have g:=g k
  have F:=C5 d c S.sz pl za g
  have u:=BQ c.b.ok S.sz pl g;have v:=Ab u e;have w:=Ab m e;have A:=Ib c.b v w;have M:=QD c.b v w;have o1:aH _ a.t (qZ a.t (fS (kS l a b.b b.to) (kS l a b.b b.on)) (fS (kS l a b.a b.p) (kS l a b.b b.on))):=M.num (apX _ (apw ..));have I:aH _ a.t (mulL a.t (fS (kS l a b.b b.to) (kS l a b.b b.on)).1 (fS (kS l a b.a b.p) (kS l a b.b b.on)).2):=A.num (apX _ (apX _ (apw ..)));have H:aH _ a.t (mulL a.t (fS (kS l a b.b b.to) (kS l a b.b b.on)).2 (fS (kS l a b.a b.p) (kS l a b.b b.on)).1):=A.num (apX _ (apX _ (apX _ (apw ..))));have k1:jD a.t (kS l a b.a b.p):=m.ok za
  have k2:jD a.t (kS l a b.b b.on):=e.ok za
  have k3:jD a.t (kS l a b.b b.to):=u.ok za
  have J:jD a.t (fS (kS l a b.b b.to) (kS l a b.b b.on)):=v.ok za
  have kw:jD a.t (fS (kS l a b.a b.p) (kS l a b.b b.on)):=w.ok za
  have sg:Ck δ a.t (auc a.t (kS l a b.b b.on) (kS l a b.b b.to) (kS l a b.a b.p)):=⟨_,o1,apm (pJ δ _ za) L⟩
  exact⟨_,atI d l a k p o g (by rw[lb];exact r) (by rw[lb];exact q) y x F (atz d c k2 k3 k1 J kw (I.mono za) (H.mono za) sg rfl),λh=>⟨λh=>(by rw[k]at h;cases h),λ_=>eq_of_beq h⟩⟩
structure auD(l:Lk)(xs:ai Tn)(a:As):Prop where
 un:∀i<a.bs.length,UnS a.t (dt a i)/\(i=0->StS a.t (dt a i))
 jt:∀j<l.js.length,JtS l a (l.js.getD j bc)
 dv:∀d<l.ds.length,TnS a.t (dt a (l.ds.getD d bc).body) (xs.getD d ⟨0,aj⟩)
def atx(b:aa G)(S:Rl l xs)(ck:Spec zZq G 37 [lM l] (zT .nilIface))(m:dn δ a.t)(E:JZ n δ (yD a.t))(pl:∀i,z5 n a.t (dt a i))(lb:yD a.bs=yD l.bs):
  ∃(z:b5)(k i:aw),Spec zZq G 11 [lM l,aQ Y9 xs,qx a] (.aP [bool z,z4 [nat k,nat i],zT .nilIface])/\(z=bj->auD l xs a):=by
 have V:=S.b6;have T:=S.j8;have d2:=S.d2;have e:64<=NB:=by have:=z8;have:=E.2.2;omega
 obtain⟨R,N,I⟩:=auw b (x:=Bm a) (l:=a.bs) ⟨[],[],[],[]⟩ za (Q:=λi=>UnS a.t (dt a i)/\(i=0->StS a.t (dt a i))) λi U=>by
  obtain⟨z,u,f⟩:=aul b m E (pl i);obtain⟨y,v,g⟩:=atW b m E (pl i);obtain⟨r,w,k⟩:=aui b a (i:=i) u v;exact⟨r,w,λh=>⟨f (k h).1,λJ=>g ((k h).2 J)⟩⟩
 obtain⟨P,M,H⟩:=auy b (x:=yJ l) (y:=Bm a) (l:=l.js) bc za (Q:=λj=>JtS l a (yI l.js j bc)) λj C=>by
  obtain⟨z,u,f⟩:=atX b S m E pl lb C;exact⟨_,auj b l a u,λh=>f (by cases z<;>first|rfl|cases h)⟩
 obtain⟨O,L,F⟩:=auz b (x:=Bm a) (y:=[aQ Y9 xs]) (l:=l.ds) bc za (Q:=λd=>TnS a.t (dt a (yI l.ds d bc).body) (yI xs d ⟨0,aj⟩)) λd B=>by
  have D:=S.ok.body _ (aA B (bc:Dr));obtain⟨z,u,f⟩:=aty b m E (pl (yI l.ds d bc).body) (S.V5 d).1 (S.V5 d).2;exact⟨_,auk b a xs (by rw[S.len];exact B) (by rw[lb];exact D) u,λh=>f (by cases z<;>first|rfl|cases h)⟩
 obtain⟨k,i,f,w⟩:=atQ b l a xs m lb N I M H L F;have len:=S.len;have c:=S.tr;rcases w with⟨rfl,rfl,A,q,p⟩|⟨k,rfl⟩
 ·obtain rfl|⟨x0,rfl⟩|⟨x0,o,rfl⟩:=ahD (l:=xs) za
  ·exact⟨bj,0,0,atF b l a (by rw[<-len];rfl) ck f,λ_=>⟨A,q,p⟩⟩
  ·have t0:=c x0 zb
   exact⟨bj,0,0,atE b l a (t0.1.qk e) t0.2 (by rw[<-len];rfl) ck f,λ_=>⟨A,q,p⟩⟩
  ·have t0:=c x0 zb
   have t1:=c o zb
   exact⟨bj,0,0,atD b l a (t0.1.qk e) t0.2 (t1.1.qk e) t1.2 (by rw[<-len];rfl) ck f,λ_=>⟨A,q,p⟩⟩
 ·obtain rfl|⟨x0,rfl⟩|⟨x0,o,rfl⟩:=ahD (l:=xs) za
  ·exact⟨aj,_,_,atL b l a (by rw[<-len];rfl) ck f,λh=>by cases h⟩
  ·have t0:=c x0 zb
   exact⟨aj,_,_,atK b l a (t0.1.qk e) t0.2 (by rw[<-len];rfl) ck f,λh=>by cases h⟩
  ·have t0:=c x0 zb
   have t1:=c o zb
   exact⟨aj,_,_,atJ b l a (t0.1.qk e) t0.2 (t1.1.qk e) t1.2 (by rw[<-len];rfl) ck f,λh=>by cases h⟩
section
variable {G:bn->Prop} {t:aM} {δ n:aw} {l:Lk} {xs:ai Tn} {a:As} {K:Type} [dH K] (ι:pD cl K) (s:aw->K)
def psA(a:As):Ps K:=⟨λi=>vl ι s a.t (dt a i).c,λi=>vl ι s a.t (dt a i).s,λi=>vl ι s a.t (dt a i).x,λi=>vl ι s a.t (dt a i).y⟩
def auD.pos(S:Rl l xs)(N:dn δ a.t)(pl:∀i,z5 n a.t (dt a i))(lb:yD a.bs=yD l.bs)(h:auD l xs a)(k:Model ι s a.t (yD a.t)):ato ι l xs (psA ι s a):=by
 have ok:=N.b.ok;have r:∀i,Cj (yD a.t) (dt a i):=λi=>(pl i).shB
 have z:∀i m,(psA ι s a).at ι i (n8 (dQ l i m))=(vl ι s a.t (kS l a i m).1,vl ι s a.t (kS l a i m).2):=λi m=>(adO ι s ok.sh k (r i) (n8 (dQ l i m))).symm
 have i1:ι.φ ((1:cA):cl)=1:=ι.one;have of:∀{b:ai cl}{q:cl},Sh (yD a.t) b->aL a.t (s6 b (iq q))=0->vl ι s a.t b=ι.φ q:=λJ e=>by rw[atv ok J (Sh.l7 _ _) e ι s k,gV]
 refine⟨λi Q=>?_,?_,λj u A=>?_,λj u A=>?_,λd I=>?_⟩
 ·have e:=(h.un i za).1
  have b:=r i;have f:=of (Sh.dot ok.sh (l:=((dt a i).c,(dt a i).s)) (m:=((dt a i).c,(dt a i).s)) ⟨b.c,b.s⟩ ⟨b.c,b.s⟩) e;rw[tS ι s ok.sh k ⟨b.c,b.s⟩ ⟨b.c,b.s⟩,i1]at f;exact f
 ·obtain⟨y,x,P,O⟩:=(h.un 0 (by have:=S.ok.b0;omega)).2 rfl
  have b:=r 0;exact⟨(of b.c y).trans i1,(of b.s x).trans ι.zero,(of b.x P).trans ι.zero,(of b.y O).trans ι.zero⟩
 ·obtain⟨M,L,D,C,H⟩:=S.ok.at u
  obtain⟨y,x⟩:=(h.jt j u).1 A;have o:=BQ ok S.sz pl D;have g:=BQ ok S.sz pl C;rw[z,z,atv ok o.x.sh g.x.sh y ι s k,atv ok o.y.sh g.y.sh x ι s k]
 ·obtain⟨M,L,D,C,H⟩:=S.ok.at u
  have e:=(h.jt j u).2 A;have o:=BQ ok S.sz pl D;have g:=BQ ok S.sz pl C;have B:=BQ ok S.sz pl (H A);rw[z,z,z];generalize yI l.js j bc=c at*;have v:=Ab B g;have w:=Ab o g;have F:fx (yD a.t) (fS (kS l a c.b c.to) (kS l a c.b c.on)):=⟨v.x.sh,v.y.sh⟩;have E:fx (yD a.t) (fS (kS l a c.a c.p) (kS l a c.b c.on)):=⟨w.x.sh,w.y.sh⟩;unfold auc at e;rw[ku ι s ok.sh k (Sh.qw ok.sh F E)]at e;have e:=dH.oL.1 e;rw[Cz ι s ok.sh k F E]at e;have f1:vl ι s a.t (fS (kS l a c.b c.to) (kS l a c.b c.on)).1=vl ι s a.t (kS l a c.b c.to).1-vl ι s a.t (kS l a c.b c.on).1:=at5 ι s B.x.sh g.x.sh;have f2:vl ι s a.t (fS (kS l a c.b c.to) (kS l a c.b c.on)).2=vl ι s a.t (kS l a c.b c.to).2-vl ι s a.t (kS l a c.b c.on).2:=at4 ι s B.y.sh g.y.sh;have f3:vl ι s a.t (fS (kS l a c.a c.p) (kS l a c.b c.on)).1=vl ι s a.t (kS l a c.a c.p).1-vl ι s a.t (kS l a c.b c.on).1:=at5 ι s o.x.sh g.x.sh;have f4:vl ι s a.t (fS (kS l a c.a c.p) (kS l a c.b c.on)).2=vl ι s a.t (kS l a c.a c.p).2-vl ι s a.t (kS l a c.b c.on).2:=at4 ι s o.y.sh g.y.sh;rw[f1,f2,f3,f4]at e;exact e
 ·have J:=S.ok.body _ (aA I (bc:Dr))
  obtain⟨y,x⟩:=h.dv d I;exact⟨of (r _).c y,of (r _).s x⟩
end
end
structure PsB(p:Pse):Prop where
 t:iC 96 p.u.t
 h:p.u.half=bj->p.u.t=0
 x:iC 96 p.x
 y:iC 96 p.y
def PsB.ok{p:Pse}(h:PsB p):atA p:=by
 obtain⟨c,s,k⟩:=Tn.szs h.t;have b:4*96+4<=NB:=zy
 exact⟨k p.u.Ff b h.h,h.x.qk za,h.y.qk za,c.qk b,s.qk b⟩
variable {j:Pse}
def PsB.pl(h:PsB j):z5 1567 [] (plP j):=by
 obtain⟨c,s,k⟩:=Tn.szs h.t;exact gP.mono (((gP.one (c.num [])).both (gP.one (s.num []))).both ((gP.one (h.x.num [])).both (gP.one (h.y.num [])))) zt
def auF:z5 n [] ⟨[],[],[],[]⟩:=by
 have z:aH 0 [] []:=(iC.zero 0).num [];exact gP.mono (((gP.one z).both (gP.one z)).both ((gP.one z).both (gP.one z))) (apJ _)
def auE{ps:ai Pse}(h:∀p∈ps,PsB p)(i:aw):z5 1567 [] (dt (asP ps) i):=by
 unfold dt asP;obtain b|b:=apy i (yD ps)
 ·rw[show(ps.map plP).getD i ⟨[],[],[],[]⟩=plP (yI ps i bc)from by
   rw[apf,aqz,apj b,apf,apj b];rfl]
  exact(h _ (aA b bc)).pl
 ·rw[show(ps.map plP).getD i ⟨[],[],[],[]⟩=⟨[],[],[],[]⟩from by
   rw[apf,aqz,apL b];rfl]
  exact auF
def T0:dn 1 []:=⟨⟨j7.nil,yx.nil 1,by decide+kernel⟩,by decide+kernel⟩
def E0:JZ 1567 1 0:=zy
section
variable {x z:As} {i:aw}
def mA(x z:As)(i:aw):St:=lay 132 [(2,.aJ (Bm x)),(7,z0 0 0),(44,aQ Hg x.bs),(45,nat (yD x.bs)),(46,nat i)] [(0,Bm z)]
def auf(f:dn δ x.t)(d:akQ x.t (dt x i))(c:i<yD x.bs)(j:yD x.bs<=1000000):af zZq G 0 (ae f18 0) (mA x z i) z3 (mA x z (i+1)):=by
 have h:=cE fN za c
 have g:=aq fN za c
 have e:=fO fN c ⟨[],[],[],[]⟩;have e:_=D.agg (Hg (dt x i)):=e;generalize dt x i=b at*;exact af.r a [.eb 47 (ah c),zD h,zD g,.eq 49 e,zC (gZ a f d.c),zC (gZ a f d.s),zC (gZ a f d.x),zC (gZ a f d.y),.eq 75 (bL (cI c za))]
def mB(x z:As)(i:aw):St:=lay 132 [(2,.aJ (Bm x)),(7,z0 0 0),(77,aQ Hg x.bs),(78,nat (yD x.bs)),(79,nat i)] [(0,Bm z)]
def mR:St:=lay 132 [(4,bool aj),(5,zT .nilIface)] []
def Eq4(t:aM)(a b:Pl):Prop:=aL t (s6 a.c b.c)=0/\aL t (s6 a.s b.s)=0/\aL t (s6 a.x b.x)=0/\aL t (s6 a.y b.y)=0
structure Cm4(δ:aw)(t:aM)(a b:Pl):Prop where
 c:apd δ t a.c b.c
 s:apd δ t a.s b.s
 x:apd δ t a.x b.x
 y:apd δ t a.y b.y
def auH(d:aa G)(r:dn δ x.t)(o:i<yD x.bs)(u:i<yD z.bs)(I:yD x.bs<=1000000)(c:Cm4 δ x.t (dt x i) (dt z i)):
  (af zZq G 0 (ae f18 2) (mB x z i) z3 (mB x z (i+1))/\Eq4 x.t (dt x i) (dt z i))\/
  (af zZq G 0 (ae f18 2) (mB x z i) .ret mR/\¬Eq4 x.t (dt x i) (dt z i)):=by
 have m:=cE fN za o
 have l:=aq fN za o
 have e:=fO fN o ⟨[],[],[],[]⟩;have e:_=D.agg (Hg (dt x i)):=e;have k:=cE fN za u
 have j:=aq fN za u
 have f:=fO fN u ⟨[],[],[],[]⟩;have f:_=D.agg (Hg (dt z i)):=f;generalize dt z i=b at*;generalize dt x i=a at*;unfold Eq4;have g:=atc d r c.c rfl;have p:=atc d r c.s rfl;have s:=atc d r c.x rfl;have B:=atc d r c.y rfl;generalize aL x.t (s6 a.c b.c)=H at g⊢;generalize aL x.t (s6 a.s b.s)=F at p⊢;generalize aL x.t (s6 a.x b.x)=E at s⊢;generalize aL x.t (s6 a.y b.y)=C at B⊢;have t0:=eqB (ah o);have q:∀{z:cA},z≠0->(z !=0)=bj:=λh=>by simpa using h
 by_cases A:H=0
 case neg=>exact z2 ⟨af.r d [.eq 80 t0,zD m,zD l,.eq 83 e,.er 85 (aQ Hg z.bs),.er 86 (nat i),zD k,zD j,.eq 88 f,zC g,.eb 127 (q A)],λh=>A h.1⟩
 subst A;by_cases y:F=0
 case neg=>exact z2 ⟨af.r d [.eq 80 t0,zD m,zD l,.eq 83 e,.er 85 (aQ Hg z.bs),.er 86 (nat i),zD k,zD j,.eq 88 f,zC g,zC p,.eb 127 (q y)],λh=>y h.2.1⟩
 subst y;by_cases w:E=0
 case neg=>exact z2 ⟨af.r d [.eq 80 t0,zD m,zD l,.eq 83 e,.er 85 (aQ Hg z.bs),.er 86 (nat i),zD k,zD j,.eq 88 f,zC g,zC p,zC s,.eb 127 (q w)],λh=>w h.2.2.1⟩
 subst w;by_cases v:C=0
 case neg=>exact z2 ⟨af.r d [.eq 80 t0,zD m,zD l,.eq 83 e,.er 85 (aQ Hg z.bs),.er 86 (nat i),zD k,zD j,.eq 88 f,zC g,zC p,zC s,zC B,.eb 127 (q v)],λh=>v h.2.2.2⟩
 subst v;exact z1 ⟨af.r d [.eq 80 t0,zD m,zD l,.eq 83 e,.er 85 (aQ Hg z.bs),.er 86 (nat i),zD k,zD j,.eq 88 f,zC g,zC p,zC s,zC B,.eq 131 (bL (cI o za))],rfl,rfl,rfl,rfl⟩
def atY(c:aa G){ps:ai Pse}(j:dn δ x.t)(m:∀i,akQ x.t (dt x i))(s:∀p∈ps,atA p)(q:yD x.bs=yD ps)(o:yD ps<=100)(cm:∀i<yD x.bs,Cm4 δ x.t (dt x i) (dt (asP ps) i)):
  ∃b,Spec zZq G 18 [qx x,aQ cPs ps] (.aP [bool b,zT .nilIface])/\((∀i<yD x.bs,Eq4 x.t (dt x i) (dt (asP ps) i))->b=bj):=by
 have e:(zNq (yD x.bs) !=zNq (yD ps))=aj:=by rw[q];simp
 have ck:=vA c j;have of:=auQ c o s;have la:=aI.z zZq G (ae f18 0) (yu 0) (mA x (asP ps) (yD x.bs)) (λi=>mA x (asP ps) i) (yD x.bs) (λi a=>auf c j (m i) a za)
  (af.r c [.eb 47 (c9 (apc (yD x.bs)))])
 have u:(asP ps).bs.length=yD ps:=apq ..;have st:=λi (a:i<yD x.bs)=>auH (z:=asP ps) c j a za za (cm i a)
 generalize asP ps=z at*;have key:(∀i<yD x.bs,af zZq G 0 (ae f18 2) (mB x z i) z3 (mB x z (i+1))/\True)\/∃k,k<yD x.bs/\(∀i<k,af zZq G 0 (ae f18 2) (mB x z i) z3 (mB x z (i+1)))/\af zZq G 0 (ae f18 2) (mB x z k) .ret mR/\¬Eq4 x.t (dt x k) (dt z k):=by
  rcases FT (S:=λi b=>if b=bj then af zZq G 0 (ae f18 2) (mB x z i) .ret mR/\¬Eq4 x.t (dt x i) (dt z i)else af zZq G 0 (ae f18 2) (mB x z i) z3 (mB x z (i+1))) (Q:=λ_=>True) (yD x.bs) (λi a=>by
   obtain h|h:=st i a
   ·exact⟨aj,h.1,λ_=>trivial⟩
   ·exact⟨bj,h,λ_=>trivial⟩)with h|⟨k,g,l,d⟩
  ·exact z1 λi a=>⟨(h i a).1,trivial⟩
  ·exact z2 ⟨k,g,l,d.1,d.2⟩
 obtain h|⟨k,g,l,d,r⟩:=key
 ·have f:=aI.z zZq G (ae f18 2) (yu 4) (mB x z (yD x.bs)) (λi=>mB x z i) (yD x.bs) (λi a=>(h i a).1)
   (af.r c [.eb 80 (c9 (apc (yD x.bs)))])
  exact⟨bj,Spec.r c func18 [2] [zC ck,zC of,.eb 41 e,.code la,.code f],λ_=>rfl⟩
 ·have f:=aI.z zZq G (ae f18 2) .ret mR (λi=>mB x z i) k l d
  exact⟨aj,Spec.r c func18 [2] [zC ck,zC of,.eb 41 e,.code la,.code f],λh=>api (h k g) r⟩
end
end Tw
end Lw

namespace Lw
namespace Tw
open Go Go.RowKit Go.Proofs
open fb
variable {G:bn->Prop}
def atq{r:Raw}{k:aw}(c:r.ok k)(d:r.valid=bj)(m:yD r.n+yD r.d<=4):iC 96 r.q:=by
 have f:r.ok 3:=by
  by_cases e:r.n=[]/\r.d=[]
  ·refine⟨c.1,c.2.1,?_,?_,by omega⟩
   ·rw[e.1];exact apJ _
   ·rw[e.2];exact apJ _
  ·unfold Raw.valid at d
   rw[ape e]at d;have g:=hJ d;have a:0<yD r.n:=aqd.2 g.1;have b:0<yD r.d:=aqd.2 g.2.1;exact⟨c.1,c.2.1,by omega,by omega,by omega⟩
 have w:∀{n:aw},(words n).length<=3->n<=2^96:=λ{n} h=>by
  have j:=mE (aU n);rw[aK]at j;have p:BP (words n).length<=BP 3:=ny h;have o:BP 3<=2^96:=zy
  omega
 have z:=f.sz;exact⟨w z.1,w z.2.1⟩
def as1(p:RPs):Pse:=⟨Em ⟨p.t,p.half⟩,p.x.q,p.y.q⟩
def aua{p:RPs}(h:as7 p):C' p=cPs (as1 p):=by
 unfold C';rw[H' (yK h.tn).1,H' h.x,H' h.y];rfl
def auL{p:RPs}(ok:p.Ok)(h:as7 p):PsB (as1 p):=by
 obtain⟨k1,t1,t2⟩:=ok.t;obtain⟨k2,b,d⟩:=ok.x;obtain⟨k3,a,c⟩:=ok.y;exact⟨atq t1 (yK h.tn).1 h.lt,(yK h.tn).2,atq b h.x h.lx,atq a h.y h.ly⟩
def zAs:ai D:=[zK 0 aj [],zK 0 aj [],zK 0 aj []]
section
variable {l:Lk} {xs:ai Tn} {ps:ai RPs} {i:aw}
def cMd(l:Lk)(xs:ai Tn)(r:D):ai D:=yJ l++[aQ Y9 xs,r]
def gmS(l:Lk)(xs:ai Tn)(r:D)(i:aw):St:=lay 77 [(1,.aJ (cMd l xs r)),(2,z0 0 0),(4,nat i)] [(0,zAs)]
variable (a:aa G) {d:Type}
def att(d:i<yD ps)(f:yD ps<=2000000){z:b5}(g:Spec zZq G 46 [z4 (C' (yI ps i bc))] (bool z)):
  (z=bj->af zZq G 0 (ae f16 0) (gmS l xs (aQ C' ps) i) z3 (gmS l xs (aQ C' ps) (i+1)))/\(z=aj->af zZq G 0 (ae f16 0) (gmS l xs (aQ C' ps) i) .ret (lay 77 [(2,z0 0 0),(3,bool aj)] [(0,zAs)])):=by
 have c:=cE atb za d
 have b:=aq atb za d
 have e:=fO atb d bc;generalize yI ps i bc=p at*;refine⟨λh=>?_,λh=>?_⟩
 ·subst h
  exact af.r a [.eb 32 (ah d),.er 36 (aQ C' ps),.er 37 (nat i),zD c,zD b,.eq 39 e,zC g,.eq 34 (bL (cI d za))]
 ·subst h
  exact af.r a [.eb 32 (ah d),.er 36 (aQ C' ps),.er 37 (nat i),zD c,zD b,.eq 39 e,zC g]
def ats(c:aa G)(D:Smd G l xs)(n:Spec zZq G 8 [lM l,aQ Y9 xs] (bool bj))(j:∀p∈ps,p.Ok)(B:∀p∈ps,p.Fin)(o:yD ps<=2000000){s:bF (ai Gp)}(sp:Spec zZq G 47 [lM l] (alc s)):
  Spec zZq G 16 [z4 (cMd l xs (aQ C' ps))] (.aP [z4 zAs,bool aj])\/
  ((∀p∈ps,as7 p)/\yD ps=yD l.bs/\(∃gs,s=a6 gs)/\∃z,Spec zZq G 16 [z4 (cMd l xs (aQ C' ps))] (.aP [qx (asP (ps.map as1)),bool z])/\(z=bj->auD l xs (asP (ps.map as1)))):=by
 by_cases g:yD ps=yD l.bs
 case neg=>exact z1 (Spec.r c func16 [1] [zC n,.eb 25 (neB g)])
 have F:=D.S.b6;rcases FT (S:=λi b=>Spec zZq G 46 [z4 (C' (yI ps i bc))] (bool (!b))) (Q:=λi=>as7 (yI ps i bc)) (yD ps) (λi d=>by
   have hm:=aA d (bc:RPs);obtain⟨z,u,f⟩:=atr c (j _ hm) (B _ hm);exact⟨!z,by cases z<;>exact u,λh=>f (by cases z<;>first|rfl|cases h)⟩)with h|⟨k,x,A,y⟩
 case inr=>
  have e:=aI.z zZq G (ae f16 0) .ret (lay 77 [(2,z0 0 0),(3,bool aj)] [(0,zAs)]) (λi=>gmS l xs (aQ C' ps) i) k (λi d=>(att c za o (A i d)).1 rfl) ((att c x o y).2 rfl)
  exact z1 (Spec.r c func16 [1] [zC n,.eb 25 (NJ g),.code e])
 have e:=aI.z zZq G (ae f16 0) (yu 0) (gmS l xs (aQ C' ps) (yD ps)) (λi=>gmS l xs (aQ C' ps) i) (yD ps) (λi d=>(att c d o (h i d).1).1 rfl)
  (af.r c [.eb 32 (c9 (apc (yD ps)))])
 have r:∀p∈ps,as7 p:=yi λi d=>(h i d).2
 have E:aQ C' ps=aQ cPs (ps.map as1):=yR λp m=>aua (r p m)
 cases s with
 |none=>
  have sp:Spec zZq G 47 [lM l] (.aP [zK 0 aj [],lY 7]):=sp;exact z1 (Spec.r c func16 [1] [zC n,.eb 25 (NJ g),.code e,zC sp])
 |some gs=>
  have sp:Spec zZq G 47 [lM l] (.aP [aQ kg gs,zT .nilIface]):=sp;have v:∀p∈ps.map as1,PsB p:=λp m=>by
   obtain⟨q,t,rfl⟩:=apN.1 m;exact auL (j q t) (r q t)
  have of:=auQ c (ps:=ps.map as1) (by rw[apq];omega) (λp m=>(v p m).ok)
  obtain⟨z,k,i,w,f⟩:=atx (a:=asP (ps.map as1)) c D.S D.ck T0 E0 (auE v) (by show((ps.map as1).map plP).length=_;rw[apq,apq];exact g)
  refine z2 ⟨r,g,⟨gs,rfl⟩,z,?_,f⟩;have C:(zNq (ps.map as1).length !=zNq (yD l.bs))=aj:=NJ (by rw[apq];exact g)
  generalize yD ps=len at e;rw[E]at e⊢;exact Spec.r c func16 [1] [zC n,.eb 25 C,.code e,zC sp,zC of,zC w]
def idH:pD cl cl:=⟨id,λ_ _=>rfl,λ_ _=>rfl,λ_ h=>h⟩
def auJ{t:aM}(ok:j7 t){a b:ai cl}(K:Sh (yD t) a)(c:Sh (yD t) b)[dH d](ι:pD cl d)(s:aw->d)(f:Model ι s t (yD t))(h:vl ι s t a=vl ι s t b):aL t (s6 a b)=0:=by
 have e:vl ι s t (s6 a b)=0:=by
  show lv ι s (yD t) (dV a (gD b))=0;rw[rD,uq];unfold vl at h;rw[h,zY.oq]
 show aL t (dV a (gD b))=0;rw[ku ι s ok.sh f (K.plus c.minus)];show dH.sg (vl ι s t (s6 a b))=0;rw[e,dH.iU]
def atC{qs:ai Pse}{i:aw}(a:i<yD qs):dt (asP qs) i=plP (yI qs i bc):=by
 unfold dt asP;show(qs.map plP).getD i ⟨[],[],[],[]⟩=_;rw[apf,aqz,apj a,apf,apj a];rfl
section
variable {gs:ai Gp} {nn ee up:aw->aw} {rr:b5} {qs:ai Pse}
def Hl.cm(c:Chn gs nn ee up rr){a:As}(w:Hl l xs gs nn ee (yD gs) a){p:Pse}(h:PsB p)(i:aw):Cm4 (ee (mS gs (yD gs))) a.t (dt a i) (plP p):=by
 obtain⟨-,E⟩:=c.tw (yD gs) (apc _) (yD a.t) w.tl;have t:=c.top (yD gs) (apc _);have b:=z5.mono (w.pl i) t;obtain⟨e,d,-⟩:=Tn.szs h.t;have k1:=gP.num b (a:=(dt a i).c) zb
 have k2:=gP.num b (a:=(dt a i).s) zb
 have k3:=gP.num b (a:=(dt a i).x) zb
 have k4:=gP.num b (a:=(dt a i).y) zb
 generalize up (mS gs (yD gs))=N at*;exact⟨zB E (m:=N+388) za (k1.mono za) ((e.num _).mono za),zB E (m:=N+388) za (k2.mono za) ((d.num _).mono za),zB E (m:=N+388) za (k3.mono za) ((h.x.num _).mono za),zB E (m:=N+388) za (k4.mono za) ((h.y.num _).mono za)⟩
def back_eq{x:As}(w:Hl l xs gs nn ee (yD gs) x)(o:yD qs=yD l.bs)(j:∀i<yD l.bs,(Gn l gs (yD gs)).known.getD i aj=bj){s:aw->cl}(m:MtS idH l gs (psA idH (λ_=>0) (asP qs)) (yD gs) x s)(i:aw)(p:i<yD x.bs):Eq4 x.t (dt x i) (dt (asP qs) i):=by
 have n:=w.lb;have mt:=m.bs i (j i za)
 obtain⟨g,f,d,c⟩:=mt;have a:=(w.pl i).shB;have v:∀{b:ai cl}{q:cl},Sh (yD x.t) b->vl idH s x.t b=vl idH (λ_=>0) [] (iq q)->aL x.t (s6 b (iq q))=0:=λk e=>auJ w.ok k (Sh.l7 _ _) idH s m.md (e.trans ((gV ..).trans (gV ..).symm))
 have h:i<yD qs:=za
 have g:vl idH s x.t (dt x i).c=vl idH (λ_=>0) [] (dt (asP qs) i).c:=g
 have f:vl idH s x.t (dt x i).s=vl idH (λ_=>0) [] (dt (asP qs) i).s:=f
 have d:vl idH s x.t (dt x i).x=vl idH (λ_=>0) [] (dt (asP qs) i).x:=d
 have c:vl idH s x.t (dt x i).y=vl idH (λ_=>0) [] (dt (asP qs) i).y:=c
 rw[atC h]at g f d c⊢;exact⟨v a.c g,v a.s f,v a.x d,v a.y c⟩
def wfS(l:Lk)(xs:ai Tn)(qs:ai Pse)(o:ai As)(i:aw):St:=lay 51 [(1,.aJ (cMd l xs (aQ cPs qs))),(5,aQ Bm o),(7,nat i)] []
def atZ{o:ai As}{i:aw}(f:i<yD o)(g:yD o<=1000){b:b5}(m:Spec zZq G 18 [qx (yI o i ⟨[],[],[]⟩),aQ cPs qs] (.aP [bool b,zT .nilIface])):
  (b=aj->af zZq G 0 (ae Tryz.f5 0) (wfS l xs qs o i) z3 (wfS l xs qs o (i+1)))/\(b=bj->af zZq G 0 (ae Tryz.f5 0) (wfS l xs qs o i) .ret (lay 51 [(2,bool bj)] [])):=by
 have d:=cE vu za f
 have c:=aq vu za f
 have e:=fO vu f ⟨[],[],[]⟩;generalize yI o i ⟨[],[],[]⟩=x at*;refine⟨λh=>?_,λh=>?_⟩
 ·subst h
  exact af.r a [.eb 35 (ah f),.er 40 (nat i),zD d,zD c,.eq 42 e,.er 44 (aQ cPs qs),zC m,.eq 37 (bL (cI f za))]
 ·subst h
  exact af.r a [.eb 35 (ah f),.er 40 (nat i),zD d,zD c,.eq 42 e,.er 44 (aQ cPs qs),zC m]
end
end
variable (a:aa G)
def auM:Spec zZq G 17 [lY 15,zK 1 aj [int 15]] (bool bj):=
 Spec.r a func17 [] [zC (auK a 15 15)]
def auv(d:aa G)(I:Spec zZq G 7 [] (bool bj)){l:pB}{xs:ai zZ}{ps:ai RPs}(ok:l.Ok)(Y:∀x∈xs,x.Ok)(rf:∀b∈l.bs,∀m∈b.aC,w9 m.x/\w9 m.y)(rx:∀x∈xs,w9 x.t)(B:∀p∈ps,p.Ok)(fp:∀p∈ps,p.Fin)(K:yD ps<=2000000):
  Spec zZq G 5 [z4 (uI l++[aQ oU xs,aQ C' ps])] (bool bj):=by
 obtain⟨z,L,hz⟩:=aeW d ok Y rf rx;cases z with
 |false=>
  have v:Spec zZq G 16 [z4 (uI l++[aQ oU xs,aQ C' ps])] (.aP [z4 zAs,bool aj]):=Spec.r d func16 [1] [zC L];exact Spec.r d func5 [1] [zC I,zC v]
 |true=>
  obtain⟨D,W,V⟩:=(hz rfl).smd d ok Y;rw[W,V]at L;have e0:uI l=yJ (jA l):=Lw.D.agg.inj W;rw[e0,V];generalize jA l=l at*;generalize xs.map Em=xs at*;show Spec _ _ _ [z4 (cMd l xs (aQ C' ps))] _;obtain⟨t,-,ok,P,e,sp⟩:=D.split d;obtain v|⟨T,hl,⟨gs,es⟩,z,v,hv⟩:=ats d D L B fp K sp
  ·exact Spec.r d func5 [1] [zC I,zC v]
  cases z with
  |false=>exact Spec.r d func5 [1] [zC I,zC v]
  |true=>
   have A:=hv rfl;have e3:aQ C' ps=aQ cPs (ps.map as1):=yR λp C=>aua (T p C)
   have R:∀p∈ps.map as1,PsB p:=λp C=>by
    obtain⟨q,g,rfl⟩:=apN.1 C;exact auL (B q g) (T q g)
   have g:(ps.map as1).length=yD l.bs:=by rw[apq];exact hl
   rw[e3]at v⊢;generalize ps.map as1=qs at*;unfold aeR at es sp;split at es
   ·cases es
   ·rename_i K
    rw[ape K]at sp;have sp:Spec zZq G 47 [lM l] (.aP [aQ kg t.gs,zT .nilIface]):=sp;have O:t.known.contains aj≠bj:=λh=>K (z1 h)
    obtain⟨nn,ee,up,rr,c⟩:=adt D.S.ok P D.S.j8 D.S.d2;obtain⟨J,N,F⟩:=Ma d c D.S P D.ht sp D.ck;have hk:∀i<yD l.bs,(Gn l t.gs (yD t.gs)).known.getD i aj=bj:=λi n=>by rw[<-e];exact auB O (by rw[ok.k];exact n)
    have b6:=D.S.b6;have M:Model idH (λ_=>0) (asP qs).t (asP qs).t.length:=⟨λj y=>by simp[asP]at y,λj y=>by simp[asP]at y⟩
    have H:=A.pos idH (λ_=>0) D.S T0 (auE R) (by show(qs.map plP).length=_;rw[apq];exact g) M
    have X:=aum idH d c D.S P H sp D.ck;generalize YA l xs t.gs=r at J N F X;obtain⟨o,b⟩:=r;cases b with
    |false=>exact Spec.r d func5 [1] [zC I,zC v,zC J,zC (auM d)]
    |true=>
     have N:yD o<=100:=N;have Fq:∀x∈o,Hl l xs t.gs nn ee (yD t.gs) x:=F.q;obtain⟨x,hx,w,s,m⟩:=X rfl;have J:Spec zZq G 9 [lM l,aQ Y9 xs] (.aP [aQ Bm o,zT .nilIface]):=J;rcases FT (S:=λi b=>Spec zZq G 18 [qx (yI o i ⟨[],[],[]⟩),aQ cPs qs] (.aP [bool b,zT .nilIface])) (Q:=λi=>¬∀j,j<(yI o i ⟨[],[],[]⟩).bs.length->Eq4 (yI o i ⟨[],[],[]⟩).t (dt (yI o i ⟨[],[],[]⟩) j) (dt (asP qs) j)) (yD o) (λi n=>by
      have w:=Fq _ (aA n ⟨[],[],[]⟩);generalize yI o i ⟨[],[],[]⟩=a at w⊢;have Z:=w.tow c;obtain⟨-,E⟩:=c.tw (yD t.gs) (apc _) (yD a.t) w.tl;have pk:=λj=>z5.mono (w.pl j) (c.top (yD t.gs) (apc _))
      have hN:up (mS t.gs (yD t.gs))<=NB:=by have:=z8;have:=E.2.2;omega
      obtain⟨b,u,f⟩:=atY d Z (λj=>(pk j).ok (by have:=E.1;omega)) (λp C=>(R p C).ok) (by rw[w.lb,g]) za (λj y=>by
       rw[atC (by rw[g,<-w.lb];exact y)]
       exact w.cm c (R _ (aA (by rw[g,<-w.lb];exact y) bc)) j)
      exact⟨b,u,λU h=>by rw[f h]at U;cases U⟩)with h|⟨k,h0,h1,h2⟩
     ·exfalso
      obtain⟨i,n,e⟩:=apF.1 hx;have ei:yI o i ⟨[],[],[]⟩=x:=by rw[apf,apj n];exact e
      refine(h i n).2 ?_;rw[ei];exact back_eq w g hk m
     ·have lp:=aI.z zZq G (ae Tryz.f5 0) .ret (lay 51 [(2,bool bj)] []) (λi=>wfS l xs qs o i) k (λi n=>(atZ d za za (h1 i n)).1 rfl) ((atZ d h0 za h2).2 rfl)
      exact Spec.r d func5 [1] [zC I,zC v,zC J,.code lp]
end Tw
section
open Go Go.RowKit Go.Proofs Go.ChangeShapes Go.WideShapes Go.ChangeAt Tw
variable {H:Type} {enc:c5×b3->H} {W:bn} {fuel:aw} {cs:ai b3} {x:qm H×ai oA}
def PsK(m:RPs)(b:aw):Prop:=A6 m.t b/\A6 m.x b/\A6 m.y b
def PsK.mono(m:RPs)(a b:aw)(h:PsK m a)(c:a<=b):PsK m b:=⟨A6.mono _ _ _ h.1 c,A6.mono _ _ _ h.2.1 c,A6.mono _ _ _ h.2.2 c⟩
variable {k:RPs}
def PsK.ok{b:aw}(h:PsK k b)(a:b<=1048576):k.Ok:=⟨Uz h.1 a,Uz h.2.1 a,Uz h.2.2 a⟩
def PsK.fin{b:aw}(h:PsK k b)(a:b<=1048576):k.Fin:=⟨GW h.1 a,GW h.2.1 a,GW h.2.2 a⟩
def ata:Tryz.prog.cellsOf 118=10:=zc
def ath:Tryz.prog.cellsOf 116=6:=zc
def atl:Tryz.prog.cellsOf 27=1:=zc
def atm:Tryz.prog.cellsOf 57=1:=zc
def atw:Tryz.prog.cellsOf 59=6:=zc
def aud(h:dO enc zZq W 0 (λ_=>bj) bj fuel 116 cs=a6 x):∃r q:Raw,A6 r (kK x.1)/\A6 q (kK x.1)/\aR W JR cs (qO r++qO q):=by
 obtain⟨a,n,-,I,g,u,f⟩:=kq Tryz.underlying116 h;rw[ath]at g;obtain⟨b,c,rfl,w,J⟩:=cut cs 3 3 g;obtain⟨G,F,E,rfl⟩:=three w;obtain⟨c0,D,C,rfl⟩:=three J;have K:yD a=2:=u;obtain⟨o,k⟩:=gq (l:=a) (i:=0) za
 obtain⟨m,j⟩:=gq (l:=a) (i:=1) za
 have f1:=cC f 0 _ rfl (t:=51) (off:=0) rfl rfl AN;have f2:=cC f 1 _ rfl (t:=51) (off:=3) rfl rfl AN;rw[k]at f1;rw[j]at f2;have f1:dO enc zZq W 0 (λ_=>bj) bj n 51 [G,F,E]=a6 o:=f1
 have f2:dO enc zZq W 0 (λ_=>bj) bj n 51 [c0,D,C]=a6 m:=f2
 obtain⟨s,B,z⟩:=Al f1;obtain⟨p,A,y⟩:=Al f2;have e:=oE k;have d:=oE j;have v:x.1=vq (a.map (·.1)):=aql (·.1) I;rw[<-v]at e d;exact⟨s,p,A6.mono _ _ _ B e,A6.mono _ _ _ A d,aR.append z y⟩
def atM(h:dO enc zZq W 0 (λ_=>bj) bj fuel 118 cs=a6 x):∃m:RPs,PsK m (kK x.1)/\aR W JR cs (C' m):=by
 obtain⟨b,n,-,N,f,s,e⟩:=kq Tryz.underlying118 h;rw[ata]at f;obtain⟨a,r,rfl,y,v⟩:=cut cs 4 6 f;obtain⟨a0,a1,M,L,rfl⟩:=four y;obtain⟨K,J,I,G,F,E,rfl⟩:=six v;have O:yD b=2:=s;obtain⟨o,j⟩:=gq (l:=b) (i:=0) za
 obtain⟨k,g⟩:=gq (l:=b) (i:=1) za
 have f0:=cC e 0 _ rfl (t:=87) (off:=0) rfl rfl Jo;have f1:=cC e 1 _ rfl (t:=116) (off:=4) rfl rfl ath;rw[j]at f0;rw[g]at f1;have f0:dO enc zZq W 0 (λ_=>bj) bj n 87 [a0,a1,M,L]=a6 o:=f0
 have f1:dO enc zZq W 0 (λ_=>bj) bj n 116 [K,J,I,G,F,E]=a6 k:=f1
 obtain⟨u,D,A⟩:=WS f0;obtain⟨q,p,C,B,z⟩:=aud f1;have d:=oE j;have c:=oE g;have w:x.1=vq (b.map (·.1)):=aql (·.1) N;rw[<-w]at d c;exact⟨⟨u.t,u.half,q,p⟩,⟨A6.mono _ _ _ D d,A6.mono _ _ _ C c,A6.mono _ _ _ B c⟩,by have h:=aR.append A z;exact h⟩
def atN(h:dO enc zZq W 0 (λ_=>bj) bj fuel 59 cs=a6 x):∃(l:pB)(xs:ai zZ)(ps:ai RPs),YL l (kK x.1)/\(∀m∈xs,TnB m (kK x.1))/\(∀m∈ps,PsK m (kK x.1))/\yD ps<=kK x.1/\aR W JR cs (uI l++[aQ oU xs,aQ C' ps]):=by
 obtain⟨xs,n,-,O,o,z,g⟩:=kq Tryz.underlying59 h;rw[atw]at o;obtain⟨a,r,rfl,D,A⟩:=cut cs 4 2 o;obtain⟨a0,a1,N,M,rfl⟩:=four D;obtain⟨b,c,rfl,C,P⟩:=cut r 1 1 A;obtain⟨L,rfl⟩:=ap_.1 C;obtain⟨c0,rfl⟩:=ap_.1 P;have Q:yD xs=3:=z;obtain⟨w,s⟩:=gq (l:=xs) (i:=0) za
 obtain⟨v,q⟩:=gq (l:=xs) (i:=1) za
 obtain⟨u,p⟩:=gq (l:=xs) (i:=2) za
 have f0:=cC g 0 _ rfl (t:=26) (off:=0) rfl rfl adv;have f1:=cC g 1 _ rfl (t:=27) (off:=4) rfl rfl atl;have f2:=cC g 2 _ rfl (t:=57) (off:=5) rfl rfl atm;rw[s]at f0;rw[q]at f1;rw[p]at f2;have f0:dO enc zZq W 0 (λ_=>bj) bj n 26 [a0,a1,N,M]=a6 w:=f0
 have f1:dO enc zZq W 0 (λ_=>bj) bj n 27 [L]=a6 v:=f1
 have f2:dO enc zZq W 0 (λ_=>bj) bj n 57 [c0]=a6 u:=f2
 obtain⟨l,K,G⟩:=afG f0;obtain⟨y,J,-,F⟩:=Sk f1;obtain⟨ps,I,k2,E⟩:=ue (f:=C') (ok:=PsK) PsK.mono Tryz.underlying57 ata za atM f2
 have k:=oE s;have j:=oE q;have d:=oE p;have B:x.1=vq (xs.map (·.1)):=aql (·.1) O;rw[<-B]at k j d;exact⟨l,y,ps,K.mono k,λm e=>TnB.mono _ _ _ (J m e) j,λm e=>PsK.mono _ _ _ (I m e) d,apm k2 d,aR.append G (aR.append F E)⟩
set_option maxRecDepth 100000 in
def auG{r:Reach}{n:aw}{v:b3}{d:qm H}{ps:ai oA}(o:Value.okWide zZq W r n 59 v)(h:v8 enc zZq W 0 (λ_=>bj) bj 59 v d ps):
  ∃(l:pB)(xs:ai zZ)(ps:ai RPs),YL l (kK d)/\(∀m∈xs,TnB m (kK d))/\(∀m∈ps,PsK m (kK d))/\ps.length<=kK d/\b9 W JR v (.agg (uI l++[aQ oU xs,aQ C' ps])):=by
 obtain⟨f,c⟩:=h;obtain⟨l,xs,ps,k,j,i,g,b⟩:=atN c;obtain⟨a,rfl,-⟩:=okWide_struct Tryz.underlying59 o;have e:a=a.toList.toArray:=zb
 exact⟨l,xs,ps,k,j,i,g,by rw[e];exact .agg a.toList _ b.1 b.2⟩
end
namespace Fb
open Go Go.RowKit Go.Proofs
open Gr Tw
variable {G:bn->Prop}
def roW:c7->ai aw:=λf=>if f=148 then [999]else if f=190 then [999]else if f=174 then [18,22]else if f=82 then [11]else if f=207 then [1009]else if f=315 then [1003,30]else if f=195 then [1003,27]else if f=201 then [34,1015010]else if f=191 then [999]else if f=247 then [999]else if f=301 then [999]else if f=85 then [3,4,5]else if f=153 then [997]else if f=146 then [997]else if f=34 then [999,41]else if f=35 then [999,2013010]else if f=39 then [3,4,5]else []
def nl:D:=zK 0 aj []
def aa4:D:=zK 1 aj [bool aj,ak [1],ak [1]]
def xt:D:=z4 [bool aj,ak [1],ak [1],bool aj]
def a0:D:=z4 [nl,zK 4 aj [aa4,nl,nl,nl,nl,nl,nl,nl,nl,nl,nl,nl,nl,nl,nl,nl],nl]
def x0:D:=z4 [bool aj,nl,nl,bool aj]
def a1:D:=z4 [nl,zK 4 aj [aa4,nl,nl,nl,nl,aa4,nl,nl,nl,nl,nl,nl,nl,nl,nl,nl],zK 1 aj [nat 1]]
def tw0:D:=z4 [nl]
def num(n:aw):D:=zK 1 aj [bool aj,ak [n],ak [1]]
def ca:D:=z4 [nl,aa4,num 9]
def cb:D:=z4 [num 4,nl,num 9]
def ahQ:D:=.aP [z4 [zK 1 aj [zK 1 aj [bool aj,zK 1 aj [u32 323],zK 1 aj [u32 1]]],zK 2 aj [zK 2 aj [bool aj,zK 1 aj [u32 2],zK 1 aj [u32 1],bool aj,zK 1 aj [u32 1],zK 1 aj [u32 34]],zK 2 aj [bool aj,zK 1 aj [u32 1],zK 1 aj [u32 2],bool aj,zK 1 aj [u32 2],zK 1 aj [u32 17]],zK 2 aj [bool aj,zK 1 aj [u32 2],zK 1 aj [u32 1],bool bj,zK 1 aj [u32 1],zK 1 aj [u32 34]],zK 2 aj [bool aj,zK 1 aj [u32 1],zK 1 aj [u32 2],bool bj,zK 1 aj [u32 2],zK 1 aj [u32 17]]]],zT .nilIface]
def anX:D:=match ahQ with|.aP (m::_)=>m|_=>.any
def q0L:ai D:=[bool aj,nl,nl]
def qL(n:aw):ai D:=[bool aj,ak [n],ak [1]]
def amH:ai D:=q0L++q0L++[nl,aa4]++qL 3++q0L
def amG:ai D:=q0L++q0L++[num 4,nl]++qL 3++q0L
def UB:D:=.aP [zK 2 aj [zK 1 aj [zK 1 aj [bool aj,zK 1 aj [u32 323],zK 1 aj [u32 1]]],zK 2 aj [zK 2 aj [bool aj,zK 1 aj [u32 2],zK 1 aj [u32 3],bool aj,zK 1 aj [u32 1],zK 1 aj [u32 102]],zK 2 aj [bool bj,zK 1 aj [u32 1],zK 1 aj [u32 6],bool aj,zK 1 aj [u32 2],zK 1 aj [u32 51]],zK 0 aj [],zK 1 aj [bool aj,zK 1 aj [u32 1],zK 1 aj [u32 1]],zK 2 aj [bool bj,zK 1 aj [u32 2],zK 1 aj [u32 3],bool aj,zK 1 aj [u32 1],zK 1 aj [u32 102]],zK 2 aj [bool aj,zK 1 aj [u32 1],zK 1 aj [u32 6],bool aj,zK 1 aj [u32 2],zK 1 aj [u32 51]],zK 1 aj [bool aj,zK 1 aj [u32 4],zK 1 aj [u32 1]],zK 0 aj []],nat 1,zK 1 aj [zK 1 aj [bool aj,zK 1 aj [u32 323],zK 1 aj [u32 1]]],zK 2 aj [zK 2 aj [bool aj,zK 1 aj [u32 2],zK 1 aj [u32 3],bool bj,zK 1 aj [u32 1],zK 1 aj [u32 102]],zK 2 aj [bool bj,zK 1 aj [u32 1],zK 1 aj [u32 6],bool bj,zK 1 aj [u32 2],zK 1 aj [u32 51]],zK 0 aj [],zK 1 aj [bool aj,zK 1 aj [u32 1],zK 1 aj [u32 1]],zK 2 aj [bool bj,zK 1 aj [u32 2],zK 1 aj [u32 3],bool bj,zK 1 aj [u32 1],zK 1 aj [u32 102]],zK 2 aj [bool aj,zK 1 aj [u32 1],zK 1 aj [u32 6],bool bj,zK 1 aj [u32 2],zK 1 aj [u32 51]],zK 1 aj [bool aj,zK 1 aj [u32 4],zK 1 aj [u32 1]],zK 0 aj []],int (-1)],zT .nilIface]
def eB(a:aa G):ai (Ent zZq G):=[⟨_,_,_,ZH a⟩,⟨_,_,_,QP a⟩]
variable (a:aa G)
def Yd:Spec zZq G 199 [tw0,ca,cb] ahQ:=
 Spec.ke a (oV a (eB a) [] roW) func199 (ro:=roW 199) (m:=60) []
def Pc:Spec zZq G 201 [anX,zK 2 aj (amH++amG)] UB:=
 Spec.ke a (oV a (eB a) [] roW) func201 (ro:=roW 201) (m:=60) []
def opC:ai D:=(match lk with|z4 l=>l|_=>[])++g1c++(match a1 with|z4 l=>l|_=>[])++[zT .nilIface]
def opR:D:=.aP [z0 10 0,zT .nilIface]
def opB:ai (bF (ai D)):=cd 10 bk++[a6 opC]
def aa1:kh zZq G f148 0 [lk,nat 1,a1,bool aj] [] [] opR opB []:=
 kh.abb a (oV a (eB a) [] roW) (roW 148) 100 zc
def Wk(a:aa G):Spec zZq G 83 [lk,nat 1,x0,a1] UB:=
 Spec.ke a (oV a (⟨_,_,_,Pc a⟩::⟨_,_,_,Yd a⟩::eB a) [] roW (λ_=>aj) [YO.of func148 (aa1 a)]) func83 (ro:=[]) (m:=100) []
def anA:D:=.aP [zK 1 aj [zK 0 aj [],zK 1 aj [zK 0 aj [],zK 1 aj [bool aj,zK 1 aj [u32 1],zK 1 aj [u32 1]],zK 0 aj [],zK 0 aj []],nat 1],zT .nilIface]
def xs1:D:=zK 1 aj [bool aj,ak [1],ak [1],bool aj]
def a2b:D:=z4 [zK 1 aj [zK 1 aj [bool aj,zK 1 aj [u32 323],zK 1 aj [u32 1]]],zK 4 aj [zK 1 aj [bool aj,zK 1 aj [u32 1],zK 1 aj [u32 1]],zK 0 aj [],zK 0 aj [],zK 0 aj [],zK 0 aj [],zK 1 aj [bool aj,zK 1 aj [u32 1],zK 1 aj [u32 1]],zK 0 aj [],zK 0 aj [],zK 2 aj [bool aj,zK 1 aj [u32 2],zK 1 aj [u32 3],bool bj,zK 1 aj [u32 1],zK 1 aj [u32 102]],zK 2 aj [bool bj,zK 1 aj [u32 1],zK 1 aj [u32 6],bool bj,zK 1 aj [u32 2],zK 1 aj [u32 51]],zK 0 aj [],zK 1 aj [bool aj,zK 1 aj [u32 1],zK 1 aj [u32 1]],zK 2 aj [bool bj,zK 1 aj [u32 2],zK 1 aj [u32 3],bool bj,zK 1 aj [u32 1],zK 1 aj [u32 102]],zK 2 aj [bool aj,zK 1 aj [u32 1],zK 1 aj [u32 6],bool bj,zK 1 aj [u32 2],zK 1 aj [u32 51]],zK 1 aj [bool aj,zK 1 aj [u32 4],zK 1 aj [u32 1]],zK 0 aj []],zK 2 aj [nat 1,int (-1)]]
def roV:c7->ai aw:=λf=>if f=195 then []else roW f
def Wl:Spec zZq G 83 [lk,nat 0,xt,a0] anA:=
 Spec.ke a (oV a (eB a) [] roV) func83 (ro:=[]) (m:=100) []
def ani:D:=.aP [bool bj,z4 [nat 0,nat 0],zT .nilIface]
def Zo:Spec zZq G 11 [lk,xs1,a2b] ani:=
 Spec.ke a (oV a (eB a) [] roW) func11 (ro:=[]) (m:=100) []
def ao6:D:=.aP [zK 2 aj [zK 1 aj [zK 1 aj [bool aj,zK 1 aj [u32 323],zK 1 aj [u32 1]]],zK 4 aj [zK 1 aj [bool aj,zK 1 aj [u32 1],zK 1 aj [u32 1]],zK 0 aj [],zK 0 aj [],zK 0 aj [],zK 0 aj [],zK 1 aj [bool aj,zK 1 aj [u32 1],zK 1 aj [u32 1]],zK 0 aj [],zK 0 aj [],zK 2 aj [bool aj,zK 1 aj [u32 2],zK 1 aj [u32 3],bool aj,zK 1 aj [u32 1],zK 1 aj [u32 102]],zK 2 aj [bool bj,zK 1 aj [u32 1],zK 1 aj [u32 6],bool aj,zK 1 aj [u32 2],zK 1 aj [u32 51]],zK 0 aj [],zK 1 aj [bool aj,zK 1 aj [u32 1],zK 1 aj [u32 1]],zK 2 aj [bool bj,zK 1 aj [u32 2],zK 1 aj [u32 3],bool aj,zK 1 aj [u32 1],zK 1 aj [u32 102]],zK 2 aj [bool aj,zK 1 aj [u32 1],zK 1 aj [u32 6],bool aj,zK 1 aj [u32 2],zK 1 aj [u32 51]],zK 1 aj [bool aj,zK 1 aj [u32 4],zK 1 aj [u32 1]],zK 0 aj []],zK 2 aj [nat 1,nat 1],zK 1 aj [zK 1 aj [bool aj,zK 1 aj [u32 323],zK 1 aj [u32 1]]],zK 4 aj [zK 1 aj [bool aj,zK 1 aj [u32 1],zK 1 aj [u32 1]],zK 0 aj [],zK 0 aj [],zK 0 aj [],zK 0 aj [],zK 1 aj [bool aj,zK 1 aj [u32 1],zK 1 aj [u32 1]],zK 0 aj [],zK 0 aj [],zK 2 aj [bool aj,zK 1 aj [u32 2],zK 1 aj [u32 3],bool bj,zK 1 aj [u32 1],zK 1 aj [u32 102]],zK 2 aj [bool bj,zK 1 aj [u32 1],zK 1 aj [u32 6],bool bj,zK 1 aj [u32 2],zK 1 aj [u32 51]],zK 0 aj [],zK 1 aj [bool aj,zK 1 aj [u32 1],zK 1 aj [u32 1]],zK 2 aj [bool bj,zK 1 aj [u32 2],zK 1 aj [u32 3],bool bj,zK 1 aj [u32 1],zK 1 aj [u32 102]],zK 2 aj [bool aj,zK 1 aj [u32 1],zK 1 aj [u32 6],bool bj,zK 1 aj [u32 2],zK 1 aj [u32 51]],zK 1 aj [bool aj,zK 1 aj [u32 4],zK 1 aj [u32 1]],zK 0 aj []],zK 2 aj [nat 1,int (-1)]],zT .nilIface]
def adS(a:aa G):Spec zZq G 9 [lk,xs1] ao6:=
 Spec.ke a (oV a (⟨_,_,_,DV a⟩::⟨_,_,_,Wl a⟩::⟨_,_,_,Wk a⟩::eB a) [] roW) func9 (ro:=[]) (m:=150) []
def N_(a:aa G):Spec zZq G 7 [] (bool bj):=
 Spec.ke a (oV a [⟨_,_,_,Xe a⟩,⟨_,_,_,adS a⟩,⟨_,_,_,Zo a⟩] [] roW) func7 (ro:=[]) (m:=60) []
end Fb
end Lw
