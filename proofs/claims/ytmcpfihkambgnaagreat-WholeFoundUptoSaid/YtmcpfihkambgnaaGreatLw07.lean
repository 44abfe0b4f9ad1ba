/- Part 7. -/
import Derived.Test.YtmcpfihkambgnaaGreatLw06
import Derived.Test.YtmcpfihkambgnaaGreatRows
set_option maxHeartbeats 2000000
set_option linter.all false
open Option renaming some->a6,none->bk,bind_some->u0
open _root_ renaming List->ai,Nat->aw,Bool->b5,Option->bF,beq_eq_false_iff_ne->c4,Int->cA,ByteArray->cB,Rat->cl,decide_eq_true_eq->cm,bne_iff_ne->kE,Inhabited->ka,forall_eq_or_imp->uy
open Bool renaming false->aj,true->bj,and_eq_true->dT,not_eq_true->nv
open Go renaming Value->b3,World->bn,TypeId->c5,FuncId->c7,Program->cp,callsIn_wide->n2,MemPlace->oA,DataW->qm,wpIn_loop_ghost->rX,Calls->vx
open List renaming mem_cons->b4,not_mem_nil->bI,replicate->cd,range->ch,length_cons->ey,map_nil->fB,length_nil->fl,getD_cons_succ->iz,length_append->j3,foldl_cons->lr,foldl_nil->su,filter_cons->vk,length->yD,getD->yI
open Go.IntKind renaming wrap->bJ
open Inhabited renaming default->bc
open Nat renaming blt->c3,ble->hM,log2->kG,dvd_of_mod_eq_zero->vy
open Go.DataW renaming trod->dO,trod_struct->kq,agg->vq
open Option.some renaming injEq->eE
open List.cons renaming injEq->en
open Go.Builtin renaming len_->sl
open Go.Proofs.Tryz renaming underlying49->tc,underlying4->uM
open Int renaming subNatNat->ux
open Lw.Item renaming call->zC,prop->zD
open Lw.D renaming row->zK,lit->zT,ptr->z0,agg->z4
open Or renaming inl->z1,inr->z2
open Lw.iw renaming normal->z3,exit->yu
open Int renaming ofNat->zNq
open Go.Proofs.Tryz renaming prog->zZq
open Go.Proofs.Tryz
open Option renaming some.injEq->zIq
open Bool renaming and_eq_true->zLq
namespace Lw
namespace Tw
open Go Go.RowKit Go.Proofs
variable {G:bn->Prop}
def vi(i:cA)(n:aw):b5:=decide (i>=0)&&decide (i<zNq n)
variable (a:aa G)
def pM(i:cA)(n:aw):Spec zZq G 140 [int i,nat n] (bool (vi i n)):=by unfold vi;by_cases c:i>=0;by_cases b:i<zNq n;rw[apE c,apE b];exact Spec.r a func140 [] [.eb 6 (apE c),.eb 10 (apE b)];rw[apE c,apG b];exact Spec.r a func140 [] [.eb 6 (apE c),.eb 10 (apG b)];rw[apG c];exact Spec.r a func140 [] [.eb 6 (apG c)]
def L9(r:aw->b5)(k:aw):((ch k).any r=aj/\∀j<k,r j=aj)\/((ch k).any r=bj/\∃j,j<k/\r j=bj/\∀i<j,r i=aj):=by
 rcases dg (λj=>if r j=bj then 1 else 0) k with⟨-,h⟩|⟨i,e,d,-,g⟩
 have f:∀j<k,r j=aj:=λj a=>by have:=h j a;split at this;cases this;rename_i b;simpa using b
 refine z1 ⟨?_,f⟩;rw[arS];intro j a;rw[f j (arb.1 a)];simp;have c:r i=bj:=by split at d;assumption;exact api rfl d
 refine z2 ⟨?_,i,e,c,λj a=>?_⟩;rw[arj];exact⟨i,arb.2 e,c⟩;have:=g j a;split at this;cases this;rename_i b;simpa using b
def sS(ds:ai VQ)(i j:aw):b5:=(yI ds j bc).body==(yI ds i bc).body
def Rf(l:pB)(i:aw):aw:=
 if n7 (yI l.ds i bc).nm=aj then 5
 else if E8 (l.ds.map VQ.nm) i=bj then 6
 else if vi (yI l.ds i bc).body (yD l.bs)=aj then 9
 else if(yI l.ds i bc).body=0 then 7
 else if(ch i).any (sS l.ds i)=bj then 6 else 0
section
variable {l:pB} {i j:aw}
def drS(l:pB)(i j:aw):St:=lay 55 [(1,nat i),(2,.aJ (uI l)),(5,z0 0 0),(6,nat j)] [(0,A3 (yI l.ds i bc))]
def drT(l:pB)(i j:aw):St:=lay 55 [(1,nat i),(2,.aJ (uI l)),(5,z0 0 0),(7,nat j)] [(0,A3 (yI l.ds i bc))]
def drR(n:aw):St:=lay 55 [(4,nat n)] []
def Qx(h:j<yD l.ds):((0:cA)<=zNq j/\zNq j<(yD l.ds:cA))/\(zNq j).toNat*2<(l.ds.flatMap A3).length:=cE fZ za h
def Qz(d:j<i)(f:i<yD l.ds)(g:yD l.ds<=1000)(h:gr (yI l.ds j bc).nm (yI l.ds i bc).nm=aj):
  af zZq G 0 (ae f77 0) (drS l i j) z3 (drS l i (j+1)):=by
 have c:=Qx (l:=l) (j:=j) za
 have b:=bA fZ (i:=j) (l:=l.ds) za 0 za
 have e:=j5 fZ (i:=j) (l:=l.ds) za bc 0 za
 exact af.r a [.eb 19 (ah d),.er 24 (nat j),zD c,zD b,.eq 27 e,.eq 30 (oC h),.eq 21 (bL (cI d za))]
def ake:af zZq G 0 (ae f77 0) (drS l i i) (yu 0) (drS l i i):=
 af.r a [.eb 19 (c9 (apc i))]
def akf(c:j<i)(f:i<yD l.ds)(h:gr (yI l.ds j bc).nm (yI l.ds i bc).nm=bj):
  af zZq G 0 (ae f77 0) (drS l i j) .ret (drR 6):=by
 have b:=Qx (l:=l) (j:=j) za;have d:=bA fZ (i:=j) (l:=l.ds) za 0 za;have e:=j5 fZ (i:=j) (l:=l.ds) za bc 0 za;exact af.r a [.eb 19 (ah c),.er 24 (nat j),zD b,zD d,.eq 27 e,.eq 30 (oC h)]
def QE(d:j<i)(f:i<yD l.ds)(g:yD l.ds<=1000)(h:sS l.ds i j=aj):
  af zZq G 0 (ae f77 1) (drT l i j) z3 (drT l i (j+1)):=by
 have c:=Qx (l:=l) (j:=j) za
 have b:=bA fZ (i:=j) (l:=l.ds) za 1 za
 have e:=j5 fZ (i:=j) (l:=l.ds) za bc 1 za
 exact af.r a [.eb 43 (ah d),.er 48 (nat j),zD c,zD b,.eq 51 e,.eb 54 h,.eq 45 (bL (cI d za))]
def akg:af zZq G 0 (ae f77 1) (drT l i i) (yu 2) (drT l i i):=
 af.r a [.eb 43 (c9 (apc i))]
def akh(c:j<i)(f:i<yD l.ds)(h:sS l.ds i j=bj):
  af zZq G 0 (ae f77 1) (drT l i j) .ret (drR 6):=by
 have b:=Qx (l:=l) (j:=j) za;have d:=bA fZ (i:=j) (l:=l.ds) za 1 za;have e:=j5 fZ (i:=j) (l:=l.ds) za bc 1 za;exact af.r a [.eb 43 (ah c),.er 48 (nat j),zD b,zD d,.eq 51 e,.eb 54 h]
def acY(c:i<yD l.ds)(q:yD l.ds<=1000)(ok:l.Ok):Spec zZq G 77 [Co l,nat i] (nat (Rf l i)):=by
 have m:=Qx c;have g:=aq fZ za c
 have p:=fO fZ c bc;have f:=Fz a (ok.ds _ (aA c bc));have y:=ni VQ.nm bc c;have z:=L9 (sS l.ds i) i;have o:=pM a (yI l.ds i bc).body (yD l.bs);have B:∀j,(drS l i j).tmps.length=55:=λj=>aB ..
 have A:∀j,(drT l i j).tmps.length=55:=λj=>aB ..
 unfold Rf;split
 ·rename_i x
  rw[x]at f;exact Spec.r a func77 [2] [.er 10 (nat i),zD m,zD g,.eq 12 p,zC f]
 ·rename_i x
  have F:n7 (yI l.ds i bc).nm=bj:=by simpa using x
  rw[F]at f;split
  ·rename_i w
   obtain⟨j,d1,d2,d3⟩:∃j,j<i/\gr (yI l.ds j bc).nm (yI l.ds i bc).nm=bj/\∀k<j,gr (yI l.ds k bc).nm (yI l.ds i bc).nm=aj:=by
    rcases y with⟨b,-⟩|⟨-,b⟩
    ·rw[w]at b;cases b
    ·exact b
   have n:=aI.count (P:=zZq) (Good:=G) (a:=0) (q:=ae f77 0) (v:=.ret) (j:=drR 6) (λj=>drS l i j) j B zx (λk d=>Qz a za c q (d3 k d)) (akf a d1 c d2)
   exact Spec.r a func77 [2] [.er 10 (nat i),zD m,zD g,.eq 12 p,zC f,.code n]
  ·rename_i w
   have E:E8 (l.ds.map VQ.nm) i=aj:=by simpa using w
   have C:∀j<i,gr (yI l.ds j bc).nm (yI l.ds i bc).nm=aj:=by
    rcases y with⟨-,b⟩|⟨b,-⟩
    ·exact b
    ·rw[E]at b;cases b
   have n:=aI.count (P:=zZq) (Good:=G) (a:=0) (q:=ae f77 0) (v:=yu 0) (j:=drS l i i) (λj=>drS l i j) i B zx (λk d=>Qz a d c q (C k d)) (ake a)
   split
   ·rename_i v
    rw[v]at o;exact Spec.r a func77 [2] [.er 10 (nat i),zD m,zD g,.eq 12 p,zC f,.code n,zC o]
   ·rename_i v
    have D:vi (yI l.ds i bc).body (yD l.bs)=bj:=by simpa using v
    rw[D]at o;split
    ·rename_i u
     have r:((yI l.ds i bc).body==0)=bj:=by rw[u];rfl
     exact Spec.r a func77 [2] [.er 10 (nat i),zD m,zD g,.eq 12 p,zC f,.code n,zC o,.eb 40 r]
    ·rename_i u
     have r:((yI l.ds i bc).body==0)=aj:=by rw[c4];exact u
     split
     ·rename_i t
      obtain⟨j,d1,d2,d3⟩:∃j,j<i/\sS l.ds i j=bj/\∀k<j,sS l.ds i k=aj:=by
       rcases z with⟨b,-⟩|⟨-,b⟩
       ·rw[t]at b;cases b
       ·exact b
      have lq:=aI.count (P:=zZq) (Good:=G) (a:=0) (q:=ae f77 1) (v:=.ret) (j:=drR 6) (λj=>drT l i j) j A zx (λk d=>QE a za c q (d3 k d)) (akh a d1 c d2)
      exact Spec.r a func77 [2] [.er 10 (nat i),zD m,zD g,.eq 12 p,zC f,.code n,zC o,.eb 40 r,.code lq]
     ·rename_i t
      have s:∀j<i,sS l.ds i j=aj:=by
       rcases z with⟨-,b⟩|⟨b,-⟩
       ·exact b
       ·exact api b t
      have lq:=aI.count (P:=zZq) (Good:=G) (a:=0) (q:=ae f77 1) (v:=yu 2) (j:=drT l i i) (λj=>drT l i j) i A zx (λk d=>QE a d c q (s k d)) (akg a)
      exact Spec.r a func77 [2] [.er 10 (nat i),zD m,zD g,.eq 12 p,zC f,.code n,zC o,.eb 40 r,.code lq]
end
def Ba(p q:Cm):b5:=(wW p.x.q q.x.q==0)&&(wW p.y.q q.y.q==0)
def aix{p q:Cm}(d:p.Ok)(c:q.Ok):Spec zZq G 141 [z4 (qp p),z4 (qp q)] (bool (Ba p q)):=by
 obtain⟨k1,a1,n⟩:=d.x;obtain⟨k2,h,m⟩:=d.y;obtain⟨k3,g,k⟩:=c.x;obtain⟨k4,d1,d2⟩:=c.y;have cx:=JQ a (Raw.ok.uV a1) (Raw.ok.uV g) za;have f:=JQ a (Raw.ok.uV h) (Raw.ok.uV d1) za;unfold Ba;cases b:wW p.x.q q.x.q==0 with
 |true=>cases e:wW p.y.q q.y.q==0 with
  |true=>exact Spec.r a func141 [2,3] [zC cx,.eb 10 b,zC f,.eb 17 e]
  |false=>exact Spec.r a func141 [2,3] [zC cx,.eb 10 b,zC f,.eb 17 e]
 |false=>exact Spec.r a func141 [2,3] [zC cx,.eb 10 b]
section
variable {l:pB} {i j:aw}
def nZ(l:pB)(b:cA):ai Cm:=(yI l.bs b.toNat bc).aC
def jtF(l:pB)(j:Q_):aw:=
 if(j.kind !=0)=bj/\(j.kind !=1)=bj then 7
 else if vi j.a (yD l.bs)=aj\/vi j.b (yD l.bs)=aj then 9
 else if(j.a==j.b)=bj then 13
 else if vi j.p (nZ l j.a).length=aj\/vi j.on (nZ l j.b).length=aj then 9
 else if(j.kind==0)=bj then(if(j.to !=0)=bj then 2 else 0)
 else if vi j.to (nZ l j.b).length=aj then 9
 else if Ba ((nZ l j.b).getD j.on.toNat bc) ((nZ l j.b).getD j.to.toNat bc)=bj then 8 else 0
def P3(l:pB)(i:aw):aw:=
 if n7 (yI l.js i bc).nm=aj then 5
 else if E8 (l.js.map Q_.nm) i=bj then 6
 else jtF l (yI l.js i bc)
def jtS(l:pB)(i j:aw):St:=lay 112 [(1,nat i),(2,.aJ (uI l)),(5,z0 0 0),(6,nat j)] [(0,Fk (yI l.js i bc))]
def amg(n:aw):St:=lay 112 [(4,nat n)] []
def abT(h:j<yD l.js):((0:cA)<=zNq j/\zNq j<(yD l.js:cA))/\(zNq j).toNat*7<(l.js.flatMap Fk).length:=cE kJ za h
def P0(d:j<i)(f:i<yD l.js)(g:yD l.js<=1000)(h:gr (yI l.js j bc).nm (yI l.js i bc).nm=aj):
  af zZq G 0 (ae f76 0) (jtS l i j) z3 (jtS l i (j+1)):=by
 have c:=abT (l:=l) (j:=j) za
 have b:=bA kJ (i:=j) (l:=l.js) za 0 za
 have e:=j5 kJ (i:=j) (l:=l.js) za bc 0 za
 exact af.r a [.eb 20 (ah d),.er 25 (nat j),zD c,zD b,.eq 28 e,.eq 31 (oC h),.eq 22 (bL (cI d za))]
def ajG:af zZq G 0 (ae f76 0) (jtS l i i) (yu 0) (jtS l i i):=
 af.r a [.eb 20 (c9 (apc i))]
def ajH(c:j<i)(f:i<yD l.js)(h:gr (yI l.js j bc).nm (yI l.js i bc).nm=bj):
  af zZq G 0 (ae f76 0) (jtS l i j) .ret (amg 6):=by
 have b:=abT (l:=l) (j:=j) za;have d:=bA kJ (i:=j) (l:=l.js) za 0 za;have e:=j5 kJ (i:=j) (l:=l.js) za bc 0 za;exact af.r a [.eb 20 (ah c),.er 25 (nat j),zD b,zD d,.eq 28 e,.eq 31 (oC h)]
def uv{x:cA}{n:aw}(h:vi x n=bj):∃m:aw,x=zNq m/\m<n:=by unfold vi at h;rw[dT,cm,cm]at h;exact⟨x.toNat,by simp;omega,by have:=h.2;simp at this;omega⟩
def as6{x y:b5}(h:¬(x=aj\/y=aj)):x=bj/\y=bj:=by cases x<;>cases y<;>simp_all
end
section
variable {l:pB} {i j:aw}
def Bn{b:aw}(h:b<yD l.bs):((0:cA)<=zNq b/\zNq b<(yD l.bs:cA))/\(zNq b).toNat*2<(l.bs.flatMap tv).length:=cE a8 za h
def af1(J:i<yD l.js)(O:yD l.js<=1000)(ok:l.Ok):Spec zZq G 76 [Co l,nat i] (nat (P3 l i)):=by
 have s:=abT J;have r:=aq kJ za J
 have t:=fO kJ J bc;have f:=Fz a (ok.js _ (aA J bc));have X:=ni Q_.nm bc J;have Y:∀j,(jtS l i j).tmps.length=112:=λj=>aB ..
 unfold P3;split
 ·rename_i U
  rw[U]at f;exact Spec.r a func76 [2] [.er 11 (nat i),zD s,zD r,.eq 13 t,zC f]
 ·rename_i U
  have I6:n7 (yI l.js i bc).nm=bj:=by simpa using U
  rw[I6]at f;split
  ·rename_i T
   obtain⟨j,d1,d2,d3⟩:∃j,j<i/\gr (yI l.js j bc).nm (yI l.js i bc).nm=bj/\∀k<j,gr (yI l.js k bc).nm (yI l.js i bc).nm=aj:=by
    rcases X with⟨H,-⟩|⟨-,H⟩
    ·rw[T]at H;cases H
    ·exact H
   have q:=aI.count (P:=zZq) (Good:=G) (a:=0) (q:=ae f76 0) (v:=.ret) (j:=amg 6) (λj=>jtS l i j) j Y zx (λk w=>P0 a za J O (d3 k w)) (ajH a d1 J d2)
   exact Spec.r a func76 [2] [.er 11 (nat i),zD s,zD r,.eq 13 t,zC f,.code q]
  ·rename_i T
   have Te:E8 (l.js.map Q_.nm) i=aj:=by simpa using T
   have hd:∀j<i,gr (yI l.js j bc).nm (yI l.js i bc).nm=aj:=by
    rcases X with⟨-,H⟩|⟨H,-⟩
    ·exact H
    ·rw[Te]at H;cases H
   have q:=aI.count (P:=zZq) (Good:=G) (a:=0) (q:=ae f76 0) (v:=yu 0) (j:=jtS l i i) (λj=>jtS l i j) i Y zx (λk w=>P0 a w J O (hd k w)) (ajG a)
   clear X Y hd U T Te;unfold jtS at q;unfold jtF;generalize yI l.js i bc=jt at*;obtain⟨nj,N,c,p,b,on,to⟩:=jt;simp only at I6 f⊢;have g:=pM a c (yD l.bs);have ib:=pM a b (yD l.bs);by_cases w:(N !=0)=bj/\(N !=1)=bj
   ·rw[aph w]
    have k0:=w.1;have k1:=w.2;exact Spec.r a func76 [2] [.er 11 (nat i),zD s,zD r,.eq 13 t,zC f,.code q,.eb 34 k0,.eb 38 k1]
   rw[ape w];have kc:(N=0)\/(N=1):=by
    by_cases q0:N=0
    ·exact z1 q0
    ·by_cases q1:N=1
     ·exact z2 q1
     ·exact api ⟨kE.2 q0,kE.2 q1⟩ w
   clear w;obtain rfl|rfl:=kc
   ·by_cases y:vi c (yD l.bs)=aj\/vi b (yD l.bs)=aj
    ·rw[aph y]
     cases d:vi c (yD l.bs) with
     |false=>
      rw[d]at g;exact Spec.r a func76 [2] [.er 11 (nat i),zD s,zD r,.eq 13 t,zC f,.code q,zC g]
     |true=>
      have v:vi b (yD l.bs)=aj:=y.resolve_left (by rw[d];simp)
      rw[d]at g;rw[v]at ib;exact Spec.r a func76 [2] [.er 11 (nat i),zD s,zD r,.eq 13 t,zC f,.code q,zC g,zC ib]
    rw[ape y];obtain⟨d,v⟩:=as6 y;rw[d]at g;rw[v]at ib;obtain⟨an,rfl,L⟩:=uv d;obtain⟨n,rfl,I⟩:=uv v;clear y d v;by_cases m:(zNq an==zNq n)=bj
    ·rw[aph m]
     exact Spec.r a func76 [2] [.er 11 (nat i),zD s,zD r,.eq 13 t,zC f,.code q,zC g,zC ib,.eb 60 m]
    rw[ape m];have m:(zNq an==zNq n)=aj:=by simpa using m
    have W:nZ l (zNq an)=(yI l.bs an bc).aC:=rfl;have eb:nZ l (zNq n)=(yI l.bs n bc).aC:=rfl;rw[W,eb];have a1:=Bn L;have F:=bA a8 L 1 za
    have E:=j5 a8 L bc 1 za
    have D:=Bn I;have C:=bA a8 I 1 za
    have z:=j5 a8 I bc 1 za
    have K:=(ok.bs _ (aA I bc)).aC;generalize(yI l.bs an bc)=A at*;generalize(yI l.bs n bc)=B at*;have ip:=pM a p (yD A.aC);have io:=pM a on (yD B.aC);have it:=pM a to (yD B.aC);by_cases x:vi p (yD A.aC)=aj\/vi on (yD B.aC)=aj
    ·rw[aph x]
     cases d:vi p (yD A.aC) with
     |false=>
      rw[d]at ip;exact Spec.r a func76 [2] [.er 11 (nat i),zD s,zD r,.eq 13 t,zC f,.code q,zC g,zC ib,.eb 60 m,.er 64 (nat an),zD a1,zD F,.eq 67 E,.er 71 (nat n),zD D,zD C,.eq 74 z,zC ip]
     |true=>
      have v:vi on (yD B.aC)=aj:=x.resolve_left (by rw[d];simp)
      rw[d]at ip;rw[v]at io;exact Spec.r a func76 [2] [.er 11 (nat i),zD s,zD r,.eq 13 t,zC f,.code q,zC g,zC ib,.eb 60 m,.er 64 (nat an),zD a1,zD F,.eq 67 E,.er 71 (nat n),zD D,zD C,.eq 74 z,zC ip,zC io]
    rw[ape x];obtain⟨V,S⟩:=as6 x;rw[V]at ip;rw[S]at io;clear x;rw[aph (show((0:cA)==0)=bj from rfl)]
    cases M:(to !=0)with
    |true=>
     rw[aph rfl];exact Spec.r a func76 [2] [.er 11 (nat i),zD s,zD r,.eq 13 t,zC f,.code q,zC g,zC ib,.eb 60 m,.er 64 (nat an),zD a1,zD F,.eq 67 E,.er 71 (nat n),zD D,zD C,.eq 74 z,zC ip,zC io,.eb 94 M]
    |false=>
     rw[ape zb]
     exact Spec.r a func76 [2] [.er 11 (nat i),zD s,zD r,.eq 13 t,zC f,.code q,zC g,zC ib,.eb 60 m,.er 64 (nat an),zD a1,zD F,.eq 67 E,.er 71 (nat n),zD D,zD C,.eq 74 z,zC ip,zC io,.eb 94 M]
   ·by_cases y:vi c (yD l.bs)=aj\/vi b (yD l.bs)=aj
    ·rw[aph y]
     cases d:vi c (yD l.bs) with
     |false=>
      rw[d]at g;exact Spec.r a func76 [2] [.er 11 (nat i),zD s,zD r,.eq 13 t,zC f,.code q,zC g]
     |true=>
      have v:vi b (yD l.bs)=aj:=y.resolve_left (by rw[d];simp)
      rw[d]at g;rw[v]at ib;exact Spec.r a func76 [2] [.er 11 (nat i),zD s,zD r,.eq 13 t,zC f,.code q,zC g,zC ib]
    rw[ape y];obtain⟨d,v⟩:=as6 y;rw[d]at g;rw[v]at ib;obtain⟨an,rfl,L⟩:=uv d;obtain⟨n,rfl,I⟩:=uv v;clear y d v;by_cases m:(zNq an==zNq n)=bj
    ·rw[aph m]
     exact Spec.r a func76 [2] [.er 11 (nat i),zD s,zD r,.eq 13 t,zC f,.code q,zC g,zC ib,.eb 60 m]
    rw[ape m];have m:(zNq an==zNq n)=aj:=by simpa using m
    have W:nZ l (zNq an)=(yI l.bs an bc).aC:=rfl;have eb:nZ l (zNq n)=(yI l.bs n bc).aC:=rfl;rw[W,eb];have a1:=Bn L;have F:=bA a8 L 1 za
    have E:=j5 a8 L bc 1 za
    have D:=Bn I;have C:=bA a8 I 1 za
    have z:=j5 a8 I bc 1 za
    have K:=(ok.bs _ (aA I bc)).aC;generalize(yI l.bs an bc)=A at*;generalize(yI l.bs n bc)=B at*;have ip:=pM a p (yD A.aC);have io:=pM a on (yD B.aC);have it:=pM a to (yD B.aC);by_cases x:vi p (yD A.aC)=aj\/vi on (yD B.aC)=aj
    ·rw[aph x]
     cases d:vi p (yD A.aC) with
     |false=>
      rw[d]at ip;exact Spec.r a func76 [2] [.er 11 (nat i),zD s,zD r,.eq 13 t,zC f,.code q,zC g,zC ib,.eb 60 m,.er 64 (nat an),zD a1,zD F,.eq 67 E,.er 71 (nat n),zD D,zD C,.eq 74 z,zC ip]
     |true=>
      have v:vi on (yD B.aC)=aj:=x.resolve_left (by rw[d];simp)
      rw[d]at ip;rw[v]at io;exact Spec.r a func76 [2] [.er 11 (nat i),zD s,zD r,.eq 13 t,zC f,.code q,zC g,zC ib,.eb 60 m,.er 64 (nat an),zD a1,zD F,.eq 67 E,.er 71 (nat n),zD D,zD C,.eq 74 z,zC ip,zC io]
    rw[ape x];obtain⟨V,S⟩:=as6 x;rw[V]at ip;rw[S]at io;clear x;rw[ape (show¬((1:cA)==0)=bj by decide)]
    by_cases M:vi to (yD B.aC)=aj
    ·rw[aph M]
     rw[M]at it;exact Spec.r a func76 [2] [.er 11 (nat i),zD s,zD r,.eq 13 t,zC f,.code q,zC g,zC ib,.eb 60 m,.er 64 (nat an),zD a1,zD F,.eq 67 E,.er 71 (nat n),zD D,zD C,.eq 74 z,zC ip,zC io,zC it]
    rw[ape M];have hT:vi to (yD B.aC)=bj:=by simpa using M
    rw[hT]at it;obtain⟨o,rfl,R⟩:=uv S;obtain⟨u,rfl,hu⟩:=uv hT;have eo:(zNq o).toNat=o:=rfl;have eu:(zNq u).toNat=u:=rfl;rw[eo,eu];have o1:=cE bb za R
    have o2:=aq bb za R
    have o3:=fO bb R bc;have u1:=cE bb za hu
    have u2:=aq bb za hu
    have Z:=fO bb hu bc;have Q:=aix a (K _ (aA R bc)) (K _ (aA hu bc));cases O:Ba (yI B.aC o bc) (yI B.aC u bc)with
    |true=>
     rw[aph rfl];rw[O]at Q;exact Spec.r a func76 [2] [.er 11 (nat i),zD s,zD r,.eq 13 t,zC f,.code q,zC g,zC ib,.eb 60 m,.er 64 (nat an),zD a1,zD F,.eq 67 E,.er 71 (nat n),zD D,zD C,.eq 74 z,zC ip,zC io,zC it,.er 103 (nat o),zD o1,zD o2,.eq 105 o3,.er 108 (nat u),zD u1,zD u2,.eq 110 Z,zC Q]
    |false=>
     rw[ape zb]
     rw[O]at Q;exact Spec.r a func76 [2] [.er 11 (nat i),zD s,zD r,.eq 13 t,zC f,.code q,zC g,zC ib,.eb 60 m,.er 64 (nat an),zD a1,zD F,.eq 67 E,.er 71 (nat n),zD D,zD C,.eq 74 z,zC ip,zC io,zC it,.er 103 (nat o),zD o1,zD o2,.eq 105 o3,.er 108 (nat u),zD u1,zD u2,.eq 110 Z,zC Q]
end
section
variable {l:pB} {i:aw}
def ckJ(l:pB)(i:aw):St:=lay 59 [(1,.aJ (uI l)),(4,nat i)] []
def ckD(l:pB)(i:aw):St:=lay 59 [(1,.aJ (uI l)),(6,nat i)] []
def ckR(n:aw):St:=lay 59 [(2,nat n)] []
def Pz{z:aw}(h:z=0):(zNq z !=zNq 0)=aj:=by rw[h];rfl
def Ts(d:aa G)(a:i<yD l.js)(e:yD l.js<=1000)(ok:l.Ok):(P3 l i=0->af zZq G 0 (ae f30 0) (ckJ l i) z3 (ckJ l (i+1)))/\(P3 l i≠0->af zZq G 0 (ae f30 0) (ckJ l i) .ret (ckR (P3 l i))):=by
 have c:=af1 d a e ok;generalize P3 l i=z at c;exact⟨λh=>af.r d [.eb 33 (ah a),zC c,.eb 40 (Pz h),.eq 35 (bL (cI a za))],
  λh=>af.r d [.eb 33 (ah a),zC c,.eb 40 (GY (b:=0) h)]⟩
def akp:af zZq G 0 (ae f30 0) (ckJ l (yD l.js)) (yu 0) (ckJ l (yD l.js)):=
 af.r a [.eb 33 (c9 (apc (yD l.js)))]
def Tz(d:aa G)(a:i<yD l.ds)(e:yD l.ds<=1000)(ok:l.Ok):(Rf l i=0->af zZq G 0 (ae f30 1) (ckD l i) z3 (ckD l (i+1)))/\(Rf l i≠0->af zZq G 0 (ae f30 1) (ckD l i) .ret (ckR (Rf l i))):=by
 have c:=acY d a e ok;generalize Rf l i=z at c;exact⟨λh=>af.r d [.eb 50 (ah a),zC c,.eb 57 (Pz h),.eq 52 (bL (cI a za))],
  λh=>af.r d [.eb 50 (ah a),zC c,.eb 57 (GY (b:=0) h)]⟩
def akr:af zZq G 0 (ae f30 1) (ckD l (yD l.ds)) (yu 2) (ckD l (yD l.ds)):=
 af.r a [.eb 50 (c9 (apc (yD l.ds)))]
def PM(l:pB):aw:=
 if n7 l.nm=aj then 5
 else if yD l.bs=0 then 10
 else if 8<yD l.bs then 4
 else if Kz l.bs≠0 then Kz l.bs
 else if 16<yD l.js then 4
 else if jY (P3 l) (yD l.js)≠0 then jY (P3 l) (yD l.js)
 else if 2<yD l.ds then 4
 else jY (Rf l) (yD l.ds)
def agB(a:aa G)(ok:l.Ok):Spec zZq G 30 [Co l] (nat (PM l)):=by
 have c:=Fz a ok.nm;unfold PM;split;rename_i o;rw[o]at c;exact Spec.r a func30 [1] [zC c];rename_i o;have t:n7 l.nm=bj:=by simpa using o
 rw[t]at c;split;rename_i e;exact Spec.r a func30 [1] [zC c,.eb 15 (gI e)];rename_i e;split;rename_i f;exact Spec.r a func30 [1] [zC c,.eb 15 (fh e),.eb 19 (uC f)];rename_i f;have g:=adE a (l:=l) za ok;split;rename_i m;generalize Kz l.bs=z at g m;exact Spec.r a func30 [1] [zC c,.eb 15 (fh e),.eb 19 (fu f),zC g,.eb 23 (GY (b:=0) m)];rename_i m;have m:Kz l.bs=0:=za
 rw[m]at g;split;rename_i h;exact Spec.r a func30 [1] [zC c,.eb 15 (fh e),.eb 19 (fu f),zC g,.eb 28 (uC h)];rename_i h;rcases dg (P3 l) (yD l.js) with⟨f1,f2⟩|⟨i,f1,f2,f3,f4⟩
 rw[ape (by rw[f1];simp)];have j:=aI.z zZq G (ae f30 0) (yu 0) (ckJ l (yD l.js)) (λk=>ckJ l k) (yD l.js) (λk d=>(Ts a d za ok).1 (f2 k d)) (akp a);split;rename_i n;exact Spec.r a func30 [1] [zC c,.eb 15 (fh e),.eb 19 (fu f),zC g,.eb 28 (fu h),.code j,.eb 45 (uC n)];rename_i n;rcases dg (Rf l) (yD l.ds) with⟨q,p⟩|⟨i,q,p,s,r⟩
 have lq:=aI.z zZq G (ae f30 1) (yu 2) (ckD l (yD l.ds)) (λk=>ckD l k) (yD l.ds) (λk d=>(Tz a d za ok).1 (p k d)) (akr a);rw[q];exact Spec.r a func30 [1] [zC c,.eb 15 (fh e),.eb 19 (fu f),zC g,.eb 28 (fu h),.code j,.eb 45 (fu n),.code lq];have lq:=aI.z zZq G (ae f30 1) .ret (ckR (Rf l i)) (λk=>ckD l k) i (λk d=>(Tz a za za ok).1 (r k d)) ((Tz a q za ok).2 p);rw[s];exact Spec.r a func30 [1] [zC c,.eb 15 (fh e),.eb 19 (fu f),zC g,.eb 28 (fu h),.code j,.eb 45 (fu n),.code lq];rw[aph (by rw[f3];exact f2),f3];have j:=aI.z zZq G (ae f30 0) .ret (ckR (P3 l i)) (λk=>ckJ l k) i (λk d=>(Ts a za za ok).1 (f4 k d)) ((Ts a f1 za ok).2 f2);exact Spec.r a func30 [1] [zC c,.eb 15 (fh e),.eb 19 (fu f),zC g,.eb 28 (fu h),.code j]
end
def aav{α:Type}(f:α->ai D)(sz:aw)(l:ai α)(i:aw):D:=zK i aj (((l.flatMap f).drop (0*sz)).take (i*sz))
section
variable {G:bn->Prop} {α:Type} {f:α->ai D} {sz:aw}
def afs{l:ai α}{i j:aw}(a:j<i):((((l.flatMap f).drop (0*sz)).take (i*sz)).drop ((zNq j).toNat*sz)).take sz=((l.flatMap f).drop ((zNq j).toNat*sz)).take sz:=by
 have e:(zNq j).toNat=j:=rfl;rw[e,aqH,aqD,arY,arl];congr 1;have:j*sz+sz<=i*sz:=by rw[<-aqk];exact apB _ a
 omega
def Ie(c:∀x,(f x).length=sz)(d:0<sz){l:ai α}{i j:aw}(a:j<i)(b:i<=yD l):((0:cA)<=zNq j/\zNq j<((i:aw):cA))/\(zNq j).toNat*sz<(((l.flatMap f).drop (0*sz)).take (i*sz)).length:=by have e:(zNq j).toNat=j:=rfl;rw[e,aqH,aqD,apr,dq c];refine⟨⟨by simp,by simpa using a⟩,?_⟩;have h:j*sz<i*sz:=aq2 a d;have g:i*sz<=yD l*sz:=apB _ b;omega
def yU(c:∀x,(f x).length=sz)(h:0<sz){l:ai α}{i j:aw}(a:j<i)(b:i<=yD l):0<sz/\sz<=((((l.flatMap f).drop (0*sz)).take (i*sz)).drop ((zNq j).toNat*sz)).length:=by
 have e:(zNq j).toNat=j:=rfl;rw[e,aqH,aqD,apu,apr,dq c];have g:j*sz+sz<=i*sz:=by rw[<-aqk];exact apB _ a
 have d:i*sz<=yD l*sz:=apB _ b;omega
def C2(b:∀x,(f x).length=sz){l:ai α}{i j:aw}(a:j<i)(c:i<=yD l)(d:α):D.agg (((((l.flatMap f).drop (0*sz)).take (i*sz)).drop ((zNq j).toNat*sz)).take sz)=z4 (f (yI l j d)):=by rw[afs a];exact fO b za d
end
def mbS(bs:ai xd)(i:aw):St:=lay 85 [(0,aQ tv bs),(11,aQ tv bs),(12,nat (yD bs)),(13,nat i)] []
def mnS(bs:ai xd)(i j:aw):St:=lay 85 [(0,aQ tv bs),(3,nat i),(4,z0 0 0),(11,aQ tv bs),(12,nat (yD bs)),(13,nat i),(25,aav tv 2 bs i),(26,nat i),(27,nat j)] [(0,tv (yI bs i bc))]
section
variable {bs:ai xd} {i j:aw}
def abu(g:j<i)(b:i<yD bs)(l:yD bs<=1000)(h:gr (yI bs j bc).nm (yI bs i bc).nm=aj):
  af zZq G 0 (ae f88 1) (mnS bs i j) z3 (mnS bs i (j+1)):=by
 have d:=Ie a8 za g (apU b)
 have c:=yU a8 za g (apU b)
 have e:=C2 a8 g (apU b) bc;exact af.r a [.eb 28 (ah g),zD d,zD c,.eq 30 e,.eq 35 (oC h),.eq 37 (bL (cI g za))]
def ajk:af zZq G 0 (ae f88 1) (mnS bs i i) (yu 2) (mnS bs i i):=
 af.r a [.eb 28 (c9 (apc i))]
variable {k:aw}
def mpS(bs:ai xd)(i k:aw):St:=lay 85 [(0,aQ tv bs),(4,z0 0 0),(11,aQ tv bs),(12,nat (yD bs)),(13,nat i),(44,aQ qp (yI bs i bc).aC),(45,nat (yI bs i bc).aC.length),(46,nat k)] [(0,tv (yI bs i bc))]
def mqS(bs:ai xd)(i k j:aw):St:=lay 85 [(0,aQ tv bs),(4,z0 0 0),(8,z0 1 0),(11,aQ tv bs),(12,nat (yD bs)),(13,nat i),(44,aQ qp (yI bs i bc).aC),(45,nat (yI bs i bc).aC.length),(46,nat k),(59,aav qp 7 (yI bs i bc).aC k),(60,nat k),(61,nat j)] [(0,tv (yI bs i bc)),(1,qp ((yI bs i bc).aC.getD k bc))]
def abr(g:j<k)(b:k<(yI bs i bc).aC.length)(l:(yI bs i bc).aC.length<=8)(h:gr ((yI bs i bc).aC.getD j bc).nm ((yI bs i bc).aC.getD k bc).nm=aj):
  af zZq G 0 (ae f88 3) (mqS bs i k j) z3 (mqS bs i k (j+1)):=by
 have d:=Ie bb za g (apU b)
 have c:=yU bb za g (apU b)
 have e:=C2 bb g (apU b) bc;exact af.r a [.eb 62 (ah g),zD d,zD c,.eq 64 e,.eq 69 (oC h),.eq 71 (bL (cI g za))]
def ajh:af zZq G 0 (ae f88 3) (mqS bs i k k) (yu 6) (mqS bs i k k):=
 af.r a [.eb 62 (c9 (apc k))]
def R9{a:ai Cm}(e:k<yD a)(h:R_ a k=0):n7 (yI a k bc).nm=bj/\(∀j<k,gr (yI a j bc).nm (yI a k bc).nm=aj)/\(yI a k bc).x.valid=bj/\(yI a k bc).y.valid=bj:=by
 have o:=ni Cm.nm bc e;have n:(a.map λm=>m.nm)=a.map Cm.nm:=rfl
 unfold R_ at h;rw[n]at h;split at h
 ·cases h
 ·rename_i l
  split at h
  ·cases h
  ·rename_i g
   split at h
   ·cases h
   ·rename_i d
    refine⟨by simpa using l,?_,?_,?_⟩
    ·rcases o with⟨-,c⟩|⟨c,-⟩
     ·exact c
     ·exact api c g
    ·cases b:(yI a k bc).x.valid with
     |true=>rfl
     |false=>exact api (z1 b) d
    ·cases b:(yI a k bc).y.valid with
     |true=>rfl
     |false=>exact api (z2 b) d
def abt(b:k<(yI bs i bc).aC.length)(u:(yI bs i bc).aC.length<=8)(ok:∀m∈(yI bs i bc).aC,m.Ok)(h:R_ (yI bs i bc).aC k=0):
  af zZq G 0 (ae f88 2) (mpS bs i k) z3 (mpS bs i (k+1)):=by
 obtain⟨y,x,w,v⟩:=R9 b h;have r:=cE bb za b
 have q:=aq bb za b
 have e:=fO bb b bc;have g:=ok _ (aA b bc);obtain⟨C,o,A⟩:=g.x;obtain⟨B,n,z⟩:=g.y;have d:=sk a o za
 have c:=sk a n za
 rw[w]at d;rw[v]at c;have s:=D7 a y;have p:(0:cA)<=0/\(0:cA)<=zNq k/\zNq k<=((yI bs i bc).aC.length:cA):=⟨asg 0,arn k,asB.2 (apU b)⟩;have t:=aI.z zZq G (ae f88 3) (yu 6) (mqS bs i k k) (λj=>mqS bs i k j) k (λj l=>abr a l b u (x j l)) (ajh a)
 exact af.r a [.eb 47 (ah b),zD r,zD q,.eq 50 e,zC s,.er 58 (nat k),zD p,.code t,zC d,zC c,.eq 83 (bL (cI b za))]
def aji:af zZq G 0 (ae f88 2) (mpS bs i (yI bs i bc).aC.length) (yu 4) (mpS bs i (yI bs i bc).aC.length):=
 af.r a [.eb 47 (c9 (apc (yI bs i bc).aC.length))]
def jr{f:aw->aw}{n:aw}(h:jY f n=0):∀i<n,f i=0:=by
 rcases dg f n with⟨-,a⟩|⟨i,-,a,b,-⟩
 exact a;rw[b]at h;exact api h a
def TH(b:i<yD bs)(h:Yu bs i=0):n7 (yI bs i bc).nm=bj/\(∀j<i,gr (yI bs j bc).nm (yI bs i bc).nm=aj)/\(yI bs i bc).aC.length<=8/\∀k,k<(yI bs i bc).aC.length->R_ (yI bs i bc).aC k=0:=by
 have e:=ni xd.nm bc b;unfold Yu at h;split at h;cases h;rename_i d;split at h;cases h;rename_i c;unfold R8 at h;split at h;cases h;rename_i g;refine⟨by simpa using d,?_,by omega,jr h⟩;rcases e with⟨-,a⟩|⟨a,-⟩
 exact a;exact api a c
def abA(c:i<yD bs)(r:yD bs<=1000)(ok:∀b∈bs,b.Ok)(h:Yu bs i=0):
  af zZq G 0 (ae f88 0) (mbS bs i) z3 (mbS bs (i+1)):=by
 obtain⟨v,u,t,s⟩:=TH c h;have n:=cE a8 za c
 have m:=aq a8 za c
 have e:=fO a8 c bc;have o:=(ok _ (aA c bc)).aC;have p:=D7 a v;have l:(0:cA)<=0/\(0:cA)<=zNq i/\zNq i<=(yD bs:cA):=⟨asg 0,arn i,asB.2 (apU c)⟩;have q:=aI.z zZq G (ae f88 1) (yu 2) (mnS bs i i) (λj=>mnS bs i j) i (λj g=>abu a g c r (u j g)) (ajk a)
 have lq:=aI.z zZq G (ae f88 2) (yu 4) (mpS bs i (yI bs i bc).aC.length) (λk=>mpS bs i k) (yI bs i bc).aC.length (λk d=>abt a d t o (s k d)) (aji a)
 exact af.r a [.eb 14 (ah c),zD n,zD m,.eq 17 e,zC p,.er 24 (nat i),zD l,.code q,.eb 41 (fu (by omega:¬8<(yI bs i bc).aC.length)),.code lq,.eq 84 (bL (cI c za))]
def ajr:af zZq G 0 (ae f88 0) (mbS bs (yD bs)) (yu 0) (mbS bs (yD bs)):=
 af.r a [.eb 14 (c9 (apc (yD bs)))]
def W9(e:yD bs<=1000)(ok:∀b∈bs,b.Ok)(h:Kz bs=0):Spec zZq G 88 [aQ tv bs] (zT .nilIface):=by have d:=aI.z zZq G (ae f88 0) (yu 0) (mbS bs (yD bs)) (λk=>mbS bs k) (yD bs) (λk c=>abA a c e ok (jr h k c)) (ajr a);exact Spec.r a func88 [] [.code d]
end
variable {c:aw} {g:pB} {k:cA} {s:Q_}
def Xt(h:vi k c=bj):Spec zZq G 156 [int k,nat c] (bool bj):=by unfold vi at h;rw[dT]at h;exact Spec.r a func156 [] [.eb 6 h.1,.eb 10 h.2]
structure JV(l:pB)(j:Q_):Prop where
 kd:(j.kind=0/\j.to=0)\/(j.kind=1/\vi j.to (nZ l j.b).length=bj/\Ba ((nZ l j.b).getD j.on.toNat bc) ((nZ l j.b).getD j.to.toNat bc)=aj)
 a:vi j.a l.bs.length=bj
 b:vi j.b l.bs.length=bj
 ne:(j.a==j.b)=aj
 p:vi j.p (nZ l j.a).length=bj
 on:vi j.on (nZ l j.b).length=bj
def abR(h:jtF g s=0):JV g s:=by
 unfold jtF at h;split at h
 ·cases h
 ·rename_i j
  split at h
  ·cases h
  ·rename_i f
   split at h
   ·cases h
   ·rename_i e
    split at h
    ·cases h
    ·rename_i d
     obtain⟨a1,m⟩:=as6 f;obtain⟨k,i⟩:=as6 d;refine⟨?_,a1,m,by simpa using e,k,i⟩
     split at h
     ·rename_i a
      split at h
      ·cases h
      ·rename_i b
       exact z1 ⟨by simpa using a,by simpa using b⟩
     ·rename_i a
      have k1:s.kind=1:=by
       have a:s.kind≠0:=by simpa using a
       by_cases q:s.kind=1
       ·exact q
       ·exact api ⟨kE.2 a,kE.2 q⟩ j
      split at h
      ·cases h
      ·rename_i b
       split at h
       ·cases h
       ·rename_i c
        exact z2 ⟨k1,by simpa using b,by simpa using c⟩
def abv(ok:g.Ok)(c:JV g s):Spec zZq G 155 [Co g,z4 (Fk s)] (zT .nilIface):=by
 obtain⟨q,j,b,ne,r,m⟩:=c;have i:=Xt a j;have ib:=Xt a b;have ip:=Xt a r;have io:=Xt a m;obtain⟨V,k,ja,p,jb,on,to⟩:=s;simp only at q j b ne r m i ib ip io;obtain⟨an,rfl,l⟩:=uv j;obtain⟨e,rfl,n⟩:=uv b;have N:nZ g (zNq an)=(yI g.bs an bc).aC:=rfl;have eb:nZ g (zNq e)=(yI g.bs e bc).aC:=rfl;rw[N]at r ip;rw[eb]at m io q;have a1:=Bn l;have z:=bA a8 l 1 za
 have y:=j5 a8 l bc 1 za
 have x:=Bn n;have w:=bA a8 n 1 za
 have v:=j5 a8 n bc 1 za
 have f:=(ok.bs _ (aA n bc)).aC;generalize(yI g.bs an bc)=A at*;generalize(yI g.bs e bc)=B at*;rcases q with⟨rfl,rfl⟩|⟨rfl,F,h⟩
 ·exact Spec.r a func155 [2,3] [zC i,zC ib,.eb 38 ne,.er 43 (nat e),zD x,zD w,.eq 46 v,.er 52 (nat an),zD a1,zD z,.eq 55 y,zC ip,zC io]
 ·have it:=Xt a F
  obtain⟨o,rfl,d⟩:=uv m;obtain⟨u,rfl,hu⟩:=uv F;have M:(zNq o).toNat=o:=rfl;have L:(zNq u).toNat=u:=rfl;rw[M,L]at h;have o1:=cE bb za d
  have o2:=aq bb za d
  have o3:=fO bb d bc;have E:=cE bb za hu
  have D:=aq bb za hu
  have C:=fO bb hu bc;have k1:=f _ (aA d bc);have k2:=f _ (aA hu bc);generalize(yI B.aC o bc)=P at*;generalize(yI B.aC u bc)=Q at*;obtain⟨Z,K,U⟩:=k1.x;obtain⟨Y,J,T⟩:=k1.y;obtain⟨X,I,S⟩:=k2.x;obtain⟨W,H,R⟩:=k2.y;have cx:=Mj a (Raw.ok.uV K) (Raw.ok.uV I) za za
  have O:=Mj a (Raw.ok.uV J) (Raw.ok.uV H) za za
  unfold Ba at h;cases t:wW P.x.q Q.x.q==0 with
  |true=>
   rw[t,asK]at h;exact Spec.r a func155 [2,3] [zC i,zC ib,.eb 38 ne,.er 43 (nat e),zD x,zD w,.eq 46 v,.er 52 (nat an),zD a1,zD z,.eq 55 y,zC ip,zC io,zC it,.er 84 (nat o),zD o1,zD o2,.eq 86 o3,.er 89 (nat u),zD E,zD D,.eq 91 C,zC cx,.eb 97 t,zC O,.eb 104 h]
  |false=>
   exact Spec.r a func155 [2,3] [zC i,zC ib,.eb 38 ne,.er 43 (nat e),zD x,zD w,.eq 46 v,.er 52 (nat an),zD a1,zD z,.eq 55 y,zC ip,zC io,zC it,.er 84 (nat o),zD o1,zD o2,.eq 86 o3,.er 89 (nat u),zD E,zD D,.eq 91 C,zC cx,.eb 97 t]
section
variable {l:pB} {i j:aw}
def abS(b:i<yD l.js)(h:P3 l i=0):n7 (yI l.js i bc).nm=bj/\(∀j<i,gr (yI l.js j bc).nm (yI l.js i bc).nm=aj)/\JV l (yI l.js i bc):=by
 have e:=ni Q_.nm bc b;unfold P3 at h;split at h;cases h;rename_i d;split at h;cases h;rename_i c;refine⟨by simpa using d,?_,abR h⟩;rcases e with⟨-,a⟩|⟨a,-⟩
 exact a;exact api a c
def ac2(b:i<yD l.ds)(h:Rf l i=0):n7 (yI l.ds i bc).nm=bj/\(∀j<i,gr (yI l.ds j bc).nm (yI l.ds i bc).nm=aj)/\vi (yI l.ds i bc).body (yD l.bs)=bj/\(yI l.ds i bc).body≠0/\∀j<i,sS l.ds i j=aj:=by
 have k:=ni VQ.nm bc b;have m:=L9 (sS l.ds i) i;unfold Rf at h;split at h;cases h;rename_i g;split at h;cases h;rename_i f;split at h;cases h;rename_i e;split at h;cases h;rename_i d;split at h;cases h;rename_i c;refine⟨by simpa using g,?_,by simpa using e,d,?_⟩;rcases k with⟨-,a⟩|⟨a,-⟩
 exact a;exact api a f;rcases m with⟨-,a⟩|⟨a,-⟩
 exact a;exact api a c
def mjS(l:pB)(i:aw):St:=lay 49 [(1,.aJ (uI l)),(14,aQ Fk l.js),(15,nat (yD l.js)),(16,nat i)] []
def mjN(l:pB)(i j:aw):St:=lay 49 [(1,.aJ (uI l)),(3,nat i),(4,z0 0 0),(14,aQ Fk l.js),(15,nat (yD l.js)),(16,nat i),(29,aav Fk 7 l.js i),(30,nat i),(31,nat j)] [(0,Fk (yI l.js i bc))]
def al2(f:j<i)(b:i<yD l.js)(g:yD l.js<=1000)(h:gr (yI l.js j bc).nm (yI l.js i bc).nm=aj):
  af zZq G 0 (ae f89 1) (mjN l i j) z3 (mjN l i (j+1)):=by
 have d:=Ie kJ za f (apU b)
 have c:=yU kJ za f (apU b)
 have e:=C2 kJ f (apU b) bc;exact af.r a [.eb 32 (ah f),zD d,zD c,.eq 34 e,.eq 39 (oC h),.eq 41 (bL (cI f za))]
def ajl:af zZq G 0 (ae f89 1) (mjN l i i) (yu 2) (mjN l i i):=
 af.r a [.eb 32 (c9 (apc i))]
def abw(b:i<yD l.js)(o:yD l.js<=1000)(ok:l.Ok)(h:P3 l i=0):
  af zZq G 0 (ae f89 0) (mjS l i) z3 (mjS l (i+1)):=by
 obtain⟨r,q,p⟩:=abS b h;have g:=cE kJ za b
 have f:=aq kJ za b
 have e:=fO kJ b bc;have k:=D7 a r;have n:=abv a ok p;have d:(0:cA)<=0/\(0:cA)<=zNq i/\zNq i<=(yD l.js:cA):=⟨asg 0,arn i,asB.2 (apU b)⟩;have m:=aI.z zZq G (ae f89 1) (yu 2) (mjN l i i) (λj=>mjN l i j) i (λj c=>al2 a c b o (q j c)) (ajl a)
 exact af.r a [.eb 17 (ah b),zD g,zD f,.eq 20 e,zC k,.er 28 (nat i),zD d,.code m,zC n,.eq 48 (bL (cI b za))]
def ajm:af zZq G 0 (ae f89 0) (mjS l (yD l.js)) (yu 0) (mjS l (yD l.js)):=
 af.r a [.eb 17 (c9 (apc (yD l.js)))]
def W8(b:¬16<yD l.js)(ok:l.Ok)(h:jY (P3 l) (yD l.js)=0):Spec zZq G 89 [Co l] (zT .nilIface):=by have d:=aI.z zZq G (ae f89 0) (yu 0) (mjS l (yD l.js)) (λk=>mjS l k) (yD l.js) (λk c=>abw a c za ok (jr h k c)) (ajm a);exact Spec.r a func89 [1] [.eb 11 (fu b),.code d]
def mdS(l:pB)(i:aw):St:=lay 72 [(1,.aJ (uI l)),(15,aQ A3 l.ds),(16,nat (yD l.ds)),(17,nat i)] []
def mdN(l:pB)(i j:aw):St:=lay 72 [(1,.aJ (uI l)),(3,nat i),(4,z0 0 0),(15,aQ A3 l.ds),(16,nat (yD l.ds)),(17,nat i),(30,aav A3 2 l.ds i),(31,nat i),(32,nat j)] [(0,A3 (yI l.ds i bc))]
def mdB(l:pB)(i j:aw):St:=lay 72 [(1,.aJ (uI l)),(4,z0 0 0),(15,aQ A3 l.ds),(16,nat (yD l.ds)),(17,nat i),(58,aav A3 2 l.ds i),(59,nat i),(60,nat j)] [(0,A3 (yI l.ds i bc))]
def al6(f:j<i)(b:i<yD l.ds)(g:yD l.ds<=1000)(h:gr (yI l.ds j bc).nm (yI l.ds i bc).nm=aj):
  af zZq G 0 (ae f90 1) (mdN l i j) z3 (mdN l i (j+1)):=by
 have d:=Ie fZ za f (apU b)
 have c:=yU fZ za f (apU b)
 have e:=C2 fZ f (apU b) bc;exact af.r a [.eb 33 (ah f),zD d,zD c,.eq 35 e,.eq 40 (oC h),.eq 42 (bL (cI f za))]
def ajp:af zZq G 0 (ae f90 1) (mdN l i i) (yu 2) (mdN l i i):=
 af.r a [.eb 33 (c9 (apc i))]
def al5(f:j<i)(b:i<yD l.ds)(g:yD l.ds<=1000)(h:sS l.ds i j=aj):
  af zZq G 0 (ae f90 2) (mdB l i j) z3 (mdB l i (j+1)):=by
 have d:=Ie fZ za f (apU b)
 have c:=yU fZ za f (apU b)
 have e:=C2 fZ f (apU b) bc;exact af.r a [.eb 61 (ah f),zD d,zD c,.eq 63 e,.eb 68 h,.eq 70 (bL (cI f za))]
def ajo:af zZq G 0 (ae f90 2) (mdB l i i) (yu 4) (mdB l i i):=
 af.r a [.eb 61 (c9 (apc i))]
def abz(b:i<yD l.ds)(f:yD l.ds<=1000)(h:Rf l i=0):
  af zZq G 0 (ae f90 0) (mdS l i) z3 (mdS l (i+1)):=by
 obtain⟨t,s,r,q,p⟩:=ac2 b h;have k:=cE fZ za b
 have g:=aq fZ za b
 have e:=fO fZ b bc;have m:=D7 a t;have o:=Xt a r;have u:((yI l.ds i bc).body==0)=aj:=by rw[c4];exact q
 have d:(0:cA)<=0/\(0:cA)<=zNq i/\zNq i<=(yD l.ds:cA):=⟨asg 0,arn i,asB.2 (apU b)⟩;have n:=aI.z zZq G (ae f90 1) (yu 2) (mdN l i i) (λj=>mdN l i j) i (λj c=>al6 a c b f (s j c)) (ajp a)
 have lq:=aI.z zZq G (ae f90 2) (yu 4) (mdB l i i) (λj=>mdB l i j) i (λj c=>al5 a c b f (p j c)) (ajo a)
 exact af.r a [.eb 18 (ah b),zD k,zD g,.eq 21 e,zC m,.er 29 (nat i),zD d,.code n,zC o,.eb 53 u,.er 57 (nat i),zD d,.code lq,.eq 71 (bL (cI b za))]
def ajq:af zZq G 0 (ae f90 0) (mdS l (yD l.ds)) (yu 0) (mdS l (yD l.ds)):=
 af.r a [.eb 18 (c9 (apc (yD l.ds)))]
def SH(d:¬2<yD l.ds)(h:jY (Rf l) (yD l.ds)=0):Spec zZq G 90 [Co l] (zT .nilIface):=by have c:=aI.z zZq G (ae f90 0) (yu 0) (mdS l (yD l.ds)) (λk=>mdS l k) (yD l.ds) (λk b=>abz a b za (jr h k b)) (ajq a);exact Spec.r a func90 [1] [.eb 12 (fu d),.code c]
def EO(h:PM l=0):n7 l.nm=bj/\yD l.bs≠0/\¬8<yD l.bs/\Kz l.bs=0/\¬16<yD l.js/\jY (P3 l) (yD l.js)=0/\¬2<yD l.ds/\jY (Rf l) (yD l.ds)=0:=by unfold PM at h;split at h;cases h;rename_i g;split at h;cases h;rename_i f;split at h;cases h;rename_i e;split at h;rename_i b;exact api h b;rename_i b;split at h;cases h;rename_i d;split at h;rename_i a;exact api h a;rename_i a;split at h;cases h;rename_i c;exact⟨by simpa using g,f,e,by omega,d,by omega,c,h⟩
def PF(a:aa G)(ok:l.Ok)(h:PM l=0):Spec zZq G 37 [Co l] (zT .nilIface):=by obtain⟨p,o,n,m,k,g,f,e⟩:=EO h;have c:=D7 a p;have b:=W9 a (bs:=l.bs) za ok.bs m;have j:=W8 a k ok g;have d:=SH a f e;exact Spec.r a func37 [1] [zC c,.eb 13 (fh o),.eb 18 (fu n),zC b,zC j,zC d]
end
open fb
def HA(m:Cm):Mk:=⟨m.nm,m.x.q,m.y.q⟩
def J6(b:xd):Bd:=⟨b.nm,b.aC.map HA⟩
def aex(j:Q_):Jt:=⟨j.nm,j.kind.toNat,j.a.toNat,j.p.toNat,j.b.toNat,j.on.toNat,j.to.toNat⟩
def OG(d:VQ):Dr:=⟨d.nm,d.body.toNat⟩
def jA(l:pB):Lk:=⟨l.nm,l.bs.map J6,l.js.map aex,l.ds.map OG⟩
variable {e:Raw} {o r:Type}
def yR{f:o->ai D}{g:r->ai D}{t:o->r}{l:ai o}(h:∀x∈l,f x=g (t x)):aQ f l=aQ g (l.map t):=by
 unfold aQ;rw[apq,List.flatMap_map];congr 1;induction l with
 |nil=>rfl
 |cons x l a=>
  rw[ap',ap',h x (apw ..),a λy b=>h y (apX _ b)]
def H'(h:e.valid=bj):qO e=cF e.q:=by have:=Oy h;unfold qO cF;rw[<-this]
def yi[ka o]{l:ai o}{P:o->Prop}(h:∀i<yD l,P (yI l i bc)):∀x∈l,P x:=λx b=>by obtain⟨i,a,e⟩:=apF.1 b;have:=h i a;rw[apf,apj a]at this;rw[<-e];exact this
def qT{x:cA}(h:0<=x):int x=nat x.toNat:=by show D.lit (.int .i64 x)=zT (.int .i64 (zNq x.toNat));rw[show zNq x.toNat=x from Int.toNat_of_nonneg h]
def mq{x:cA}(h:vi x c=bj):0<=x/\x.toNat<c:=by obtain⟨m,rfl,a⟩:=uv h;exact⟨arn m,a⟩
section
variable {l:pB}
def wi(h:PM l=0):∀b∈l.bs,yD b.aC<=8/\∀m∈b.aC,m.x.valid=bj/\m.y.valid=bj:=by
 obtain⟨-,-,-,f,-⟩:=EO h;refine yi λi d=>?_
 obtain⟨-,-,e,c⟩:=TH d (jr f i d);exact⟨e,yi λk a=>⟨(R9 a (c k a)).2.2.1,(R9 a (c k a)).2.2.2⟩⟩
def U1(h:PM l=0):∀j∈l.js,JV l j:=by obtain⟨-,-,-,-,-,b,-⟩:=EO h;exact yi λi a=>(abS a (jr b i a)).2.2
def DK(h:PM l=0):∀i<yD l.ds,vi (yI l.ds i bc).body (yD l.bs)=bj/\(yI l.ds i bc).body≠0/\∀j<i,sS l.ds i j=aj:=by obtain⟨-,-,-,-,-,-,-,b⟩:=EO h;exact λi a=>(ac2 a (jr b i a)).2.2
def SL(h:PM l=0):Co l=lM (jA l):=by
 have s:aQ tv l.bs=aQ A4 (l.bs.map J6):=yR λb p=>by
  have c:=(wi h b p).2;show [xw b.nm,aQ qp b.aC]=[zT (.string b.nm),aQ vt (b.aC.map HA)];rw[yR (g:=vt) (t:=HA) λm e=>by
   obtain⟨v1,v2⟩:=c m e;show xw m.nm::(qO m.x++qO m.y)=zT (.string m.nm)::cPc m.x.q m.y.q;rw[H' v1,H' v2];rfl]
  rfl
 have r:aQ Fk l.js=aQ Hh (l.js.map aex):=yR λj f=>by
  have g:=U1 h j f;have a:0<=j.kind:=by rcases g.kd with⟨k,-⟩|⟨k,-⟩<;>omega
  have t0:0<=j.to:=by
   rcases g.kd with⟨-,k⟩|⟨-,k,-⟩
   ·omega
   ·exact(mq k).1
  show [xw j.nm,int j.kind,int j.a,int j.p,int j.b,int j.on,int j.to]=[zT (.string j.nm),nat j.kind.toNat,nat j.a.toNat,nat j.p.toNat,nat j.b.toNat,nat j.on.toNat,nat j.to.toNat];rw[qT a,qT (mq g.a).1,qT (mq g.p).1,qT (mq g.b).1,qT (mq g.on).1,qT t0];rfl
 have q:aQ A3 l.ds=aQ Ky (l.ds.map OG):=yR λd o=>by
  have:=yi (P:=λd=>vi d.body (yD l.bs)=bj) (λi n=>(DK h i n).1) d o
  show [xw d.nm,int d.body]=[zT (.string d.nm),nat d.body.toNat];rw[qT (mq this).1];rfl
 show D.agg [xw l.nm,aQ tv l.bs,aQ Fk l.js,aQ A3 l.ds]=z4 [zT (.string l.nm),aQ A4 (l.bs.map J6),aQ Hh (l.js.map aex),aQ Ky (l.ds.map OG)];rw[s,r,q];rfl
end
section
variable {l:pB}
def VH(h:c<yD l.bs):(jA l).bs.getD c bc=J6 (yI l.bs c bc):=rU J6 h bc bc
def UT{k:aw}(h:c<yD l.bs)(a:k<(yI l.bs c bc).aC.length):dQ (jA l) c k=HA ((yI l.bs c bc).aC.getD k bc):=by unfold dQ;rw[VH h];exact rU HA a bc bc
def zM(a:cl):wW a a=0:=by unfold wW;rw[ape (ar7),ape (ar7)]
def abF(h:PM l=0):g7 (jA l):=by
 obtain⟨-,B,A,-,z,-,y,-⟩:=EO h;have p:(jA l).bs.length=yD l.bs:=apq ..;have v:(jA l).js.length=yD l.js:=apq ..;have w:(jA l).ds.length=yD l.ds:=apq ..;have c:∀j∈(jA l).js,∃i∈l.js,j=aex i/\JV l i:=λj a=>by obtain⟨i,f,rfl⟩:=apN.1 a;exact⟨i,f,rfl,U1 h i f⟩
 have s:∀d∈(jA l).ds,∃i∈l.ds,d=OG i/\vi i.body (yD l.bs)=bj/\i.body≠0:=λd m=>by obtain⟨i,f,rfl⟩:=apN.1 m;exact⟨i,f,rfl,yi (P:=λd:VQ=>vi d.body (yD l.bs)=bj/\d.body≠0) (λi f=>⟨(DK h i f).1,(DK h i f).2.1⟩) i f⟩
 have pl:∀{x:cA},vi x (yD l.bs)=bj->((jA l).bs.getD x.toNat bc).aC.length=(nZ l x).length:=λ{x} u=>by rw[VH (mq u).2];exact apq ..
 refine⟨by omega,by omega,by omega,by omega,λj a=>?_,λj a=>?_,λj a=>?_,λj a=>?_,λj a=>?_,λj a=>?_,λj a b=>?_,λj a b=>?_,λd m=>?_,λd m=>?_⟩;obtain⟨i,-,rfl,g⟩:=c j a;show i.kind.toNat=0\/i.kind.toNat=1;rcases g.kd with⟨k,-⟩|⟨k,-⟩
 rw[k];exact z1 rfl;rw[k];exact z2 rfl;obtain⟨i,-,rfl,g⟩:=c j a;rw[p];exact(mq g.a).2;obtain⟨i,-,rfl,g⟩:=c j a;rw[p];exact(mq g.b).2;obtain⟨i,-,rfl,g⟩:=c j a;intro e;have e:i.a.toNat=i.b.toNat:=e;have n:=g.ne;rw[c4]at n;have:=(mq g.a).1;have:=(mq g.b).1;omega;obtain⟨i,-,rfl,g⟩:=c j a;show i.p.toNat<((jA l).bs.getD i.a.toNat bc).aC.length;rw[pl g.a];exact(mq g.p).2;obtain⟨i,-,rfl,g⟩:=c j a;show i.on.toNat<((jA l).bs.getD i.b.toNat bc).aC.length;rw[pl g.b];exact(mq g.on).2;obtain⟨i,-,rfl,g⟩:=c j a;have b:i.kind.toNat=1:=b;show i.to.toNat<((jA l).bs.getD i.b.toNat bc).aC.length;rw[pl g.b];rcases g.kd with⟨k,-⟩|⟨-,k,-⟩
 rw[k]at b;cases b;exact(mq k).2;obtain⟨i,-,rfl,g⟩:=c j a;have b:i.kind.toNat=1:=b;rcases g.kd with⟨k,-⟩|⟨-,k,o⟩
 rw[k]at b;cases b;have t:=(mq g.b).2;have o1:=(mq g.on).2;have t1:=(mq k).2;show(dQ (jA l) i.b.toNat i.on.toNat).x≠(dQ (jA l) i.b.toNat i.to.toNat).x\/(dQ (jA l) i.b.toNat i.on.toNat).y≠(dQ (jA l) i.b.toNat i.to.toNat).y;rw[UT t o1,UT t t1];unfold Ba nZ at o;by_cases r:((yI l.bs i.b.toNat bc).aC.getD i.on.toNat bc).x.q=((yI l.bs i.b.toNat bc).aC.getD i.to.toNat bc).x.q;by_cases q:((yI l.bs i.b.toNat bc).aC.getD i.on.toNat bc).y.q=((yI l.bs i.b.toNat bc).aC.getD i.to.toNat bc).y.q;rw[r,q,zM,zM]at o;cases o;exact z2 q;exact z1 r;obtain⟨i,-,rfl,g,-⟩:=s d m;rw[p];exact(mq g).2;obtain⟨i,-,rfl,g,n⟩:=s d m;intro e;have e:i.body.toNat=0:=e;have:=(mq g).1;omega
def ahx(h:PM l=0):akY (jA l):=by
 have d:(jA l).ds.length=yD l.ds:=apq ..;have key:∀i j,i<yD l.ds->j<i->((jA l).ds.getD i bc).body≠((jA l).ds.getD j bc).body:=λi j a b e=>by have g:(jA l).ds.getD i bc=OG (yI l.ds i bc):=rU OG a bc bc;have f:(jA l).ds.getD j bc=OG (yI l.ds j bc):=rU OG za bc bc;rw[g,f]at e;have e:(yI l.ds i bc).body.toNat=(yI l.ds j bc).body.toNat:=e;obtain⟨a1,-,n⟩:=DK h i a;obtain⟨m,-,-⟩:=DK h j za;have:=n j b;unfold sS at this;rw[c4]at this;have:=(mq a1).1;have:=(mq m).1;omega
 intro i j a b e;rw[d]at a b;obtain k|heq|c:=aq5 i j
 exact api e.symm (key j i b k);exact heq;exact api e (key i j a c)
end
def mo(r:Raw):b5:=decide (2<yD r.n+yD r.d)
variable {l:aw}
def Hk(h:c+l<=1000000000000):bJ .i64 (zNq c+zNq l)=zNq (c+l):=by have e:zNq c+zNq l=zNq (c+l):=rfl;rw[e];have d:(0:cA)<=zNq (c+l):=arn _;have a:zNq (c+l)<=(1000000000000:aw):=asB.2 h;exact qu za za
def ahw{x:Raw}(b:yD x.n+yD x.d<=1000000000000):Spec zZq G 19 [zK 1 aj (qO x)] (bool (mo x)):=by unfold mo;have e:=bL (Hk b);by_cases h:2<yD x.n+yD x.d;rw[apE h];exact Spec.r a func19 [] [.eq 22 e,.eb 23 (uC h)];rw[apG h];exact Spec.r a func19 [] [.eq 22 e,.eb 23 (fu h)]
def ama{x y:Raw}(f:yD x.n+yD x.d<=1000000000000)(d:yD y.n+yD y.d<=1000000000000):Spec zZq G 19 [zK 2 aj (qO x++qO y)] (bool (mo x||mo y)):=by unfold mo;have e:=bL (Hk f);have c:=bL (Hk d);by_cases h:2<yD x.n+yD x.d;rw[apE h];exact Spec.r a func19 [] [.eq 22 e,.eb 23 (uC h)];rw[apG h];by_cases b:2<yD y.n+yD y.d;rw[apE b];exact Spec.r a func19 [] [.eq 22 e,.eb 23 (fu h),.eq 22 c,.eb 23 (uC b)];rw[apG b];exact Spec.r a func19 [] [.eq 22 e,.eb 23 (fu h),.eq 22 c,.eb 23 (fu b)]
def TZ(h:(words c).length<=1):c<=2^64:=by
 have a:=mE (aU c);rw[aK]at a;have n:BP (words c).length<=BP 1:=ny h;have b:BP 1<=2^64:=zy
 omega
def gY.rt{q:cl}(h:gY 1 q):iC 64 q:=⟨TZ h.1,TZ h.2.1⟩
def HS(d:e.ok c)(a:e.valid=bj)(k:mo e=aj):iC 64 e.q:=by
 have k:¬2<yD e.n+yD e.d:=by simpa [mo]using k
 have r:e.ok 1:=by
  obtain⟨d1,d2,-,-,-⟩:=d;by_cases b:e.n=[]/\e.d=[];exact⟨d1,d2,by rw[b.1];simp,by rw[b.2];simp,by omega⟩;have g:e.mz:=by unfold Raw.valid at a;rw[ape b]at a;simpa using a
  have f:0<yD e.n:=aqd.2 g.1;have h:0<yD e.d:=aqd.2 g.2.1;exact⟨d1,d2,by omega,by omega,by omega⟩
 exact gY.rt r.sz
def Oi(l:pB):Prop:=∀b∈l.bs,∀m∈b.aC,mo m.x=aj/\mo m.y=aj
def amb(ok:g.Ok)(h:PM g=0)(m:Oi g):LkB 64 (jA g):=λb k n=>by
 obtain⟨c,a⟩:=n;have j:(jA g).bs.length=yD g.bs:=apq ..;rw[j]at c;have e:=VH c;rw[e]at a;have a:k<(yI g.bs b bc).aC.length:=by
  have:(J6 (yI g.bs b bc)).aC.length=(yI g.bs b bc).aC.length:=apq ..;omega
 rw[UT c a];have d:=aA c (bc:xd);have hm:=aA a (bc:Cm);obtain⟨s1,s2⟩:=m _ d _ hm;obtain⟨v1,v2⟩:=(wi h _ d).2 _ hm;have f:=(ok.bs _ d).aC _ hm;obtain⟨p,i,-⟩:=f.x;obtain⟨o,l,-⟩:=f.y;exact⟨HS i v1 s1,HS l v2 s2⟩
structure zZ where
 t:Raw
 half:b5
instance:ka zZ:=⟨⟨⟨aj,[],[]⟩,aj⟩⟩
def oU(x:zZ):ai D:=qO x.t++[bool x.half]
def uH(x:zZ):(oU x).length=4:=rfl
def zZ.Ok(x:zZ):Prop:=∃k,x.t.ok k/\2*k<KB
def YU(x:zZ):aw:=if x.t.valid=aj then 2 else if x.half=bj/\(nV x.t.q !=0)=bj then 2 else 0
def Yi{x:zZ}(ok:x.Ok):Spec zZq G 31 [z4 (oU x)] (nat (YU x)):=by
 obtain⟨k,d,f⟩:=ok;have v:=lK a d za
 have s:=as8 a (Raw.ok.uV d) za
 obtain⟨r,e⟩:=x;unfold YU;simp only at v s⊢;cases b:r.valid with
 |false=>
  rw[b]at v;exact Spec.r a func31 [1] [zC v]
 |true=>
  rw[b]at v;cases e with
  |false=>exact Spec.r a func31 [1] [zC v]
  |true=>
   cases c:(nV r.q !=0)with
   |true=>exact Spec.r a func31 [1] [zC v,zC s,.eb 14 c]
   |false=>exact Spec.r a func31 [1] [zC v,zC s,.eb 14 c]
def Em(x:zZ):Tn:=⟨x.t.q,x.half⟩
def yK{x:zZ}(h:YU x=0):x.t.valid=bj/\(x.half=bj->x.t.q=0):=by
 unfold YU at h;split at h;cases h;rename_i d;split at h;cases h;rename_i c;refine⟨by simpa using d,λb=>?_⟩;have a:nV x.t.q=0:=by
  cases q:(nV x.t.q !=0)with
  |true=>exact api ⟨b,q⟩ c
  |false=>simpa using q
 exact HV.1 a
def aih{x:zZ}(h:YU x=0):oU x=Y9 (Em x):=by unfold oU;rw[H' (yK h).1];rfl
def ano{x:zZ}(ok:x.Ok)(h:YU x=0)(c:mo x.t=aj):TnC G (Em x)/\iC 64 (Em x).t/\((Em x).half=bj->(Em x).t=0):=by
 obtain⟨k,d,e⟩:=ok;have q:=HS d (yK h).1 c;have b:64<=NB:=by have:=pn;have:=ad_;omega
 exact⟨TL a (q.qk b) (yK h).2,q,(yK h).2⟩
end Tw
section
open Go Go.RowKit Go.Proofs Go.ChangeShapes Go.WideShapes Go.ChangeAt Tw
variable {H:Type} {enc:c5×b3->H} {W:bn} {fuel:aw} {cs:ai b3} {x:qm H×ai oA}
abbrev kK(d:qm H):aw:=Go.Proofs.YtmcpfihkambgnaaGreat.Rows.uptoBulk d
abbrev D1(l:ai (qm H)):aw:=Go.Proofs.YtmcpfihkambgnaaGreat.Rows.uptoBulkAll l
def AQ{d:qm H}{l:ai (qm H)}(h:d∈l):kK d<=D1 l:=by
 induction l with
 |nil=>cases h
 |cons x r a=>
  show Go.Proofs.YtmcpfihkambgnaaGreat.Rows.uptoBulk d<=Go.Proofs.YtmcpfihkambgnaaGreat.Rows.uptoBulkAll (x::r);simp only[Go.Proofs.YtmcpfihkambgnaaGreat.Rows.uptoBulkAll];obtain e|e:=apo.1 h
  subst e;omega;have:=a e;simp only[D1,kK]at this;omega
def adD(d:qm H):1<=kK d:=by
 cases d with
 |lit l=>cases l<;>simp[kK,Go.Proofs.YtmcpfihkambgnaaGreat.Rows.uptoBulk]
 |_=>simp[kK,Go.Proofs.YtmcpfihkambgnaaGreat.Rows.uptoBulk]
def Gh(l:ai (qm H)):yD l<=D1 l:=by
 induction l with
 |nil=>simp
 |cons x r a=>have:=adD x;simp only[D1,kK,Go.Proofs.YtmcpfihkambgnaaGreat.Rows.uptoBulkAll,ey]at*;omega
def JC{es rs:ai (qm H)}:D1 es<=kK (.slice es rs):=by simp only[kK,D1,Go.Proofs.YtmcpfihkambgnaaGreat.Rows.uptoBulk];omega
def JD{ps:ai (qm H)}:D1 ps<=kK (.agg ps):=by simp only[kK,D1,Go.Proofs.YtmcpfihkambgnaaGreat.Rows.uptoBulk];omega
variable {w:b5}
def QW{t e:c5}(f:Tryz.prog.underlying t=a6 (.slice e))(h:dO enc zZq W 0 (λ_=>bj) bj fuel t cs=a6 x){k:aw}{xs:ai D}(c:aR W JR cs [zK k w xs]):k<=kK x.1:=by
 rcases DataW.trod_slice f h with⟨rfl,-⟩|⟨a,len,j,elems,b,n,_,rfl,rfl,o,m,l,d,g,-,-⟩
 have:=c.head;cases this;exact apJ _;have:=c.head;cases this;have i:=Gh (elems.map (·.1));have p:=JC (es:=elems.map (·.1)) (rs:=b.map (·.1));rw[apq]at i;show _<=kK (DataW.slice (elems.map (·.1)) (b.map (·.1)));omega
def A6(r:Raw)(b:aw):Prop:=(yD r.n<=b/\yD r.d<=b)/\Tw.Raw.amV r
def Al(h:dO enc zZq W 0 (λ_=>bj) bj fuel 51 cs=a6 x):∃r:Raw,A6 r (kK x.1)/\aR W JR cs r.cells:=by
 obtain⟨a,n,-,p,j,y,e⟩:=kq Tryz.underlying51 h;rw[AN]at j;obtain⟨c0,B,A,rfl⟩:=three j;have E:a.length=3:=y;obtain⟨q,z⟩:=gq (l:=a) (i:=0) za;obtain⟨d,o⟩:=gq (l:=a) (i:=1) za;obtain⟨c,m⟩:=gq (l:=a) (i:=2) za;have f0:=cC e 0 _ rfl (t:=4) (off:=0) rfl rfl Jq;have f1:=cC e 1 _ rfl (t:=49) (off:=1) rfl rfl Gf;have f2:=cC e 2 _ rfl (t:=49) (off:=2) rfl rfl Gf;rw[z]at f0;rw[o]at f1;rw[m]at f2;have f0:dO enc zZq W 0 (λ_=>bj) bj n 4 [c0]=a6 q:=f0;have f1:dO enc zZq W 0 (λ_=>bj) bj n 49 [B]=a6 d:=f1;have f2:dO enc zZq W 0 (λ_=>bj) bj n 49 [A]=a6 c:=f2;obtain⟨b,k,-⟩:=DataW.trod_bool uM f0;obtain⟨w,d1,g⟩:=Ip f1;obtain⟨v,d2,f⟩:=Ip f2;have D:=QW tc f1 g;have C:=QW tc f2 f;have u:kK d.1<=kK x.1:=by rw[p];exact apm (AQ (apN.2 ⟨d,ar2 o,rfl⟩)) JD
 have s:kK c.1<=kK x.1:=by rw[p];exact apm (AQ (apN.2 ⟨c,ar2 m,rfl⟩)) JD
 simp only[en,and_true]at k;subst k;exact⟨⟨b,w,v⟩,⟨⟨apm D u,apm C s⟩,d1,d2⟩,aR.cons (.lit _) (aR.append g f)⟩
def PO{α:Type}(p:aw->α->Prop):∀n:aw,(∀i<n,∃r,p i r)->∃l:ai α,yD l=n/\∀i(h:i<yD l),p i l[i]
 |0,_=>⟨[],rfl,λi h=>by cases h⟩
 |n+1,h=>by
  obtain⟨l,e,d⟩:=PO p n λi b=>h i za
  obtain⟨r,c⟩:=h n za
  refine⟨l++[r],by simp[e],λi b=>?_⟩
  by_cases a:i<yD l
  ·rw[aqW a];exact d i a
  ·have:i=n:=by simp at b;omega
   subst this;rw[aqR za]
   simpa using c
def LN{α β:Type}{f:α->ai β}{sz:aw}:∀{l:ai α}(_:∀x∈l,(f x).length=sz)(i k:aw)(_:k<sz)(a:i<yD l),(l.flatMap f)[i*sz+k]? =(f l[i])[k]?
 |[],_,i,k,c,a=>by cases a
 |x::l,b,0,k,c,a=>by
  have:=b x zb
  rw[ap',aqH,aqa,aqe za]
  rfl
 |x::l,b,i+1,k,c,a=>by
  have d:=b x zb
  rw[ap',apS (by rw[d,aqk];omega),d]
  have e:(i+1)*sz+k-sz=i*sz+k:=by rw[aqk];omega
  rw[e];exact LN (l:=l) (λy g=>b y (by simp[g])) i k c (by simpa using a)
def LM{α β:Type}{f:α->ai β}{sz:aw}:∀{l:ai α}(_:∀x∈l,(f x).length=sz),(l.flatMap f).length=yD l*sz
 |[],_=>by simp
 |x::l,a=>by rw[ap',ap4,a x zb,LM (l:=l) (λy b=>a y (by simp[b])),aqO,aqk];omega
def H6{α:Type}{W:bn}{X:aw->Prop}{f:α->ai b3}{g:α->ai D}:∀{l:ai α}(_:∀x∈l,aR W X (f x) (g x)),aR W X (l.flatMap f) (l.flatMap g)
 |[],_=>by simpa using aR.nil
 |x::l,h=>by rw[ap',ap'];exact aR.append (h x zb) (H6 (l:=l) λy a=>h y (by simp[a]))
def ue{α:Type}{f:α->ai D}{ok:α->aw->Prop}{t e:c5}{sz:aw}(mono:∀r a b,ok r a->a<=b->ok r b)(K:Tryz.prog.underlying t=a6 (.slice e))(N:Tryz.prog.cellsOf e=sz)(E:0<sz)
  (one:∀{n:aw}{cs:ai b3}{x:qm H×ai oA},dO enc zZq W 0 (λ_=>bj) bj n e cs=a6 x->∃r,ok r (kK x.1)/\aR W JR cs (f r))
  (h:dO enc zZq W 0 (λ_=>bj) bj fuel t cs=a6 x):∃l:ai α,(∀r∈l,ok r (kK x.1))/\l.length<=kK x.1/\aR W JR cs [aQ f l]:=by
 rcases DataW.trod_slice K h with⟨rfl,-⟩|⟨a,len,w,elems,c,n,_,rfl,rfl,X,M,L,B,v,-,-⟩
 ·exact⟨[],(λr m=>by cases m),by simp,aR.cons (Db W JR aj) aR.nil⟩
 ·have U:D1 (elems.map (·.1))<=kK (DataW.slice (elems.map (·.1)) (c.map (·.1))):=JC
  have each:∀i<len,∃p:α×ai b3,ok p.1 (kK (DataW.slice (elems.map (·.1)) (c.map (·.1))))/\aR W JR p.2 (f p.1)/\p.2.length=sz/\∀k<sz,W.cell? (a.add (i*sz+k))=p.2[k]? :=by
   intro i g;have he:=v i g;rw[N,apj za,Option.bind_eq_some_iff]at he
   obtain⟨J,P,O⟩:=he;obtain⟨r,R,Q⟩:=one O;obtain⟨-,k2,k3⟩:=World.cells?_some P;refine⟨(r,J),mono _ _ _ R (apm (AQ (apN.2 ⟨_,apD _,rfl⟩)) U),Q,k2,λk u=>?_⟩
   have:=k3 k u;rw[Addr.add_add]at this;exact this
  obtain⟨d,s,q⟩:=PO _ len each;have z:∀p∈d,p.2.length=sz:=λp o=>by
   obtain⟨i,g,rfl⟩:=apF.1 o;exact(q i g).2.2.1
  have m:∀p∈d,aR W JR p.2 (f p.1):=λp o=>by
   obtain⟨i,g,rfl⟩:=apF.1 o;exact(q i g).2.1
  have T:(d.map (·.1)).flatMap f=d.flatMap λp=>f p.1:=by rw[List.flatMap_map]
  have F:=H6 m;have y:(d.flatMap λp=>p.2).length=len*sz:=by rw[LM z,s]
  have bl:=Gh (elems.map (·.1));rw[apq]at bl;refine⟨d.map (·.1),λr m=>?_,by rw[apq,s];show _<=kK (DataW.slice (elems.map (·.1)) (c.map (·.1)));omega,aR.cons ?_ aR.nil⟩
  ·obtain⟨p,o,rfl⟩:=apN.1 m
   obtain⟨i,g,rfl⟩:=apF.1 o;exact(q i g).1
  ·unfold aQ
   rw[T,apq,s];refine .row (a6 a) len w aj (d.flatMap λp=>p.2) _ F.1 M L (λh=>by cases h) (λj C=>⟨a,rfl,λh=>h,?_⟩) F.2
   have V:j<len*sz:=by rw[<-y];exact C
   have A:j/sz<d.length:=by rw[s];exact(ap1 E).2 V
   have u:j%sz<sz:=apP _ E;have S:j/sz*sz+j%sz=j:=by rw[apC];exact aqE j sz
   have I:=(q (j/sz) A).2.2.2 (j%sz) u;have G:=LN z (j/sz) (j%sz) u A;rw[S]at I G;rw[I,<-G];exact apj C
def A6.mono(r:Raw)(a b:aw)(h:A6 r a)(c:a<=b):A6 r b:=⟨⟨apm h.1.1 c,apm h.1.2 c⟩,h.2⟩
end
section
open Go Go.RowKit Go.Proofs Go.ChangeShapes Go.WideShapes Go.ChangeAt Tw
variable {H:Type} {enc:c5×b3->H} {W:bn} {fuel:aw} {cs:ai b3} {x:qm H×ai oA}
def wX:Tryz.prog.cellsOf 9=1:=zc
def oS:Tryz.prog.cellsOf 3=1:=zc
def yX(h:dO enc zZq W 0 (λ_=>bj) bj fuel 9 cs=a6 x):∃s:cB,s.size<=kK x.1/\aR W JR cs [xw s]:=by
 obtain⟨s,rfl,rfl,-⟩:=DataW.trod_string Tryz.underlying9 h;refine⟨s,?_,aR.cons (.lit _) aR.nil⟩;have e:s.data.toList.length=s.size:=by rw[aqT];rfl
 show s.size<=s.data.toList.length+1;omega
def qQ(h:dO enc zZq W 0 (λ_=>bj) bj fuel 3 cs=a6 x):∃n:cA,aR W JR cs [int n]:=by obtain⟨n,rfl,-,-⟩:=DataW.trod_int Tryz.underlying3 h;exact⟨n,aR.cons (.lit _) aR.nil⟩
def oE{xs:ai (qm H×ai oA)}{i:aw}{y:qm H×ai oA}(h:xs[i]? =a6 y):kK y.1<=kK (.agg (xs.map (·.1))):=apm (AQ (apN.2 ⟨y,ar2 h,rfl⟩)) JD
def cut{α:Type}(l:ai α)(k m:aw)(h:yD l=k+m):∃a b,l=a++b/\yD a=k/\yD b=m:=⟨l.take k,l.drop k,(List.take_append_drop k l).symm,by rw[apr];omega,by rw[apu];omega⟩
def MkB(m:Cm)(b:aw):Prop:=m.nm.size<=b/\A6 m.x b/\A6 m.y b
def MkB.mono(m:Cm)(a b:aw)(h:MkB m a)(c:a<=b):MkB m b:=⟨apm h.1 c,A6.mono _ _ _ h.2.1 c,A6.mono _ _ _ h.2.2 c⟩
def Jp:Tryz.prog.cellsOf 93=7:=zc
def QR:Tryz.prog.cellsOf 89=1:=zc
def Jr:Tryz.prog.cellsOf 91=2:=zc
def WT(h:dO enc zZq W 0 (λ_=>bj) bj fuel 93 cs=a6 x):∃m:Cm,MkB m (kK x.1)/\aR W JR cs (qp m):=by obtain⟨d,n,-,P,k,A,e⟩:=kq Tryz.underlying93 h;rw[Jp]at k;obtain⟨a,r,rfl,E,B⟩:=cut cs 1 6 k;obtain⟨b,c,rfl,D,Q⟩:=cut r 3 3 B;obtain⟨a0,rfl⟩:=ap_.1 E;obtain⟨O,N,M,rfl⟩:=three D;obtain⟨c0,L,K,rfl⟩:=three Q;have R:d.length=3:=A;obtain⟨w,q⟩:=gq (l:=d) (i:=0) za;obtain⟨v,p⟩:=gq (l:=d) (i:=1) za;obtain⟨u,o⟩:=gq (l:=d) (i:=2) za;have f0:=cC e 0 _ rfl (t:=9) (off:=0) rfl rfl wX;have f1:=cC e 1 _ rfl (t:=51) (off:=1) rfl rfl AN;have f2:=cC e 2 _ rfl (t:=51) (off:=4) rfl rfl AN;rw[q]at f0;rw[p]at f1;rw[o]at f2;have f0:dO enc zZq W 0 (λ_=>bj) bj n 9 [a0]=a6 w:=f0;have f1:dO enc zZq W 0 (λ_=>bj) bj n 51 [O,N,M]=a6 v:=f1;have f2:dO enc zZq W 0 (λ_=>bj) bj n 51 [c0,L,K]=a6 u:=f2;obtain⟨s,s1,s2⟩:=yX f0;obtain⟨z,J,G⟩:=Al f1;obtain⟨y,I,F⟩:=Al f2;have j:=oE q;have g:=oE p;have f:=oE o;have C:x.1=vq (d.map (·.1)):=aql (·.1) P;rw[<-C]at j g f;exact⟨⟨s,z,y⟩,⟨apm s1 j,A6.mono _ _ _ J g,A6.mono _ _ _ I f⟩,aR.append s2 (aR.append G F)⟩
def BdB(m:xd)(b:aw):Prop:=m.nm.size<=b/\yD m.aC<=b/\∀p∈m.aC,MkB p b
def BdB.mono(m:xd)(a b:aw)(h:BdB m a)(c:a<=b):BdB m b:=⟨apm h.1 c,apm h.2.1 c,λp d=>MkB.mono _ _ _ (h.2.2 p d) c⟩
def WU(h:dO enc zZq W 0 (λ_=>bj) bj fuel 91 cs=a6 x):∃m:xd,BdB m (kK x.1)/\aR W JR cs (tv m):=by obtain⟨b,n,-,E,g,u,e⟩:=kq Tryz.underlying91 h;rw[Jr]at g;obtain⟨a,r,rfl,z,v⟩:=cut cs 1 1 g;obtain⟨a0,rfl⟩:=ap_.1 z;obtain⟨D,rfl⟩:=ap_.1 v;have F:b.length=2:=u;obtain⟨q,k⟩:=gq (l:=b) (i:=0) za;obtain⟨o,j⟩:=gq (l:=b) (i:=1) za;have f0:=cC e 0 _ rfl (t:=9) (off:=0) rfl rfl wX;have f1:=cC e 1 _ rfl (t:=89) (off:=1) rfl rfl QR;rw[k]at f0;rw[j]at f1;have f0:dO enc zZq W 0 (λ_=>bj) bj n 9 [a0]=a6 q:=f0;have f1:dO enc zZq W 0 (λ_=>bj) bj n 89 [D]=a6 o:=f1;obtain⟨s,s1,s2⟩:=yX f0;obtain⟨l,C,B,A⟩:=ue (f:=qp) (ok:=MkB) MkB.mono Tryz.underlying89 Jp za WT f1;have d:=oE k;have c:=oE j;have y:x.1=vq (b.map (·.1)):=aql (·.1) E;rw[<-y]at d c;exact⟨⟨s,l⟩,⟨apm s1 d,apm B c,λp w=>MkB.mono _ _ _ (C p w) c⟩,aR.append s2 A⟩
def JtB(m:Q_)(b:aw):Prop:=m.nm.size<=b
def JtB.mono(m:Q_)(a b:aw)(h:JtB m a)(c:a<=b):JtB m b:=apm h c
def Gg:Tryz.prog.cellsOf 156=7:=zc
def seven{α:Type}{l:ai α}(h:yD l=7):∃a b c d e f g,l=[a,b,c,d,e,f,g]:=by
 match l,h with
 |[a,b,c,d,e,f,g],_=>exact⟨a,b,c,d,e,f,g,rfl⟩
def Sl(h:dO enc zZq W 0 (λ_=>bj) bj fuel 156 cs=a6 x):∃m:Q_,JtB m (kK x.1)/\aR W JR cs (Fk m):=by obtain⟨a,n,-,U,d,A,b⟩:=kq Tryz.underlying156 h;rw[Gg]at d;obtain⟨a0,a1,T,S,R,Q,P,rfl⟩:=seven d;have V:a.length=7:=A;obtain⟨q,e⟩:=gq (l:=a) (i:=0) za;obtain⟨p,O⟩:=gq (l:=a) (i:=1) za;obtain⟨o,N⟩:=gq (l:=a) (i:=2) za;obtain⟨k,M⟩:=gq (l:=a) (i:=3) za;obtain⟨j,L⟩:=gq (l:=a) (i:=4) za;obtain⟨g,K⟩:=gq (l:=a) (i:=5) za;obtain⟨f,J⟩:=gq (l:=a) (i:=6) za;have f0:=cC b 0 _ rfl (t:=9) (off:=0) rfl rfl wX;have f1:=cC b 1 _ rfl (t:=3) (off:=1) rfl rfl oS;have f2:=cC b 2 _ rfl (t:=3) (off:=2) rfl rfl oS;have f3:=cC b 3 _ rfl (t:=3) (off:=3) rfl rfl oS;have f4:=cC b 4 _ rfl (t:=3) (off:=4) rfl rfl oS;have f5:=cC b 5 _ rfl (t:=3) (off:=5) rfl rfl oS;have f6:=cC b 6 _ rfl (t:=3) (off:=6) rfl rfl oS;rw[e]at f0;rw[O]at f1;rw[N]at f2;rw[M]at f3;rw[L]at f4;rw[K]at f5;rw[J]at f6;have f0:dO enc zZq W 0 (λ_=>bj) bj n 9 [a0]=a6 q:=f0;have f1:dO enc zZq W 0 (λ_=>bj) bj n 3 [a1]=a6 p:=f1;have f2:dO enc zZq W 0 (λ_=>bj) bj n 3 [T]=a6 o:=f2;have f3:dO enc zZq W 0 (λ_=>bj) bj n 3 [S]=a6 k:=f3;have f4:dO enc zZq W 0 (λ_=>bj) bj n 3 [R]=a6 j:=f4;have f5:dO enc zZq W 0 (λ_=>bj) bj n 3 [Q]=a6 g:=f5;have f6:dO enc zZq W 0 (λ_=>bj) bj n 3 [P]=a6 f:=f6;obtain⟨s,s1,s2⟩:=yX f0;obtain⟨z,I⟩:=qQ f1;obtain⟨y,G⟩:=qQ f2;obtain⟨w,F⟩:=qQ f3;obtain⟨v,E⟩:=qQ f4;obtain⟨u,D⟩:=qQ f5;obtain⟨r,C⟩:=qQ f6;have c:=oE e;have B:x.1=vq (a.map (·.1)):=aql (·.1) U;rw[<-B]at c;exact⟨⟨s,z,y,w,v,u,r⟩,apm s1 c,aR.append s2 (aR.append I (aR.append G (aR.append F (aR.append E (aR.append D C)))))⟩
def DrB(m:VQ)(b:aw):Prop:=m.nm.size<=b
def DrB.mono(m:VQ)(a b:aw)(h:DrB m a)(c:a<=b):DrB m b:=apm h c
def DX:Tryz.prog.cellsOf 158=2:=zc
def Pj(h:dO enc zZq W 0 (λ_=>bj) bj fuel 158 cs=a6 x):∃m:VQ,DrB m (kK x.1)/\aR W JR cs (A3 m):=by obtain⟨b,n,-,z,e,o,d⟩:=kq Tryz.underlying158 h;rw[DX]at e;obtain⟨a,r,rfl,u,p⟩:=cut cs 1 1 e;obtain⟨a0,rfl⟩:=ap_.1 u;obtain⟨y,rfl⟩:=ap_.1 p;have A:b.length=2:=o;obtain⟨j,f⟩:=gq (l:=b) (i:=0) za;obtain⟨g,w⟩:=gq (l:=b) (i:=1) za;have f0:=cC d 0 _ rfl (t:=9) (off:=0) rfl rfl wX;have f1:=cC d 1 _ rfl (t:=3) (off:=1) rfl rfl oS;rw[f]at f0;rw[w]at f1;have f0:dO enc zZq W 0 (λ_=>bj) bj n 9 [a0]=a6 j:=f0;have f1:dO enc zZq W 0 (λ_=>bj) bj n 3 [y]=a6 g:=f1;obtain⟨s,s1,s2⟩:=yX f0;obtain⟨k,v⟩:=qQ f1;have c:=oE f;have q:x.1=vq (b.map (·.1)):=aql (·.1) z;rw[<-q]at c;exact⟨⟨s,k⟩,apm s1 c,aR.append s2 v⟩
structure YL(l:pB)(b:aw):Prop where
 nm:l.nm.size<=b
 bl:l.bs.length<=b
 jl:l.js.length<=b
 dl:l.ds.length<=b
 bs:∀x∈l.bs,BdB x b
 js:∀x∈l.js,JtB x b
 ds:∀x∈l.ds,DrB x b
def YL.mono{l:pB}{a b:aw}(h:YL l a)(c:a<=b):YL l b:=⟨apm h.nm c,apm h.bl c,apm h.jl c,apm h.dl c,λx d=>BdB.mono _ _ _ (h.bs x d) c,λx d=>JtB.mono _ _ _ (h.js x d) c,λx d=>DrB.mono _ _ _ (h.ds x d) c⟩
def adv:Tryz.prog.cellsOf 26=4:=zc
def NW:Tryz.prog.cellsOf 22=1:=zc
def NV:Tryz.prog.cellsOf 23=1:=zc
def Kx:Tryz.prog.cellsOf 24=1:=zc
def four{α:Type}{l:ai α}(h:yD l=4):∃a b c d,l=[a,b,c,d]:=by
 match l,h with
 |[a,b,c,d],_=>exact⟨a,b,c,d,rfl⟩
def afG(h:dO enc zZq W 0 (λ_=>bj) bj fuel 26 cs=a6 x):∃m:pB,YL m (kK x.1)/\aR W JR cs (uI m):=by obtain⟨a,n,-,O,k,D,c⟩:=kq Tryz.underlying26 h;rw[adv]at k;obtain⟨a0,a1,N,M,rfl⟩:=four k;have P:a.length=4:=D;obtain⟨z,u⟩:=gq (l:=a) (i:=0) za;obtain⟨y,r⟩:=gq (l:=a) (i:=1) za;obtain⟨w,q⟩:=gq (l:=a) (i:=2) za;obtain⟨v,o⟩:=gq (l:=a) (i:=3) za;have f0:=cC c 0 _ rfl (t:=9) (off:=0) rfl rfl wX;have f1:=cC c 1 _ rfl (t:=22) (off:=1) rfl rfl NW;have f2:=cC c 2 _ rfl (t:=23) (off:=2) rfl rfl NV;have f3:=cC c 3 _ rfl (t:=24) (off:=3) rfl rfl Kx;rw[u]at f0;rw[r]at f1;rw[q]at f2;rw[o]at f3;have f0:dO enc zZq W 0 (λ_=>bj) bj n 9 [a0]=a6 z:=f0;have f1:dO enc zZq W 0 (λ_=>bj) bj n 22 [a1]=a6 y:=f1;have f2:dO enc zZq W 0 (λ_=>bj) bj n 23 [N]=a6 w:=f2;have f3:dO enc zZq W 0 (λ_=>bj) bj n 24 [M]=a6 v:=f3;obtain⟨s,s1,s2⟩:=yX f0;obtain⟨C,L,k1,I⟩:=ue (f:=tv) (ok:=BdB) BdB.mono Tryz.underlying22 Jr za WU f1;obtain⟨B,K,k2,G⟩:=ue (f:=Fk) (ok:=JtB) JtB.mono Tryz.underlying23 Gg za Sl f2;obtain⟨A,J,k3,F⟩:=ue (f:=A3) (ok:=DrB) DrB.mono Tryz.underlying24 DX za Pj f3;have j:=oE u;have g:=oE r;have e:=oE q;have d:=oE o;have E:x.1=vq (a.map (·.1)):=aql (·.1) O;rw[<-E]at j g e d;exact⟨⟨s,C,B,A⟩,⟨apm s1 j,apm k1 g,apm k2 e,apm k3 d,λp b=>BdB.mono _ _ _ (L p b) g,λp b=>JtB.mono _ _ _ (K p b) e,λp b=>DrB.mono _ _ _ (J p b) d⟩,aR.append s2 (aR.append I (aR.append G F))⟩
variable {e:Raw} {g:pB}
def Uz{b:aw}(h:A6 e b)(c:b<=1048576):∃k,e.ok k/\2*k<KB:=by refine⟨1048576,⟨λx a=>h.2.1 x a,λx a=>h.2.2 x a,by have:=h.1.1;omega,by have:=h.1.2;omega,by omega⟩,?_⟩;have:=pn;omega
def YL.ok{b:aw}(h:YL g b)(e:b<=1048576):g.Ok:=by refine⟨by have:=h.nm;omega,λx f=>?_,λj l=>?_,λd i=>?_⟩;obtain⟨n,k,c⟩:=h.bs x f;exact⟨by omega,λm a=>⟨by have:=(c m a).1;omega,Uz (c m a).2.1 e,Uz (c m a).2.2 e⟩⟩;have:j.nm.size<=b:=h.js j l;omega;have:d.nm.size<=b:=h.ds d i;omega
def GW{b:aw}(h:A6 e b)(a:b<=1048576):yD e.n+yD e.d<=1000000000000:=by obtain⟨⟨d,c⟩,-⟩:=h;omega
def YL.raw{b:aw}(h:YL g b)(a:b<=1048576):∀x∈g.bs,∀m∈x.aC,yD m.x.n+yD m.x.d<=1000000000000/\yD m.y.n+yD m.y.d<=1000000000000:=λx c m d=>by have:=(h.bs x c).2.2 m d;exact⟨GW this.2.1 a,GW this.2.2 a⟩
def TnB(m:zZ)(b:aw):Prop:=A6 m.t b
def TnB.mono(m:zZ)(a b:aw)(h:TnB m a)(c:a<=b):TnB m b:=A6.mono _ _ _ h c
def Jo:Tryz.prog.cellsOf 87=4:=zc
def WS(h:dO enc zZq W 0 (λ_=>bj) bj fuel 87 cs=a6 x):∃m:zZ,TnB m (kK x.1)/\aR W JR cs (oU m):=by obtain⟨c,n,-,C,f,s,e⟩:=kq Tryz.underlying87 h;rw[Jo]at f;obtain⟨a,r,rfl,w,u⟩:=cut cs 3 1 f;obtain⟨B,A,z,rfl⟩:=three w;obtain⟨c0,rfl⟩:=ap_.1 u;have D:c.length=2:=s;obtain⟨o,j⟩:=gq (l:=c) (i:=0) za;obtain⟨k,y⟩:=gq (l:=c) (i:=1) za;have f0:=cC e 0 _ rfl (t:=51) (off:=0) rfl rfl AN;have f1:=cC e 1 _ rfl (t:=4) (off:=3) rfl rfl Jq;rw[j]at f0;rw[y]at f1;have f0:dO enc zZq W 0 (λ_=>bj) bj n 51 [B,A,z]=a6 o:=f0;have f1:dO enc zZq W 0 (λ_=>bj) bj n 4 [c0]=a6 k:=f1;obtain⟨r,q,p⟩:=Al f0;obtain⟨b,g,-⟩:=DataW.trod_bool uM f1;simp only[en,and_true]at g;subst g;have d:=oE j;have v:x.1=vq (c.map (·.1)):=aql (·.1) C;rw[<-v]at d;exact⟨⟨r,b⟩,A6.mono _ _ _ q d,aR.append p (aR.cons (.lit _) aR.nil)⟩
def Sk(h:dO enc zZq W 0 (λ_=>bj) bj fuel 27 cs=a6 x):∃l:ai zZ,(∀m∈l,TnB m (kK x.1))/\yD l<=kK x.1/\aR W JR cs [aQ oU l]:=
 ue (f:=oU) (ok:=TnB) TnB.mono Tryz.underlying27 Jo za WS h
def TnB.ok{x:zZ}{b:aw}(h:TnB x b)(a:b<=1048576):x.Ok:=Uz h a
end
namespace Tw
section
open fb zY dH
set_option synthInstance.maxSize 100000
set_option synthInstance.maxHeartbeats 2000000
variable {K:Type} [dH K] (ι:pD cl K) (k:cl) (s:aw->K) {t t':aM}
def Model.snoc{d:ai cl}(a:Model ι s t (yD t))(e:dH.nn (s (yD t)))(h:s (yD t)*s (yD t)=vl ι s t d):Model ι s (mK t d) (mK t d).length:=by
 have b:(mK t d).length=yD t+1:=bW d;rw[b];refine⟨λj c=>?_,λj c=>?_⟩;obtain g|g:=apy j (yD t)
 exact a.nn j g;obtain rfl:j=yD t:=za
 exact e;obtain g|g:=apy j (yD t)
 rw[mK,apf,aqe g,<-apf];exact a.sq j g;obtain rfl:j=yD t:=za
 rw[mK,apf,apS (apc _),asw];rw[h];show _=lv ι s (yD t) (aZ d (2^yD t));rw[Ao];rfl
end
end Tw
end Lw

namespace Lw
namespace Tw
section
open fb zY dH
set_option synthInstance.maxSize 100000
set_option synthInstance.maxHeartbeats 2000000
variable {K:Type} [dH K] (ι:pD cl K) (k:cl) (s:aw->K) {t t' T T':aM}
def ahg(q:eJ (yD t) t)(r:Model ι s t (yD t))(b:eJ (yD T) T)(d:Model ι s T (yD T))(le:yD t<=yD T)(up:∀{a:ai cl},Sh (yD t) a->vl ι s T a=vl ι s t a){x:Rp}(h:Zb (yD t) x)(d0:vl ι s t (x.d t)≠0){root:ai cl}(l:Sh (yD T) root):
  fx (yD T) (x.z t T root)/\vl ι s T (x.z t T root).1*vl ι s t (x.d t)=vl ι s T root*vl ι s t x.mc.1-vl ι s t x.h* -vl ι s t x.mc.2/\vl ι s T (x.z t T root).2*vl ι s t (x.d t)=vl ι s T root*vl ι s t x.mc.2-vl ι s t x.h*vl ι s t x.mc.1:=by
 have S:=CT q h;have c:=S.hy.mono le;have n:Sh (yD T) (wH x.mc.2):=c.2.neg;have f:Sh (yD T) (mulL T x.h (wH x.mc.2)):=Sh.mul b (S.hh.mono le) n;have e:Sh (yD T) (mulL T x.h x.mc.1):=Sh.mul b (S.hh.mono le) c.1;have i:Sh (yD T) (mulL T root x.mc.1):=Sh.mul b l c.1;have g:Sh (yD T) (mulL T root x.mc.2):=Sh.mul b l c.2;have p:Sh (yD T) (x.w T root).1:=i.sub f;have o:Sh (yD T) (x.w T root).2:=g.sub e;have m:Sh (yD T) (x.d t):=S.hd.mono le;have j:vl ι s T (x.d t)≠0:=by rw[up S.hd];exact d0
 refine⟨⟨Sh.div b p m,Sh.div b o m⟩,?_,?_⟩
 ·have:=lD ι s b d p m j
  rw[up S.hd]at this;refine this.trans ?_;show vl ι s T (g8 (mulL T root x.mc.1) (mulL T x.h (wH x.mc.2)))=_;rw[dU ι s i f,cZ ι s b d l c.1,cZ ι s b d (S.hh.mono le) n,Hu ι s c.2,up S.hh,up S.hy.1,up S.hy.2]
 ·have:=lD ι s b d o m j
  rw[up S.hd]at this;refine this.trans ?_;show vl ι s T (g8 (mulL T root x.mc.2) (mulL T x.h x.mc.1))=_;rw[dU ι s g e,cZ ι s b d l c.2,cZ ι s b d (S.hh.mono le) c.1,up S.hh,up S.hy.1,up S.hy.2]
end
open Go Go.RowKit Go.Proofs
open fb zY dH
set_option synthInstance.maxSize 100000
set_option synthInstance.maxHeartbeats 2000000
variable {G:bn->Prop}
variable {d:Lk} {f:Gp} {h:ai uU}
def ZJ{a:As}{x:Tn}(g:iX d a f x=a6 h):∀z∈h,Up a.t z.T:=by
 have r:∀{t A B h},yB t A B=a6 h->∀z∈h,Up t z.T:=λ{t A B h} g=>by
  unfold yB at g
  repeat' split at g
  all_goals first
   |cases g;done
   |(simp only[zIq]at g;subst g;intro z b;cases b;done)
   |(simp only[zIq]at g;subst g;intro z b;simp only[b4,bI,or_false]at b;first|(subst b;exact z1 rfl)|(obtain rfl|rfl:=b<;>exact z2 ⟨_,rfl⟩))
 have p:∀{t A q c h},MR t A q c=a6 h->∀z∈h,Up t z.T:=λ{t A q c h} g=>by
  unfold MR at g
  repeat' split at g
  all_goals first
   |cases g;done
   |(simp only[zIq]at g;subst g;intro z b;cases b;done)
   |(simp only[zIq]at g;subst g;intro z b;simp only[b4,bI,or_false]at b;first|(subst b;exact z1 rfl)|(obtain rfl|rfl:=b<;>exact z2 ⟨_,rfl⟩))
 have q:∀{t x h},MI t x=a6 h->∀z∈h,Up t z.T:=λ{t x h} g=>by
  unfold MI at g
  repeat' split at g
  all_goals first
   |cases g;done
   |(simp only[zIq]at g;subst g;intro z b;cases b;done)
   |(simp only[zIq]at g;subst g;intro z b;simp only[b4,bI,or_false]at b;first|(subst b;exact z1 rfl)|(obtain rfl|rfl:=b<;>exact z2 ⟨_,rfl⟩))
 unfold iX at g;split at g;simp only[Kv,zIq]at g;subst g;intro z b;rw[apg]at b;subst b;exact z1 rfl;exact r g;exact p g;exact q g;cases g
section
variable {K:Type} [dH K] (ι:pD cl K) (s:aw->K) {t T:aM}
def as_{s s':aw->K}:∀(k:aw)(g:aw->cl),(∀j<k,s' j=s j)->V ι s' k g=V ι s k g
 |0,g,_=>rfl
 |k+1,g,h=>by
  simp only[V];rw[as_ k _ λj a=>h j za,as_ k _ λj a=>h j za,h k za]
def at0{s s':aw->K}(h:∀j<yD t,s' j=s j)(a:ai cl):vl ι s' t a=vl ι s t a:=as_ ι _ _ h
def asZ{d:ai cl}(e:Model ι s t (yD t)){q:K}(h:q*q=vl ι s t d):∃s',Model ι s' (mK t d) (mK t d).length/\(∀a,vl ι s' t a=vl ι s t a)/\(s' (yD t)=q\/s' (yD t)= -q):=by
 have key:∀r:K,dH.nn r->r*r=vl ι s t d->Model ι (λj=>if j=yD t then r else s j) (mK t d) (mK t d).length/\(∀a,vl ι (λj=>if j=yD t then r else s j) t a=vl ι s t a):=λr l k=>by
  have eq:∀j<yD t,(λj=>if j=yD t then r else s j) j=s j:=λj b=>ape za
  have c:=at0 ι (t:=t) eq;refine⟨Model.snoc ι _ ⟨λj b=>?_,λj b=>?_⟩ ?_ ?_,c⟩
  ·rw[ape za];exact e.nn j b
  ·rw[ape za,e.sq j b]
   exact(as_ ι _ _ λi m=>eq i za).symm
  ·show dH.nn (if yD t=yD t then r else _)
   rw[aph rfl];exact l
  ·show(if yD t=yD t then r else _)*(if yD t=yD t then r else _)=_
   rw[aph rfl,c,k]
 obtain g|g|g:=Gm q
 ·exact⟨_,(key q (z1 g) h).1,(key q (z1 g) h).2,z1 (aph rfl)⟩
 ·exact⟨_,(key q (z2 g) h).1,(key q (z2 g) h).2,z1 (aph rfl)⟩
 ·have f: -q* -q=vl ι s t d:=by rw[<-h];exact rg [q]
  exact⟨_,(key (-q) (z1 g) f).1,(key (-q) (z1 g) f).2,z2 (aph rfl)⟩
structure Mt(t:aM)(b:Pl)(c σ x y:K):Prop where
 hc:vl ι s t b.c=c
 hs:vl ι s t b.s=σ
 hx:vl ι s t b.x=x
 hy:vl ι s t b.y=y
variable {m v:Hd} {n:Pl} {z:Pt}
def vB.back{u p:V2}{g f o1 o2 c σ x y:K}(h:vB ι s t n u g f p o1 o2)(hu:u.sq≠0)(l:c*ι.φ u.x-σ*ι.φ u.y=g)(k:σ*ι.φ u.x+c*ι.φ u.y=f)(j:c*ι.φ p.x-σ*ι.φ p.y+x=o1)(i:σ*ι.φ p.x+c*ι.φ p.y+y=o2):Mt ι s t n c σ x y:=by
 obtain⟨d,a⟩:=at9 (aaK ι u) (xG ι hu) h.hc h.hs l k;refine⟨d,a,?_,?_⟩
 ·rw[h.hx,d,a,<-j]
  generalize ι.φ p.x=a1;generalize ι.φ p.y=e;exact rg [a1,e,c,σ,x]
 ·rw[h.hy,d,a,<-i]
  generalize ι.φ p.x=a1;generalize ι.φ p.y=e;exact rg [a1,e,c,σ,y]
def as'(n:eJ (yD T) T)(q:Model ι s T (yD T))(a:fx (yD T) m.o)(b:fx (yD T) z)(i:m.v.sq≠0){c σ x y:K}(v:c*ι.φ m.c.x-σ*ι.φ m.c.y+x=vl ι s T z.1)(r:σ*ι.φ m.c.x+c*ι.φ m.c.y+y=vl ι s T z.2)(k:c*ι.φ m.p.x-σ*ι.φ m.p.y+x=vl ι s T m.o.1)(j:σ*ι.φ m.p.x+c*ι.φ m.p.y+y=vl ι s T m.o.2):Mt ι s T (oO T z m) c σ x y:=by
 have P:vl ι s T (fS z m.o).1=vl ι s T z.1-vl ι s T m.o.1:=dU ι s b.1 a.1;have l:vl ι s T (fS z m.o).2=vl ι s T z.2-vl ι s T m.o.2:=dU ι s b.2 a.2;have h:ι.φ m.v.x=ι.φ m.c.x-ι.φ m.p.x:=ι.sub _ _;have g:ι.φ m.v.y=ι.φ m.c.y-ι.φ m.p.y:=ι.sub _ _;refine vB.back ι s (tx ι s n q (U:=m.v) (X:=m.p) (l:=fS z m.o) (m:=m.o) (b.sub a) a i) i ?_ ?_ k j
 ·rw[P,<-v,<-k,h,g]
  generalize ι.φ m.c.x=a1;generalize ι.φ m.c.y=f;generalize ι.φ m.p.x=e;generalize ι.φ m.p.y=d;exact rg [a1,f,e,d,c,σ,x]
 ·rw[l,<-r,<-j,h,g]
  generalize ι.φ m.c.x=a1;generalize ι.φ m.c.y=f;generalize ι.φ m.p.x=e;generalize ι.φ m.p.y=d;exact rg [a1,f,e,d,c,σ,y]
def as5{c σ x y o1 o2 X1 X2:K}(un:c*c+σ*σ=1)(j:c*ι.φ m.c.x-σ*ι.φ m.c.y+x=X1)(i:σ*ι.φ m.c.x+c*ι.φ m.c.y+y=X2)(h:c*ι.φ m.p.x-σ*ι.φ m.p.y+x=o1)(g:σ*ι.φ m.p.x+c*ι.φ m.p.y+y=o2):(X1-o1)*(X1-o1)+(X2-o2)*(X2-o2)=ι.φ m.v.sq:=by
 have f:ι.φ m.v.x=ι.φ m.c.x-ι.φ m.p.x:=ι.sub _ _;have e:ι.φ m.v.y=ι.φ m.c.y-ι.φ m.p.y:=ι.sub _ _;rw[aaK,f,e,<-j,<-i,<-h,<-g];generalize ι.φ m.c.x=a1;generalize ι.φ m.c.y=d;generalize ι.φ m.p.x=b;generalize ι.φ m.p.y=a;exact rg1 [a1,d,b,a,c,σ,x,y] ((a1-b)*(a1-b)+(d-a)*(d-a)) un
def at6(q:K):sg (q*q)=1\/sg (q*q)=0/\q=0:=by
 by_cases h:q=0
 ·exact z2 ⟨by rw[h,bB,iU],h⟩
 ·exact z1 (sG (sq_pos h))
structure aun(t:aM)(z:uU)(s':aw->K):Prop where
 md:Model ι s' z.T z.T.length
 FX:∀a,vl ι s' t a=vl ι s t a
def at8(f:eJ (yD t) t)(i:Model ι s t (yD t))(hA:fx (yD t) m.o)(hB:fx (yD t) v.o){X1 X2:K}(u:(X1-vl ι s t m.o.1)*(X1-vl ι s t m.o.1)+(X2-vl ι s t m.o.2)*(X2-vl ι s t m.o.2)=ι.φ m.v.sq)(r:(X1-vl ι s t v.o.1)*(X1-vl ι s t v.o.1)+(X2-vl ι s t v.o.2)*(X2-vl ι s t v.o.2)=ι.φ v.v.sq)(B:yB t m v=a6 h):
  (m.v.sq≠0/\v.v.sq≠0)/\∃z∈h,∃s',aun ι s t z s'/\∃P:Pt,z.ps=[oO z.T P m,oO z.T P v]/\eJ (yD z.T) z.T/\fx (yD z.T) P/\vl ι s' z.T P.1=X1/\vl ι s' z.T P.2=X2:=by
 have ca:=DO hA;have cb:=DO hB;have C:=p7 f ca cb;have ss:=yc ι s f i ca cb;have X:vl ι s t m.cr.r=ι.φ m.v.sq:=gV ι s _;have W:vl ι s t v.cr.r=ι.φ v.v.sq:=gV ι s _;have l:vl ι s t m.cr.o.1=vl ι s t m.o.1:=rfl;have k:vl ι s t m.cr.o.2=vl ι s t m.o.2:=rfl;have y:vl ι s t v.cr.o.1=vl ι s t v.o.1:=rfl;have x:vl ι s t v.cr.o.2=vl ι s t v.o.2:=rfl;unfold yB at B;split at B
 ·cases B
 ·rename_i Z
  refine⟨⟨λe=>Z (z1 e),λe=>Z (z2 e)⟩,?_⟩
  split at B
  ·rename_i L
   split at B
   ·cases B
   ·rename_i j
    exfalso;have d0:=GP ι s f i C.hd L;rw[ss.hd]at d0;obtain⟨U,S⟩:=FL d0;rw[ss.h1,y,l]at U;rw[ss.h2,x,k]at S;refine j ?_;rw[ku ι s f i (ca.r.sub cb.r),dU ι s ca.r cb.r,X,W,<-u,<-r,fJ.1 U,fJ.1 S];refine oL.2 ?_;generalize vl ι s t m.o.1=a1;generalize vl ι s t m.o.2=b;exact rg [a1,b,X1,X2]
  ·rename_i L
   have d0:=u9 ι s f i C.hd L;have g:=NU ι s f i ca cb d0;have Oo:(X1-vl ι s t m.o.1)*(X1-vl ι s t m.o.1)+(X2-vl ι s t m.o.2)*(X2-vl ι s t m.o.2)=vl ι s t m.cr.r:=by rw[X];exact u
   have F7:(X1-vl ι s t m.o.1-vl ι s t (cV m.cr v.cr).1)*(X1-vl ι s t m.o.1-vl ι s t (cV m.cr v.cr).1)+(X2-vl ι s t m.o.2-vl ι s t (cV m.cr v.cr).2)*(X2-vl ι s t m.o.2-vl ι s t (cV m.cr v.cr).2)=vl ι s t v.cr.r:=by
    rw[W,<-r,ss.h1,ss.h2,l,k,y,x];generalize vl ι s t m.o.1=a1;generalize vl ι s t m.o.2=b;generalize vl ι s t v.o.1=b1;generalize vl ι s t v.o.2=b2;exact rg [a1,b,b1,b2,X1,X2]
   obtain⟨k1,k2⟩:=atT ss.hd ss.hS ss.hW d0 g Oo F7;rw[<-ss.hX]at k1;generalize hq:vl ι s t (cV m.cr v.cr).1*(X2-vl ι s t m.o.2)-vl ι s t (cV m.cr v.cr).2*(X1-vl ι s t m.o.1)+(vl ι s t (cV m.cr v.cr).1*(X2-vl ι s t m.o.2)-vl ι s t (cV m.cr v.cr).2*(X1-vl ι s t m.o.1))=q at k1 k2;have f1:=qC ι s f i ca.o C.hG C.hv;have f2:=qB ι s f i ca.o C.hG C.hv;split at B
   ·cases B
    obtain⟨s',kG,R,j⟩:=asZ ι s i (d:=cX t m.cr v.cr) k1;have o:Model ι s' (cT t m.cr v.cr) (cT t m.cr v.cr).length:=kG;have c:eJ (cT t m.cr v.cr).length (cT t m.cr v.cr):=oN f _;have eT:cT t m.cr v.cr=mK t (cX t m.cr v.cr):=rfl;have le:yD t<=(cT t m.cr v.cr).length:=by rw[eT,bW];omega
    have up:∀{a:ai cl},Sh (yD t) a->vl ι s' (cT t m.cr v.cr) a=vl ι s t a:=λha=>(iE ι s' _ ha).trans (R _)
    have hR:Sh (cT t m.cr v.cr).length (cg (yD t)):=(iO (t:=t) (cX t m.cr v.cr)).sh;have p:Sh (cT t m.cr v.cr).length (cH t m.cr v.cr):=Sh.div c hR (C.hW.mono le);have w:Sh (cT t m.cr v.cr).length (Yo t m.cr v.cr):=Sh.mul c (Sh.l7 _ _) p;have w0:vl ι s t (Bl t m.cr v.cr)≠0:=by rw[ss.hW];exact Jl d0
    have Y:vl ι s' (cT t m.cr v.cr) (cH t m.cr v.cr)*vl ι s t (Bl t m.cr v.cr)=s' (yD t):=by
     have:=lD ι s' c o hR (C.hW.mono le) (by rw[up C.hW];exact w0)
     rw[up C.hW]at this;exact this.trans (te ι s' _)
    have O:vl ι s' (cT t m.cr v.cr) (Yo t m.cr v.cr)= -1*vl ι s' (cT t m.cr v.cr) (cH t m.cr v.cr):=by
     show vl ι s' (cT t m.cr v.cr) (mulL (cT t m.cr v.cr) (iq (-1)) (cH t m.cr v.cr))=_;rw[cZ ι s' c o (Sh.l7 _ _) p,gV,aaL]
    have J:=C.hv.mono le;have D:fx (cT t m.cr v.cr).length (cN t m.cr v.cr):=⟨Sh.mul c (Sh.l7 _ _) J.2,J.1⟩;have n1:vl ι s' (cT t m.cr v.cr) (cN t m.cr v.cr).1= -1*vl ι s t (cV m.cr v.cr).2:=by
     show vl ι s' (cT t m.cr v.cr) (mulL (cT t m.cr v.cr) (iq (-1)) (cV m.cr v.cr).2)=_;rw[cZ ι s' c o (Sh.l7 _ _) J.2,gV,aaL,up C.hv.2]
    have n2:vl ι s' (cT t m.cr v.cr) (cN t m.cr v.cr).2=vl ι s t (cV m.cr v.cr).1:=up C.hv.1;have F1:vl ι s' (cT t m.cr v.cr) (Eh t m.cr v.cr).1=vl ι s t m.o.1+vl ι s t (cG t m.cr v.cr)*vl ι s t (cV m.cr v.cr).1:=(up C.hF.1).trans f1;have F2:vl ι s' (cT t m.cr v.cr) (Eh t m.cr v.cr).2=vl ι s t m.o.2+vl ι s t (cG t m.cr v.cr)*vl ι s t (cV m.cr v.cr).2:=(up C.hF.2).trans f2;have key:∀(H:ai cl),Sh (cT t m.cr v.cr).length H->vl ι s' (cT t m.cr v.cr) H*vl ι s t (Bl t m.cr v.cr)=q->vl ι s' (cT t m.cr v.cr) (cM (cT t m.cr v.cr) (Eh t m.cr v.cr) H (cN t m.cr v.cr)).1=X1/\vl ι s' (cT t m.cr v.cr) (cM (cT t m.cr v.cr) (Eh t m.cr v.cr) H (cN t m.cr v.cr)).2=X2:=λH V p=>by
     obtain⟨F,E⟩:=k2 _ p;constructor
     ·rw[qC ι s' c o (C.hF.mono le) V D,F1,n1]
      have:X1=vl ι s t m.o.1+(X1-vl ι s t m.o.1):=by
       generalize vl ι s t m.o.1=a1;exact rg [a1,X1]
      rw[this,<-F];generalize vl ι s t m.o.1=a1;generalize vl ι s t (cG t m.cr v.cr)=b;generalize vl ι s t (cV m.cr v.cr).1=n;generalize vl ι s t (cV m.cr v.cr).2=A;generalize vl ι s' (cT t m.cr v.cr) H=Q;exact rg [a1,b,n,A,Q]
     ·rw[qB ι s' c o (C.hF.mono le) V D,F2,n2]
      have:X2=vl ι s t m.o.2+(X2-vl ι s t m.o.2):=by
       generalize vl ι s t m.o.2=a1;exact rg [a1,X2]
      rw[this,<-E];generalize vl ι s t m.o.2=a1;generalize vl ι s t (cG t m.cr v.cr)=b;generalize vl ι s t (cV m.cr v.cr).1=n;generalize vl ι s t (cV m.cr v.cr).2=A;generalize vl ι s' (cT t m.cr v.cr) H=Q;exact rg [a1,b,n,A,Q]
    obtain j|j:=j
    ·obtain⟨I,G⟩:=key _ p (Y.trans j)
     exact⟨_,apw ..,s',⟨o,R⟩,Za t m.cr v.cr,rfl,c,(C.hF.mono le).along c p D,I,G⟩
    ·obtain⟨I,G⟩:=key _ w (by
      rw[O];have e: -1*vl ι s' (cT t m.cr v.cr) (cH t m.cr v.cr)*vl ι s t (Bl t m.cr v.cr)= -(vl ι s' (cT t m.cr v.cr) (cH t m.cr v.cr)*vl ι s t (Bl t m.cr v.cr)):=by
       generalize vl ι s' (cT t m.cr v.cr) (cH t m.cr v.cr)=a1;generalize vl ι s t (Bl t m.cr v.cr)=b;exact rg [a1,b]
      rw[e,Y,j,IA])
     exact⟨_,apX _ (apw ..),s',⟨o,R⟩,Y_ t m.cr v.cr,rfl,c,(C.hF.mono le).along c w D,I,G⟩
   ·rename_i M
    obtain e|⟨e,q0⟩:=at6 q
    ·exact api (by rw[ku ι s f i C.hX,<-k1];exact e) M
    ·split at B
     ·cases B
      obtain⟨F,E⟩:=k2 0 (by rw[jE,q0])
      refine⟨_,apw ..,s,⟨i,λ_=>rfl⟩,Eh t m.cr v.cr,rfl,f,C.hF,?_,?_⟩
      ·refine f1.trans ?_
       rw[l];have:X1=vl ι s t m.o.1+(X1-vl ι s t m.o.1):=by
        generalize vl ι s t m.o.1=a1;exact rg [a1,X1]
       rw[this,<-F];generalize vl ι s t m.o.1=a1;generalize vl ι s t (cG t m.cr v.cr)=b;generalize vl ι s t (cV m.cr v.cr).1=n;generalize vl ι s t (cV m.cr v.cr).2=A;exact rg [a1,b,n,A]
      ·refine f2.trans ?_
       rw[k];have:X2=vl ι s t m.o.2+(X2-vl ι s t m.o.2):=by
        generalize vl ι s t m.o.2=a1;exact rg [a1,X2]
       rw[this,<-E];generalize vl ι s t m.o.2=a1;generalize vl ι s t (cG t m.cr v.cr)=b;generalize vl ι s t (cV m.cr v.cr).1=n;generalize vl ι s t (cV m.cr v.cr).2=A;exact rg [a1,b,n,A]
     ·rename_i N
      exact api (by rw[ku ι s f i C.hX,<-k1];exact e) N
end
section
variable {K:Type} [dH K] (ι:pD cl K) (s:aw->K) {t T:aM}
variable {m:Hd} {z:Pt}
def aup(b:eJ (yD t) t)(i:Model ι s t (yD t)){q:Pt}(B:fx (yD t) m.o)(f:fx (yD t) z)(u:fx (yD t) q)(Q0:aL t (lQ t z q)≠0){X1 X2:K}(v:(X1-vl ι s t m.o.1)*(X1-vl ι s t m.o.1)+(X2-vl ι s t m.o.2)*(X2-vl ι s t m.o.2)=ι.φ m.v.sq)(A:(vl ι s t q.1-vl ι s t z.1)*(X2-vl ι s t z.2)-(vl ι s t q.2-vl ι s t z.2)*(X1-vl ι s t z.1)=0)(p:MR t m z q=a6 h):
  m.v.sq≠0/\∃ss∈h,∃s',aun ι s t ss s'/\∃P:Pt,ss.ps=[oO ss.T P m]/\eJ (yD ss.T) ss.T/\fx (yD ss.T) P/\vl ι s' ss.T P.1=X1/\vl ι s' ss.T P.2=X2:=by
 have ca:=DO B;have L:=m8 b ca f u;have R:vl ι s t m.cr.r=ι.φ m.v.sq:=gV ι s _;have eQ:vl ι s t (lQ t z q)=vl ι s t (lV z q).1*vl ι s t (lV z q).1+vl ι s t (lV z q).2*vl ι s t (lV z q).2:=tS ι s b i L.hv L.hv;have eE:vl ι s t (lE t m.cr z q)=vl ι s t (lV z q).1*vl ι s t (lW m.cr z).1+vl ι s t (lV z q).2*vl ι s t (lW m.cr z).2:=tS ι s b i L.hv L.hw;have eC:vl ι s t (lC t m.cr z q)=vl ι s t (lV z q).1*vl ι s t (lW m.cr z).2-vl ι s t (lV z q).2*vl ι s t (lW m.cr z).1:=Cz ι s b i L.hv L.hw;have Q:vl ι s t (lW m.cr z).1=vl ι s t m.o.1-vl ι s t z.1:=dU ι s B.1 f.1;have O:vl ι s t (lW m.cr z).2=vl ι s t m.o.2-vl ι s t z.2:=dU ι s B.2 f.2;have v1:vl ι s t (lV z q).1=vl ι s t q.1-vl ι s t z.1:=dU ι s u.1 f.1;have v2:vl ι s t (lV z q).2=vl ι s t q.2-vl ι s t z.2:=dU ι s u.2 f.2;have q0:vl ι s t (lQ t z q)≠0:=u9 ι s b i L.hQ Q0;have X:=SO ι s b i ca f u;rw[<-v1,<-v2]at A;have k:(X1-vl ι s t z.1-vl ι s t (lW m.cr z).1)*(X1-vl ι s t z.1-vl ι s t (lW m.cr z).1)+(X2-vl ι s t z.2-vl ι s t (lW m.cr z).2)*(X2-vl ι s t z.2-vl ι s t (lW m.cr z).2)=vl ι s t m.cr.r:=by
  rw[R,<-v,Q,O];generalize vl ι s t m.o.1=a1;generalize vl ι s t m.o.2=j;generalize vl ι s t z.1=D;generalize vl ι s t z.2=C;exact rg [a1,j,D,C,X1,X2]
 obtain⟨k1,k2⟩:=atO eQ q0 eE eC k A;rw[<-X]at k1;generalize U8:vl ι s t (lV z q).1*(X1-vl ι s t z.1)+vl ι s t (lV z q).2*(X2-vl ι s t z.2)-vl ι s t (lE t m.cr z q)=y at k1 k2;unfold MR at p;split at p
 ·cases p
 ·rename_i S
  refine⟨S,?_⟩;have fin:∀(T:aM)(σ:aw->K),eJ (yD T) T->Model ι σ T (yD T)->yD t<=yD T->(∀{a:ai cl},Sh (yD t) a->vl ι σ T a=vl ι s t a)->∀g:ai cl,Sh (yD T) g->vl ι σ T g*vl ι s t (lQ t z q)=vl ι s t (lE t m.cr z q)+y->fx (yD T) (cM T z g (lV z q))/\vl ι σ T (cM T z g (lV z q)).1=X1/\vl ι σ T (cM T z g (lV z q)).2=X2:=λT σ c I le up g sg V=>by
   obtain⟨M,J⟩:=k2 _ V;refine⟨(f.mono le).along c sg (L.hv.mono le),?_,?_⟩
   ·rw[qC ι σ c I (f.mono le) sg (L.hv.mono le),up f.1,up L.hv.1,M]
    generalize vl ι s t z.1=D;exact rg [D,X1]
   ·rw[qB ι σ c I (f.mono le) sg (L.hv.mono le),up f.2,up L.hv.2,J]
    generalize vl ι s t z.2=C;exact rg [C,X2]
  split at p
  ·cases p
   obtain⟨s',U,E,n⟩:=asZ ι s i (d:=lX t m.cr z q) k1;have l:Model ι s' (lT t m.cr z q) (lT t m.cr z q).length:=U;have c:eJ (lT t m.cr z q).length (lT t m.cr z q):=oN b _;have eT:lT t m.cr z q=mK t (lX t m.cr z q):=rfl;have le:yD t<=(lT t m.cr z q).length:=by rw[eT,bW];omega
   have up:∀{a:ai cl},Sh (yD t) a->vl ι s' (lT t m.cr z q) a=vl ι s t a:=λW=>(iE ι s' _ W).trans (E _)
   have k:Sh (lT t m.cr z q).length (cg (yD t)):=(iO (t:=t) (lX t m.cr z q)).sh;have G:vl ι s' (lT t m.cr z q) (cg (yD t))=s' (yD t):=te ι s' _;have H:Sh (lT t m.cr z q).length (lA t m.cr z q):=(L.hE.mono le).add k;have F:Sh (lT t m.cr z q).length (lB t m.cr z q):=(L.hE.mono le).sub k;have Z:Sh (lT t m.cr z q).length (lG t m.cr z q):=Sh.div c H (L.hQ.mono le);have Y:Sh (lT t m.cr z q).length (lH t m.cr z q):=Sh.div c F (L.hQ.mono le);have r:vl ι s' (lT t m.cr z q) (lQ t z q)≠0:=by rw[up L.hQ];exact q0
   have gG:vl ι s' (lT t m.cr z q) (lG t m.cr z q)*vl ι s t (lQ t z q)=vl ι s t (lE t m.cr z q)+s' (yD t):=by
    have:=lD ι s' c l H (L.hQ.mono le) r;rw[up L.hQ]at this;refine this.trans ?_;show vl ι s' (lT t m.cr z q) (oX (lE t m.cr z q) (cg (yD t)))=_;rw[qD ι s' (L.hE.mono le) k,G,up L.hE]
   have gH:vl ι s' (lT t m.cr z q) (lH t m.cr z q)*vl ι s t (lQ t z q)=vl ι s t (lE t m.cr z q)-s' (yD t):=by
    have:=lD ι s' c l F (L.hQ.mono le) r;rw[up L.hQ]at this;refine this.trans ?_;show vl ι s' (lT t m.cr z q) (g8 (lE t m.cr z q) (cg (yD t)))=_;rw[dU ι s' (L.hE.mono le) k,G,up L.hE]
   obtain n|n:=n
   ·obtain⟨a1,j,o⟩:=fin _ s' c l le up (lG t m.cr z q) Z (by rw[gG,n])
    exact⟨_,apw ..,s',⟨l,E⟩,_,rfl,c,a1,j,o⟩
   ·obtain⟨a1,j,o⟩:=fin _ s' c l le up (lH t m.cr z q) Y (by rw[gH,n,sub_def',IA])
    exact⟨_,apX _ (apw ..),s',⟨l,E⟩,_,rfl,c,a1,j,o⟩
  ·rename_i w
   obtain e|⟨e,N⟩:=at6 y
   ·exact api (by rw[ku ι s b i L.hX,<-k1];exact e) w
   ·split at p
    ·cases p
     have gF:vl ι s t (lF t m.cr z q)*vl ι s t (lQ t z q)=vl ι s t (lE t m.cr z q)+y:=by
      rw[N,add_zero'];exact lD ι s b i L.hE L.hQ q0
     obtain⟨a1,j,o⟩:=fin t s b i (apc _) (λ_=>rfl) (lF t m.cr z q) (Sh.div b L.hE L.hQ) gF
     exact⟨_,apw ..,s,⟨i,λ_=>rfl⟩,_,rfl,b,a1,j,o⟩
    ·rename_i x
     exact api (by rw[ku ι s b i L.hX,<-k1];exact e) x
def auo(b:eJ t.length t)(f:Model ι s t t.length){x:Rp}(n:Zb t.length x){c σ m l:K}(un:c*c+σ*σ=1)(R:c*ι.φ x.v.x-σ*ι.φ x.v.y=m)(Q:σ*ι.φ x.v.x+c*ι.φ x.v.y=l)(w:m*(vl ι s t x.q.2-vl ι s t x.o.2)-l*(vl ι s t x.q.1-vl ι s t x.o.1)=vl ι s t x.h){ss:ai uU}(h:MI t x=a6 ss):
  ∃z∈ss,∃s',aun ι s t z s'/\∃root:ai cl,z.ps=[x.pl t z.T root]/\eJ z.T.length z.T/\fx z.T.length (x.z t z.T root)/\vl ι s' z.T (x.z t z.T root).1=m/\vl ι s' z.T (x.z t z.T root).2=l:=by
 have S:=CT b n;have I:vl ι s t x.mc.1=vl ι s t x.q.1-vl ι s t x.o.1:=dU ι s n.q.1 n.o.1;have H:vl ι s t x.mc.2=vl ι s t x.q.2-vl ι s t x.o.2:=dU ι s n.q.2 n.o.2;have F:vl ι s t (x.d t)=vl ι s t x.mc.1*vl ι s t x.mc.1+vl ι s t x.mc.2*vl ι s t x.mc.2:=tS ι s b f S.hy S.hy;rw[<-I,<-H]at w;have O:m*m+l*l=ι.φ x.v.sq:=by
  rw[aaK,<-R,<-Q];generalize ι.φ x.v.x=a1;generalize ι.φ x.v.y=r;exact rg1 [a1,r,c,σ] (a1*a1+r*r) un
 unfold MI at h;split at h
 ·cases h
 ·rename_i N
  have d0:vl ι s t (x.d t)≠0:=λe=>by
   have G:=e;rw[F]at G;obtain⟨a1,r⟩:=FL G;refine N ⟨?_,?_⟩
   ·rw[ku ι s b f S.hd,e,iU]
   ·rw[ku ι s b f S.hh,<-w,a1,r,bB,bB,sub_def',tL,add_zero',iU]
  obtain⟨k1,k2⟩:=atG F d0 O w;rw[<-Z_ ι s b f n]at k1;generalize m*vl ι s t x.mc.1+l*vl ι s t x.mc.2=y at k1 k2;have fin:∀(T:aM)(σ:aw->K),eJ T.length T->Model ι σ T T.length->t.length<=T.length->(∀{a:ai cl},Sh t.length a->vl ι σ T a=vl ι σ t a)->(∀a,vl ι σ t a=vl ι s t a)->Model ι σ t t.length->∀g:ai cl,Sh T.length g->vl ι σ T g=y->fx T.length (x.z t T g)/\vl ι σ T (x.z t T g).1=m/\vl ι σ T (x.z t T g).2=l:=λT σ p U le up i u g sg P=>by
   obtain⟨o,k,j⟩:=ahg ι σ b u p U le up n (by rw[i];exact d0) sg
   rw[i,i,i,i,P]at k j;obtain⟨M,L⟩:=k2 _ _ k j;exact⟨o,M,L⟩
  split at h
  ·cases h
   obtain⟨s',D,i,q⟩:=asZ ι s f (d:=x.r t) k1;have v:Model ι s' (x.T t) (x.T t).length:=D;have p:eJ (x.T t).length (x.T t):=oN b _;have le:t.length<=(x.T t).length:=by show t.length<=(mK t (x.r t)).length;rw[bW];omega
   have C:Sh (x.T t).length (cg t.length):=(iO (t:=t) (x.r t)).sh;have E:vl ι s' (x.T t) (cg t.length)=s' t.length:=te ι s' _;have u:Model ι s' t t.length:=(Model.base ι s' D).1;obtain q|q:=q
   ·obtain⟨o,k,j⟩:=fin (x.T t) s' p v le (λh=>iE ι s' _ h) i u (cg t.length) C (E.trans q)
    exact⟨_,apw ..,s',⟨v,i⟩,_,rfl,p,o,k,j⟩
   ·obtain⟨o,k,j⟩:=fin (x.T t) s' p v le (λh=>iE ι s' _ h) i u (wH (cg t.length)) C.neg (by rw[Hu ι s' C,E,q,IA])
    exact⟨_,apX _ (apw ..),s',⟨v,i⟩,_,rfl,p,o,k,j⟩
  ·rename_i A
   obtain e|⟨e,J⟩:=at6 y
   ·exact api (by rw[ku ι s b f S.hr,<-k1];exact e) A
   ·split at h
    ·cases h
     obtain⟨o,k,j⟩:=fin t s b f (apc _) (λ_=>rfl) (λ_=>rfl) f [] (.nil _) (by rw[Ht,J])
     exact⟨_,apw ..,s,⟨f,λ_=>rfl⟩,_,rfl,b,o,k,j⟩
    ·rename_i B
     exact api (by rw[ku ι s b f S.hr,<-k1];exact e) B
end
structure Ps(K:Type)where
 c:aw->K
 s:aw->K
 x:aw->K
 y:aw->K
section
variable {G:bn->Prop} {K:Type} [dH K] (ι:pD cl K)
def Ps.at(p:Ps K)(i:aw)(m:V2):K×K:=(p.c i*ι.φ m.x-p.s i*ι.φ m.y+p.x i,p.s i*ι.φ m.x+p.c i*ι.φ m.y+p.y i)
structure ato(l:Lk)(xs:ai Tn)(p:Ps K):Prop where
 un:∀i<l.bs.length,p.c i*p.c i+p.s i*p.s i=1
 fr:p.c 0=1/\p.s 0=0/\p.x 0=0/\p.y 0=0
 o8:∀j<l.js.length,(l.js.getD j bc).kind=0->p.at ι (l.js.getD j bc).a (n8 (dQ l (l.js.getD j bc).a (l.js.getD j bc).p))=p.at ι (l.js.getD j bc).b (n8 (dQ l (l.js.getD j bc).b (l.js.getD j bc).on))
 sl:∀j<l.js.length,(l.js.getD j bc).kind=1->OnV (p.at ι (l.js.getD j bc).b (n8 (dQ l (l.js.getD j bc).b (l.js.getD j bc).on))) (p.at ι (l.js.getD j bc).b (n8 (dQ l (l.js.getD j bc).b (l.js.getD j bc).to))) (p.at ι (l.js.getD j bc).a (n8 (dQ l (l.js.getD j bc).a (l.js.getD j bc).p)))
 dv:∀d<l.ds.length,p.c (l.ds.getD d bc).body=ι.φ (xs.getD d ⟨0,aj⟩).cos/\p.s (l.ds.getD d bc).body=ι.φ (xs.getD d ⟨0,aj⟩).sin
abbrev MtP(s:aw->K)(t:aM)(b:Pl)(p:Ps K)(i:aw):Prop:=Mt ι s t b (p.c i) (p.s i) (p.x i) (p.y i)
structure MtS(l:Lk)(gs:ai Gp)(p:Ps K)(k:aw)(a:As)(s:aw->K):Prop where
 md:Model ι s a.t a.t.length
 bs:∀i,(Gn l gs k).known.getD i aj=bj->MtP ι s a.t (dt a i) p i
def Mt.at{s:aw->K}{t:aM}{b:Pl}{p:Ps K}{i:aw}(h:MtP ι s t b p i)(m:V2):vV ι s b t m=p.at ι i m:=by
 unfold vV Ps.at;rw[h.hc,h.hs,h.hx,h.hy]
variable {n:Pl}
def Mt.up{s s':aw->K}{t T:aM}(u:Up t T)(e:∀a,vl ι s' t a=vl ι s t a)(d:Cj (yD t) n){c σ x y:K}(h:Mt ι s t n c σ x y):Mt ι s' T n c σ x y:=by
 constructor
 ·rw[u.vl ι s' d.c,e];exact h.hc
 ·rw[u.vl ι s' d.s,e];exact h.hs
 ·rw[u.vl ι s' d.x,e];exact h.hx
 ·rw[u.vl ι s' d.y,e];exact h.hy
section
variable {G:bn->Prop} {K:Type} [dH K] (ι:pD cl K) {l:Lk} {xs:ai Tn} {gs:ai Gp} {nn ee up:aw->aw} {rr:b5} {p:Ps K} {k:aw} {a:As} {s s':aw->K}
def MtS.place(d:eJ (yD a.t) a.t)(b:∀i,Cj (yD a.t) (dt a i))(h:MtS ι l gs p k a s){o:aw}(c:(Gn l gs k).known.getD o aj=bj)(m:aw):Ia ι s a.t (kS l a o m)=p.at ι o (n8 (dQ l o m)):=by
 rw[<-(h.bs o c).at ι];exact adO ι s d h.md (b o) (n8 (dQ l o m))
def MtS.o8(n:eJ (yD a.t) a.t)(f:∀i,Cj (yD a.t) (dt a i))(h:MtS ι l gs p k a s)(H:ato ι l xs p){g:Gp}{q b o jn:aw}(u:jn<yD l.js)(r:yI l.js jn bc=fc l g q)(t:(fc l g q).kind=0)(hw:((fc l g q).a=b/\(fc l g q).b=o)\/((fc l g q).a=o/\(fc l g q).b=b))(j:o≠b)(m:(Gn l gs k).known.getD o aj=bj):Ia ι s a.t (il l g a q b)=p.at ι b (n8 (jX l g q b)):=by
 have d:=H.o8 jn u (by rw[r];exact t)
 rw[r]at d;unfold il jX;rcases hw with⟨c,e⟩|⟨c,e⟩
 ·rw[aph c,aph c,e,h.place ι n f m]
  rw[c,e]at d;exact d.symm
 ·rw[ape (by rw[c];exact j),ape (by rw[c];exact j),c,h.place ι n f m]
  rw[c,e]at d;exact d
def MtS.put(w:Hl l xs gs nn ee k a)(e:k<yD gs)(h:MtS ι l gs p k a s){z:uU}(f:D8 a (yI gs k bc) z)(q:aun ι s a.t z s')(u:Up a.t z.T)(new:∀i,i∈(yI gs k bc).bs->MtP ι s' z.T (dt (a.put (yI gs k bc) z) i) p i):MtS ι l gs p (k+1) (a.put (yI gs k bc) z) s':=by
 obtain⟨d,m,c,j,g⟩:=MN f;refine⟨by rw[c];exact q.md,λi b=>?_⟩
 rw[c];by_cases hm:i∈(yI gs k bc).bs
 ·exact new i hm
 ·rw[d i hm]
  rw[vX e]at b;rcases(m9 (yM l gs k za) _ i).1 b with b|⟨b,-⟩
  ·exact Mt.up ι u q.FX (w.v.sh i) (h.bs i b)
  ·exact api b hm
def auu(c:Chn gs nn ee up rr)(S:Rl l xs)(P:Path l gs)(H:ato ι l xs p)(w:Hl l xs gs nn ee k a)(O:k<yD gs)(h:MtS ι l gs p k a s){ss:ai uU}(N:iX l a (yI gs k bc) (rM xs (yI gs k bc))=a6 ss)(fs:∀z∈ss,D8 a (yI gs k bc) z):
  ∃z∈ss,∃s',MtS ι l gs p (k+1) (a.put (yI gs k bc) z) s':=by
 have hg:=P.step k O;have hT:=w.tow c;have y:=w.ok.sh;have sh:=w.v.sh;have un:=w.v.un;have s1:∀g i b,fx (yD a.t) (il l g a i b):=λg i b=>Pe y w.v
 have s3:∀b m,fx (yD a.t) (kS l a b m):=λb m=>JK y (sh b) _ _
 have su:=ZJ N;have fin:∀z∈ss,∀s',aun ι s a.t z s'->(∀i,i∈(yI gs k bc).bs->MtP ι s' z.T (dt (a.put (yI gs k bc) z) i) p i)->MtS ι l gs p (k+1) (a.put (yI gs k bc) z) s':=λz t s' q new=>h.put ι w O (fs z t) q (su z t) new
 have W:=λ{g:Gp} {q b o jn:aw}=>h.o8 ι (g:=g) (q:=q) (b:=b) (o:=o) (jn:=jn) y sh H
 have Y:=λ{o:aw} (ho:(Gn l gs k).known.getD o aj=bj)=>h.place ι y sh ho
 have fst:∀{u v:K×K},u=v->u.1=v.1:=λe=>by rw[e]
 have snd:∀{u v:K×K},u=v->u.2=v.2:=λe=>by rw[e]
 generalize G9:yI gs k bc=g at hg N fs fin⊢;have hM:=h.md;cases hg with
 |sO d body o8 hd C kb hp=>
  obtain⟨Xw,hp2,o,ho,M⟩:=hp;have iA:o≠body:=λe=>by rw[e,kb]at M;cases M
  generalize j:(⟨0,[body],[o8],d⟩:Gp)=g at*;have V:g.bs=[body]:=by rw[<-j]
  have gj:g.js=[o8]:=by rw[<-j]
  have e1:iX l a g (rM xs g)=a6 [⟨a.t,[E9 l a g body (yI xs d ⟨0,aj⟩).cos (yI xs d ⟨0,aj⟩).sin],1⟩]:=by rw[<-j];rfl
  rw[e1]at N;cases N;refine⟨_,apw ..,s,fin _ (apw ..) s ⟨hM,λ_=>rfl⟩ λi hi=>?_⟩
  rw[V,apg]at hi;subst hi;have XC:i<yD a.bs:=by rw[w.lb,<-C];exact S.ok.body _ (aA hd _)
  have ea:a.put g ⟨a.t,[E9 l a g i (yI xs d ⟨0,aj⟩).cos (yI xs d ⟨0,aj⟩).sin],1⟩=a.BK i (E9 l a g i (yI xs d ⟨0,aj⟩).cos (yI xs d ⟨0,aj⟩).sin) a.t 1:=by unfold As.put;rw[V]
  rw[ea,Ag XC,aph rfl];have ej:yI l.js o8 bc=fc l g 0:=by unfold fc;rw[gj];rfl
  have hw:=mZ ho iA;rw[ej]at hw hp2;have pv:=W Xw ej hp2 hw iA M;have u1:V2.sq ⟨((1:cA):cl),0⟩=1:=zy
  have u0:V2.sq ⟨((1:cA):cl),0⟩≠0:=by rw[u1];decide
  have dv:=H.dv d hd;rw[C]at dv;have i1:ι.φ ((1:cA):cl)=1:=ι.one;refine vB.back ι s (tx ι s y hM (U:=⟨((1:cA):cl),0⟩) (X:=n8 (jX l g 0 i)) (l:=yC (yI xs d ⟨0,aj⟩).cos (yI xs d ⟨0,aj⟩).sin) (m:=il l g a 0 i) (fx.of _ _ _) (s1 _ _ _) u0) u0 ?_ ?_ (fst pv).symm (snd pv).symm
  ·show _*ι.φ ((1:cA):cl)-_*ι.φ 0=vl ι s a.t (iq _)
   rw[gV,<-dv.1,i1,ι.zero];generalize p.c i=c1;generalize p.s i=c2;exact rg [c1,c2]
  ·show _*ι.φ ((1:cA):cl)+_*ι.φ 0=vl ι s a.t (iq _)
   rw[gV,<-dv.2,i1,ι.zero];generalize p.c i=c1;generalize p.s i=c2;exact rg [c1,c2]
 |pair i i2 ja f jc pC hj fi fj ha C hc kc oc=>
  have ki:=fQ fi;have kj:=fQ fj;have R:∀{o:aw},(Gn l gs k).known.getD o aj=bj->o≠i/\o≠i2:=λO=>⟨λe=>(by rw[e,ki]at O;cases O),λe=>(by rw[e,kj]at O;cases O)⟩
  have nij:i≠i2:=za
  generalize j:(⟨1,[i,i2],[ja,f,jc],0⟩:Gp)=g at*;have V:g.bs=[i,i2]:=by rw[<-j]
  have gj:g.js=[ja,f,jc]:=by rw[<-j]
  have e1:iX l a g (rM xs g)=yB a.t (AX l g a 0 i) (AX l g a 1 i2):=by rw[<-j];rfl
  rw[e1]at N;obtain⟨a1,a2,o,ho,M⟩:=ha;have J:yI l.js ja bc=fc l g 0:=by unfold fc;rw[gj];rfl
  have E:=mZ ho (R M).1;rw[J]at E a2;have n:=W a1 J a2 E (R M).1 M;obtain⟨b1,b2,o',ho',auI⟩:=C;have ejb:yI l.js f bc=fc l g 1:=by unfold fc;rw[gj];rfl
  have hwb:=mZ ho' (R auI).2;rw[ejb]at hwb b2;have Q:=W b1 ejb b2 hwb (R auI).2 auI;have ejc:yI l.js jc bc=fc l g 2:=by unfold fc;rw[gj];rfl
  have hwc:=mZ oc (aqZ nij);have F:=H.o8 jc hc kc;rw[ejc]at hwc F;have X:p.at ι i (n8 (jX l g 2 i))=p.at ι i2 (n8 (jX l g 2 i2)):=by
   unfold jX;rcases hwc with⟨h1,h2⟩|⟨h1,h2⟩
   ·rw[aph h1,ape (by rw[h1];exact nij)]
    rw[h1,h2]at F;exact F
   ·rw[ape (by rw[h1];exact aqZ nij),aph h1]
    rw[h1,h2]at F;exact F.symm
  have Z:=as5 ι (m:=AX l g a 0 i) (H.un i za) (X1:=(p.at ι i (n8 (jX l g 2 i))).1) (X2:=(p.at ι i (n8 (jX l g 2 i))).2) rfl rfl (fst n).symm (snd n).symm
  have onB:=as5 ι (m:=AX l g a 1 i2) (H.un i2 hj) (X1:=(p.at ι i (n8 (jX l g 2 i))).1) (X2:=(p.at ι i (n8 (jX l g 2 i))).2) (fst X).symm (snd X).symm (fst Q).symm (snd Q).symm;obtain⟨⟨nA,nB⟩,z,t,s',q,Pt0,S3,iz,sP,x1,x2⟩:=at8 ι s y hM (m:=AX l g a 0 i) (v:=AX l g a 1 i2) (s1 _ _ _) (s1 _ _ _) Z onB N;have u:=su z t;have le:=u.len.1;have r:∀{b:ai cl},Sh (yD a.t) b->vl ι s' z.T b=vl ι s a.t b:=λC=>(u.vl ι s' C).trans (q.FX _)
  refine⟨z,t,s',fin z t s' q λm T=>?_⟩
  have ea:a.put g z=a.xC i i2 (oO z.T Pt0 (AX l g a 0 i)) (oO z.T Pt0 (AX l g a 1 i2)) z.T z.mode:=by unfold As.put;rw[V,S3]
  rw[ea,GX (by rw[w.lb];omega) (by rw[w.lb];exact hj)]
  rw[V]at T;simp only[b4,bI,or_false]at T;by_cases Qc:m=i2
  ·rw[aph Qc]
   subst Qc;exact as' ι s' iz q.md (m:=AX l g a 1 m) ((s1 _ _ _).mono le) sP nB ((fst X).symm.trans x1.symm) ((snd X).symm.trans x2.symm) ((fst Q).symm.trans (r (s1 _ _ _).1).symm) ((snd Q).symm.trans (r (s1 _ _ _).2).symm)
  ·have hm1:=T.resolve_right Qc
   rw[ape Qc,aph hm1];subst hm1;exact as' ι s' iz q.md (m:=AX l g a 0 m) ((s1 _ _ _).mono le) sP nA x1.symm x2.symm ((fst n).symm.trans (r (s1 _ _ _).1).symm) ((snd n).symm.trans (r (s1 _ _ _).2).symm)
 |single i ja f hi fi ha C=>
  have ki:=fQ fi;have R:∀{o:aw},(Gn l gs k).known.getD o aj=bj->o≠i:=λO e=>by rw[e,ki]at O;cases O
  obtain⟨TD,bpk,o2,hp,Ko⟩:=C;have w2:=mZ hp (R Ko);obtain⟨q1,q2,q3,q4,q5⟩:=S.ok.at TD;have q5:=q5 bpk;have jm:=aA TD (bc:Jt);have YZ:=S.ok.ne _ jm bpk;have D:=H.sl f TD bpk;generalize j:(⟨eO l i f,[i],[ja,f],0⟩:Gp)=g at*;have V:g.bs=[i]:=by rw[<-j]
  have gj:g.js=[ja,f]:=by rw[<-j]
  obtain⟨a1,a2,o,ho,M⟩:=ha;have J:yI l.js ja bc=fc l g 0:=by unfold fc;rw[gj];rfl
  have E:=mZ ho (R M);rw[J]at E a2;have n:=W a1 J a2 E (R M) M;have one:∀z∈ss,∀b,z.ps=[b]->dt (a.put g z) i=b:=λz t b C=>by
   have ea:a.put g z=a.BK i b z.T z.mode:=by unfold As.put;rw[V,C]
   rw[ea,Ag (by rw[w.lb];exact hi),aph rfl]
  by_cases I:(yI l.js f bc).a=i
  ·have ek:eO l i f=2:=by unfold eO;rw[aph I]
   have hjb:(yI l.js f bc).b=o2:=(w2.resolve_right λh=>(R Ko) (h.1.symm.trans I)).2
   have unb:JO a.t (dt a (yI l.js f bc).b):=by rw[hjb];exact un _ Ko
   have ll:=IM hT S.sz w.pl q4 q5 unb YZ;have e1:iX l a g (rM xs g)=MR a.t (Ku l a (i:=i) g (yI l.js f bc)) (kS l a (yI l.js f bc).b (yI l.js f bc).on) (kS l a (yI l.js f bc).b (yI l.js f bc).to):=by
    generalize rM xs g=x;rw[<-j,ek];rfl
   rw[e1]at N;have kb:(Gn l gs k).known.getD (yI l.js f bc).b aj=bj:=by rw[hjb];exact Ko
   rw[I]at D;rw[<-Y kb,<-Y kb]at D;have Z:=as5 ι (m:=Ku l a (i:=i) g (yI l.js f bc)) (H.un i hi) (X1:=(p.at ι i (n8 (dQ l i (yI l.js f bc).p))).1) (X2:=(p.at ι i (n8 (dQ l i (yI l.js f bc).p))).2) rfl rfl (fst n).symm (snd n).symm;obtain⟨nA,z,t,s',q,Pt0,S3,iz,sP,x1,x2⟩:=aup ι s y hM (m:=Ku l a (i:=i) g (yI l.js f bc)) (s1 _ _ _) (s3 _ _) (s3 _ _) (λe0=>api (ll.symm.trans e0) zt) Z D N
   have u:=su z t;have le:=u.len.1;have r:∀{b:ai cl},Sh (yD a.t) b->vl ι s' z.T b=vl ι s a.t b:=λC=>(u.vl ι s' C).trans (q.FX _)
   refine⟨z,t,s',fin z t s' q λm T=>?_⟩
   rw[V,apg]at T;subst T;rw[one z t _ S3];exact as' ι s' iz q.md (m:=Ku l a (i:=m) g (yI l.js f bc)) ((s1 _ _ _).mono le) sP nA x1.symm x2.symm ((fst n).symm.trans (r (s1 _ _ _).1).symm) ((snd n).symm.trans (r (s1 _ _ _).2).symm)
  ·have ek:eO l i f=3:=by unfold eO;rw[ape I]
   have hw:=w2.resolve_left λh=>I h.1
   have e1:iX l a g (rM xs g)=MI a.t (H0 l g a i (yI l.js f bc)):=by
    generalize rM xs g=x;rw[<-j,ek];rfl
   rw[e1]at N;rw[hw.2]at YZ;have nz:(H0 l g a i (yI l.js f bc)).v.sq≠0:=V2.RD YZ;have ka:(Gn l gs k).known.getD (yI l.js f bc).a aj=bj:=by rw[hw.1];exact Ko
   rw[hw.2]at D;rw[<-Y ka]at D;have U:=H.un i hi;have f1:=(fst n).symm;have f2:=(snd n).symm;have hh:(p.c i*ι.φ (H0 l g a i (yI l.js f bc)).v.x-p.s i*ι.φ (H0 l g a i (yI l.js f bc)).v.y)*(vl ι s a.t (H0 l g a i (yI l.js f bc)).q.2-vl ι s a.t (H0 l g a i (yI l.js f bc)).o.2)-(p.s i*ι.φ (H0 l g a i (yI l.js f bc)).v.x+p.c i*ι.φ (H0 l g a i (yI l.js f bc)).v.y)*(vl ι s a.t (H0 l g a i (yI l.js f bc)).q.1-vl ι s a.t (H0 l g a i (yI l.js f bc)).o.1)=vl ι s a.t (H0 l g a i (yI l.js f bc)).h:=by
    rw[alA ι s];have vx:ι.φ (H0 l g a i (yI l.js f bc)).v.x=ι.φ (dQ l i (yI l.js f bc).to).x-ι.φ (dQ l i (yI l.js f bc).on).x:=ι.sub _ _;have vy:ι.φ (H0 l g a i (yI l.js f bc)).v.y=ι.φ (dQ l i (yI l.js f bc).to).y-ι.φ (dQ l i (yI l.js f bc).on).y:=ι.sub _ _;have ux:ι.φ (H0 l g a i (yI l.js f bc)).u.x=ι.φ (dQ l i (yI l.js f bc).on).x-ι.φ (jX l g 0 i).x:=ι.sub _ _;have uy:ι.φ (H0 l g a i (yI l.js f bc)).u.y=ι.φ (dQ l i (yI l.js f bc).on).y-ι.φ (jX l g 0 i).y:=ι.sub _ _;rw[vx,vy,ux,uy];have g1:vl ι s a.t (H0 l g a i (yI l.js f bc)).o.1=p.c i*ι.φ (jX l g 0 i).x-p.s i*ι.φ (jX l g 0 i).y+p.x i:=f1.symm;have g2:vl ι s a.t (H0 l g a i (yI l.js f bc)).o.2=p.s i*ι.φ (jX l g 0 i).x+p.c i*ι.φ (jX l g 0 i).y+p.y i:=f2.symm;rw[g1,g2];have L:(p.c i*ι.φ (dQ l i (yI l.js f bc).to).x-p.s i*ι.φ (dQ l i (yI l.js f bc).to).y+p.x i-(p.c i*ι.φ (dQ l i (yI l.js f bc).on).x-p.s i*ι.φ (dQ l i (yI l.js f bc).on).y+p.x i))*(vl ι s a.t (H0 l g a i (yI l.js f bc)).q.2-(p.s i*ι.φ (dQ l i (yI l.js f bc).on).x+p.c i*ι.φ (dQ l i (yI l.js f bc).on).y+p.y i))-(p.s i*ι.φ (dQ l i (yI l.js f bc).to).x+p.c i*ι.φ (dQ l i (yI l.js f bc).to).y+p.y i-(p.s i*ι.φ (dQ l i (yI l.js f bc).on).x+p.c i*ι.φ (dQ l i (yI l.js f bc).on).y+p.y i))*(vl ι s a.t (H0 l g a i (yI l.js f bc)).q.1-(p.c i*ι.φ (dQ l i (yI l.js f bc).on).x-p.s i*ι.φ (dQ l i (yI l.js f bc).on).y+p.x i))=0:=D;generalize vl ι s a.t (H0 l g a i (yI l.js f bc)).q.1=y1 at L⊢;generalize vl ι s a.t (H0 l g a i (yI l.js f bc)).q.2=y2 at L⊢;generalize ι.φ (dQ l i (yI l.js f bc).to).x=t1 at L⊢;generalize ι.φ (dQ l i (yI l.js f bc).to).y=t2 at L⊢;generalize ι.φ (dQ l i (yI l.js f bc).on).x=n1 at L⊢;generalize ι.φ (dQ l i (yI l.js f bc).on).y=n2 at L⊢;generalize ι.φ (jX l g 0 i).x=m1 at L⊢;generalize ι.φ (jX l g 0 i).y=m2 at L⊢;generalize p.c i=c1 at L U⊢;generalize p.s i=c2 at L U⊢;generalize p.x i=c3 at L⊢;generalize p.y i=c4 at L⊢;exact rg2 [y1,y2,t1,t2,n1,n2,m1,m2,c1,c2,c3,c4] 1 ((t1-n1)*(n2-m2)-(t2-n2)*(n1-m1)) L U
   obtain⟨z,t,s',q,root,S3,iz,sZ,x1,x2⟩:=auo ι s y hM (x:=H0 l g a i (yI l.js f bc)) ⟨s1 _ _ _,s3 _ _⟩ U rfl rfl hh N;have u:=su z t;have le:=u.len.1;have r:∀{b:ai cl},Sh (yD a.t) b->vl ι s' z.T b=vl ι s a.t b:=λC=>(u.vl ι s' C).trans (q.FX _)
   refine⟨z,t,s',fin z t s' q λm T=>?_⟩
   rw[V,apg]at T;subst T;rw[one z t _ S3];exact vB.back ι s' (tx ι s' iz q.md (U:=(H0 l g a m (yI l.js f bc)).v) (X:=(H0 l g a m (yI l.js f bc)).p) (l:=(H0 l g a m (yI l.js f bc)).z a.t z.T root) (m:=(H0 l g a m (yI l.js f bc)).o) sZ ((s1 _ _ _).mono le) nz) nz x1.symm x2.symm (f1.trans (r (s1 _ _ _).1).symm) (f2.trans (r (s1 _ _ _).2).symm)
def atf{f:As->ai As->ai As×b5}{g:Gp}{a:As}:∀{ss:ai uU}{o:ai As},(∀z∈ss,∀o,∃new,(f (a.put g z) o).1=o++new)->(qv f a g ss o).2=bj->(∀x∈o,x∈(qv f a g ss o).1)/\∀z∈ss,∃o1,(f (a.put g z) o1).2=bj/\∀x∈(f (a.put g z) o1).1,x∈(qv f a g ss o).1
 |[],o,_,_=>⟨λx d=>d,λz c=>by cases c⟩
 |i::ss,o,h,hw=>by
  obtain⟨m,j⟩:=h i (apw ..) o;simp only[qv]at hw⊢;cases e:f (a.put g i) o with
  |mk o1 b=>
   rw[e]at j;have n:o1=o++m:=j;rw[e]at hw;cases b with
   |false=>cases hw
   |true=>
    obtain⟨k1,k2⟩:=atf (ss:=ss) (o:=o1) (λz c=>h z (apX _ c)) hw
    refine⟨λx d=>k1 x (by rw[n];exact aqt _ d),λz c=>?_⟩
    obtain rfl|c:=apo.1 c
    ·exact⟨o,by rw[e],λx d=>k1 x (by rw[e]at d;exact d)⟩
    ·exact k2 z c
def ate(i:aa G)(c:Chn gs nn ee up rr)(S:Rl l xs)(P:Path l gs)(H:ato ι l xs p)(j:Spec zZq G 47 [lM l] (.aP [aQ kg gs,zT .nilIface]))(ck:Spec zZq G 37 [lM l] (zT .nilIface)):
  ∀(n k:aw)(a:As)(s:aw->K),Hl l xs gs nn ee k a->MtS ι l gs p k a s->yD gs-k=n->∀o:ai As,(pG l xs (gs.drop k) a o).2=bj->∃x∈(pG l xs (gs.drop k) a o).1,Hl l xs gs nn ee (yD gs) x/\∃s',MtS ι l gs p (yD gs) x s'
 |0,k,a,s,w,h,r,o,hw=>by
  have:=w.hk;obtain rfl:k=yD gs:=za
  rw[ar1];exact⟨a,aqX _ (apg.2 rfl),w,s,h⟩
 |n+1,k,a,s,w,h,r,o,hw=>by
  have e:k<yD gs:=za
  have y:gs.drop k=yI gs k bc::gs.drop (k+1):=AI e bc;have v:=(w.solve i c S P j ck e).2;have R:=anK i c S P j ck;rw[y]at hw⊢;simp only[pG]at hw⊢;cases d:iX l a (yI gs k bc) (rM xs (yI gs k bc))with
  |none=>rw[d]at hw;cases hw
  |some g=>
   have v:=v g d;rw[d]at hw;obtain⟨z,b,s',t⟩:=auu ι c S P H w e h d λz b=>(v z b).1
   have ext:∀z∈g,∀o,∃new,(pG l xs (gs.drop (k+1)) (a.put (yI gs k bc) z) o).1=o++new:=λz b o=>by
    obtain⟨new,u,-⟩:=Hs R (λk a q e g d z b=>(MN ((q.solve i c S P j ck e).2 g d z b).1).2.2.2.1) n (k+1) _ (v z b).2 za o
    exact⟨new,u⟩
   obtain⟨o1,k1,k2⟩:=(atf (f:=pG l xs (gs.drop (k+1))) ext hw).2 z b;obtain⟨x,m,A⟩:=ate i c S P H j ck n (k+1) _ s' (v z b).2 t za o1 k1
   exact⟨x,k2 x m,A⟩
def aum(f:aa G)(c:Chn gs nn ee up rr)(S:Rl l xs)(P:Path l gs)(H:ato ι l xs p)(m:Spec zZq G 47 [lM l] (.aP [aQ kg gs,zT .nilIface]))(ck:Spec zZq G 37 [lM l] (zT .nilIface))(h:(YA l xs gs).2=bj):∃x∈(YA l xs gs).1,Hl l xs gs nn ee (yD gs) x/\∃s,MtS ι l gs p (yD gs) x s:=by
 have st:MtS ι l gs p 0 (iT (yD l.bs)) (λ_=>0):=by
  refine⟨⟨λj b=>by simp[iT]at b,λj b=>by simp[iT]at b⟩,λi d=>?_⟩
  rw[aha]at d;obtain⟨rfl,-⟩:=E2.1 d;rw[HM,aph rfl];have z:vl ι (λ_=>0) (iT (yD l.bs)).t []=0:=Ht ι _
  have e:=gV ι (λ_=>0) (t:=(iT (yD l.bs)).t) ((1:cA):cl)
  rw[show ι.φ ((1:cA):cl)=1 from ι.one]at e
  exact⟨e.trans H.fr.1.symm,z.trans H.fr.2.1.symm,z.trans H.fr.2.2.1.symm,z.trans H.fr.2.2.2.symm⟩
 have g:gs.drop 0=gs:=aqD;have:=ate ι f c S P H m ck (yD gs-0) 0 _ _ (Hl.start (gs:=gs) c S) st rfl [];rw[g]at this;exact this h
end
end
open fb
def yl(r:Raw):Prop:=r=⟨aj,[],[]⟩\/∃s a b,r=⟨s,[a],[b]⟩
variable (a:aa G) {e:Raw}
def BE(r:e.valid=bj)(h:mo e=aj):yl e:=by
 have h:¬2<yD e.n+yD e.d:=by simpa [mo]using h
 by_cases f:e.n=[]/\e.d=[];refine z1 ?_;have c:=r;unfold Raw.valid at c;rw[aph f]at c;obtain⟨s,n,d⟩:=e;obtain⟨rfl,rfl⟩:=f;have:s=aj:=by simpa using c
 rw[this];have g:e.mz:=by unfold Raw.valid at r;rw[ape f]at r;simpa using r
 have k:0<yD e.n:=aqd.2 g.1;have l:0<yD e.d:=aqd.2 g.2.1;obtain⟨a,j⟩:=ap_.1 (by omega:yD e.n=1);obtain⟨b,i⟩:=ap_.1 (by omega:yD e.d=1);obtain⟨s,n,d⟩:=e;exact z2 ⟨s,a,b,by rw[show n=[a]from j,show d=[b]from i]⟩
def ajw{x:Raw}(d:yl x):∃z,Spec zZq G 80 [zK 1 aj (qO x)] (bool z):=by
 obtain rfl|⟨f,a0,e,rfl⟩:=d
 exact⟨bj,Spec.r a func80 [] []⟩;by_cases c:400<a0;exact⟨aj,Spec.r a func80 [] [.eb 31 (uC c)]⟩;by_cases b:20<e;exact⟨aj,Spec.r a func80 [] [.eb 31 (fu c),.eb 44 (uC b)]⟩;exact⟨bj,Spec.r a func80 [] [.eb 31 (fu c),.eb 44 (fu b)]⟩
def ajv{x y:Raw}(h:yl x)(g:yl y):∃z,Spec zZq G 80 [zK 2 aj (qO x++qO y)] (bool z):=by
 obtain rfl|⟨j,a0,i,rfl⟩:=h
 obtain rfl|⟨s1,a1,f,rfl⟩:=g
 exact⟨bj,Spec.r a func80 [] []⟩;by_cases e:400<a1;exact⟨aj,Spec.r a func80 [] [.eb 31 (uC e)]⟩;by_cases c:20<f;exact⟨aj,Spec.r a func80 [] [.eb 31 (fu e),.eb 44 (uC c)]⟩;exact⟨bj,Spec.r a func80 [] [.eb 31 (fu e),.eb 44 (fu c)]⟩;by_cases b:400<a0;exact⟨aj,Spec.r a func80 [] [.eb 31 (uC b)]⟩;by_cases d:20<i;exact⟨aj,Spec.r a func80 [] [.eb 31 (fu b),.eb 44 (uC d)]⟩;obtain rfl|⟨s1,a1,f,rfl⟩:=g
 exact⟨bj,Spec.r a func80 [] [.eb 31 (fu b),.eb 44 (fu d)]⟩;by_cases e:400<a1;exact⟨aj,Spec.r a func80 [] [.eb 31 (fu b),.eb 44 (fu d),.eb 31 (uC e)]⟩;by_cases c:20<f;exact⟨aj,Spec.r a func80 [] [.eb 31 (fu b),.eb 44 (fu d),.eb 31 (fu e),.eb 44 (uC c)]⟩;exact⟨bj,Spec.r a func80 [] [.eb 31 (fu b),.eb 44 (fu d),.eb 31 (fu e),.eb 44 (fu c)]⟩
open fb Classical
noncomputable def afS(G:bn->Prop)(x y:Raw):b5:=if h:∃z,Spec zZq G 80 [zK 2 aj (qO x++qO y)] (bool z)then choose h else bj
def ajt{x y:Raw}(b:yl x)(c:yl y):Spec zZq G 80 [zK 2 aj (qO x++qO y)] (bool (afS G x y)):=by have h:=ajv a b c;unfold afS;rw[dif_pos h];exact choose_spec h
noncomputable def afT(G:bn->Prop)(x:Raw):b5:=if h:∃z,Spec zZq G 80 [zK 1 aj (qO x)] (bool z)then choose h else bj
def aju{x:Raw}(b:yl x):Spec zZq G 80 [zK 1 aj (qO x)] (bool (afT G x)):=by have h:=ajw a b;unfold afT;rw[dif_pos h];exact choose_spec h
def liS(l:pB)(xs:ai zZ)(i k:aw):St:=lay 63 [(1,aQ oU xs),(2,.aJ (uI l)),(5,nat i),(6,nat k)] []
def loS(l:pB)(xs:ai zZ)(i:aw):St:=lay 63 [(1,aQ oU xs),(2,.aJ (uI l)),(5,nat i)] []
def lR:St:=lay 63 [(4,bool aj)] []
section
variable {l:pB} {xs:ai zZ} {i k:aw}
noncomputable def lpE(G:bn->Prop)(b:xd)(k:aw):aw:=if afS G (yI b.aC k bc).x (yI b.aC k bc).y=bj then 0 else 1
def SP(f:i<yD l.bs)(g:k<(yI l.bs i bc).aC.length)(r:(yI l.bs i bc).aC.length<=8)(w:yl ((yI l.bs i bc).aC.getD k bc).x/\yl ((yI l.bs i bc).aC.getD k bc).y):
  (lpE G (yI l.bs i bc) k=0->af zZq G 0 (ae f33 1) (liS l xs i k) z3 (liS l xs i (k+1)))/\(lpE G (yI l.bs i bc) k≠0->af zZq G 0 (ae f33 1) (liS l xs i k) .ret lR):=by
 have c:=ajt a w.1 w.2;have a1:=Bn f;have d:=bA a8 f 1 za
 have b:=j5 a8 f bc 1 za
 unfold lpE;generalize yI l.bs i bc=B at*;have e:=cE bb za g
 have n:0<3/\3<=(((B.aC.flatMap qp).drop ((zNq k).toNat*7)).drop 1).length:=by
  have:=(aq bb za g).2
  rw[apu];omega
 have m:0<3/\3<=(((B.aC.flatMap qp).drop ((zNq k).toNat*7)).drop 4).length:=by
  have:=(aq bb za g).2
  rw[apu];omega
 have j:=fO bb g bc;simp only[D.agg.injEq]at j;have q:D.agg ((((B.aC.flatMap qp).drop ((zNq k).toNat*7)).drop 1).take 3)=z4 (qO (yI B.aC k bc).x):=by
  have:(((B.aC.flatMap qp).drop ((zNq k).toNat*7)).drop 1).take 3=((((B.aC.flatMap qp).drop ((zNq k).toNat*7)).take 7).drop 1).take 3:=by
   rw[arY,arl];rfl
  rw[this,j];rfl
 have p:D.agg ((((B.aC.flatMap qp).drop ((zNq k).toNat*7)).drop 4).take 3)=z4 (qO (yI B.aC k bc).y):=by
  have:(((B.aC.flatMap qp).drop ((zNq k).toNat*7)).drop 4).take 3=((((B.aC.flatMap qp).drop ((zNq k).toNat*7)).take 7).drop 4).take 3:=by
   rw[arY,arl];rfl
  rw[this,j];rfl
 cases o:afS G (yI B.aC k bc).x (yI B.aC k bc).y with
 |true=>
  rw[o]at c;refine⟨λ_=>?_,λh=>api (aph rfl) h⟩
  exact af.r a [.er 18 (nat i),zD a1,zD d,.eq 21 b,.eb 23 (ah g),.er 28 (nat i),zD a1,zD d,.eq 31 b,.er 32 (nat k),zD e,zD n,.eq 35 q,.er 38 (nat i),zD a1,zD d,.eq 41 b,.er 42 (nat k),zD e,zD m,.eq 45 p,zC c,.eq 25 (bL (cI g za))]
 |false=>
  rw[o]at c;refine⟨λh=>api h zb,λ_=>?_⟩
  exact af.r a [.er 18 (nat i),zD a1,zD d,.eq 21 b,.eb 23 (ah g),.er 28 (nat i),zD a1,zD d,.eq 31 b,.er 32 (nat k),zD e,zD n,.eq 35 q,.er 38 (nat i),zD a1,zD d,.eq 41 b,.er 42 (nat k),zD e,zD m,.eq 45 p,zC c]
def ajE(b:i<yD l.bs):af zZq G 0 (ae f33 1) (liS l xs i (yI l.bs i bc).aC.length) (yu 2) (loS l xs i):=by
 have a1:=Bn b;have d:=bA a8 b 1 za
 have c:=j5 a8 b bc 1 za
 generalize yI l.bs i bc=B at*;exact af.r a [.er 18 (nat i),zD a1,zD d,.eq 21 c,.eb 23 (c9 (apc (yD B.aC)))]
noncomputable def lbE(G:bn->Prop)(l:pB)(i:aw):aw:=jY (lpE G (yI l.bs i bc)) (yI l.bs i bc).aC.length
def SK(b:i<yD l.bs)(r:yD l.bs<=1000)(n:(yI l.bs i bc).aC.length<=8)(w:∀m∈(yI l.bs i bc).aC,yl m.x/\yl m.y):
  (lbE G l i=0->af zZq G 0 (ae f33 0) (loS l xs i) z3 (loS l xs (i+1)))/\(lbE G l i≠0->af zZq G 0 (ae f33 0) (loS l xs i) .ret lR):=by
 unfold lbE;have f:∀k,k<(yI l.bs i bc).aC.length->yl ((yI l.bs i bc).aC.getD k bc).x/\yl ((yI l.bs i bc).aC.getD k bc).y:=λk c=>w _ (aA c bc)
 rcases dg (lpE G (yI l.bs i bc)) (yI l.bs i bc).aC.length with⟨e,d⟩|⟨k,e,d,q,p⟩
 ·have g:=aI.z zZq G (ae f33 1) (yu 2) (loS l xs i) (λk=>liS l xs i k) (yI l.bs i bc).aC.length (λk c=>(SP a b c n (f k c)).1 (d k c)) (ajE a b)
  refine⟨λ_=>?_,λh=>api e h⟩
  exact af.r a [.eb 12 (ah b),.code g,.eq 14 (bL (cI b za))]
 ·have g:=aI.z zZq G (ae f33 1) .ret lR (λk=>liS l xs i k) k (λj o=>(SP a b za n (f j za)).1 (p j o)) ((SP a b e n (f k e)).2 d)
  refine⟨λh=>api (q.symm.trans h) d,λ_=>?_⟩
  exact af.r a [.eb 12 (ah b),.code g]
def ltS(l:pB)(xs:ai zZ)(i:aw):St:=lay 63 [(1,aQ oU xs),(2,.aJ (uI l)),(7,nat i)] []
def ajz:af zZq G 0 (ae f33 0) (loS l xs (yD l.bs)) (yu 0) (lay 63 [(1,aQ oU xs),(2,.aJ (uI l))] []):=
 af.r a [.eb 12 (c9 (apc (yD l.bs)))]
noncomputable def ltE(G:bn->Prop)(xs:ai zZ)(i:aw):aw:=if afT G (yI xs i bc).t=bj then 0 else 1
def SJ(b:i<yD xs)(m:yD xs<=1000)(w:yl (yI xs i bc).t):
  (ltE G xs i=0->af zZq G 0 (ae f33 2) (ltS l xs i) z3 (ltS l xs (i+1)))/\(ltE G xs i≠0->af zZq G 0 (ae f33 2) (ltS l xs i) .ret lR):=by
 have c:=aju a w;have e:=cE uH za b
 have d:0<3/\3<=(((xs.flatMap oU).drop ((zNq i).toNat*4)).drop 0).length:=by
  have:=(aq uH za b).2
  rw[apu];omega
 have j:=fO uH b bc;simp only[D.agg.injEq]at j;have g:D.agg ((((xs.flatMap oU).drop ((zNq i).toNat*4)).drop 0).take 3)=z4 (qO (yI xs i bc).t):=by
  have:(((xs.flatMap oU).drop ((zNq i).toNat*4)).drop 0).take 3=(((xs.flatMap oU).drop ((zNq i).toNat*4)).take 4).take 3:=by
   rw[aqD,arl];rfl
  rw[this,j];rfl
 unfold ltE;cases f:afT G (yI xs i bc).t with
 |true=>
  rw[f]at c;refine⟨λ_=>?_,λh=>api (aph rfl) h⟩
  exact af.r a [.eb 52 (ah b),.er 56 (nat i),zD e,zD d,.eq 59 g,zC c,.eq 54 (bL (cI b za))]
 |false=>
  rw[f]at c;refine⟨λh=>api h zb,λ_=>?_⟩
  exact af.r a [.eb 52 (ah b),.er 56 (nat i),zD e,zD d,.eq 59 g,zC c]
def ajs:af zZq G 0 (ae f33 2) (ltS l xs (yD xs)) (yu 4) (lay 63 [] []):=
 af.r a [.eb 52 (c9 (apc (yD xs)))]
def al9(g:yD l.bs<=1000)(f:yD xs<=1000)(q:∀b∈l.bs,yD b.aC<=8/\∀m∈b.aC,yl m.x/\yl m.y)(w:∀x∈xs,yl x.t):∃z,Spec zZq G 33 [Co l,aQ oU xs] (bool z):=by
 have d:∀i<yD l.bs,(yI l.bs i bc).aC.length<=8/\∀m∈(yI l.bs i bc).aC,yl m.x/\yl m.y:=λi p=>q _ (aA p bc)
 rcases dg (lbE G l) (yD l.bs) with⟨-,h⟩|⟨i,j,h,-,r⟩
 have e:=aI.z zZq G (ae f33 0) (yu 0) (lay 63 [(1,aQ oU xs),(2,.aJ (uI l))] []) (λk=>loS l xs k) (yD l.bs) (λk c=>(SK a c g (d k c).1 (d k c).2).1 (h k c)) (ajz a);rcases dg (ltE G xs) (yD xs) with⟨-,n⟩|⟨i,o,n,-,s⟩
 have lq:=aI.z zZq G (ae f33 2) (yu 4) (lay 63 [] []) (λk=>ltS l xs k) (yD xs) (λk c=>(SJ a c f (w _ (aA c bc))).1 (n k c)) (ajs a);exact⟨bj,Spec.r a func33 [2] [.code e,.code lq]⟩;have lq:=aI.z zZq G (ae f33 2) .ret lR (λk=>ltS l xs k) i (λk c=>(SJ a za f (w _ (aA za bc))).1 (s k c)) ((SJ a o f (w _ (aA o bc))).2 n);exact⟨aj,Spec.r a func33 [2] [.code e,.code lq]⟩;have e:=aI.z zZq G (ae f33 0) .ret lR (λk=>loS l xs k) i (λk c=>(SK a za g (d k za).1 (d k za).2).1 (r k c)) ((SK a j g (d i j).1 (d i j).2).2 h);exact⟨aj,Spec.r a func33 [2] [.code e]⟩
end
def zq(kind body:aw)(m:ai b5)(j:Jt):b5:=decide (j.kind=kind)&&((decide (j.a=body)&&yI m j.b aj)||(decide (j.b=body)&&yI m j.a aj))
section
variable {l:Lk} {kind body i:aw} {m:ai b5}
def rjS(l:Lk)(kind body:aw)(m:ai b5)(i:aw):St:=lay 51 [(1,nat kind),(2,nat body),(3,gS m),(4,.aJ (yJ l)),(12,aQ Hh l.js),(13,nat (yD l.js)),(14,nat i)] []
def aab(o:g7 l)(k:i<yD l.js)(y:yD m=yD l.bs):
  (zq kind body m (yI l.js i bc)=aj->af zZq G 0 (ae f188 0) (rjS l kind body m i) z3 (rjS l kind body m (i+1)))/\
  (zq kind body m (yI l.js i bc)=bj->af zZq G 0 (ae f188 0) (rjS l kind body m i) .ret (lay 51 [(8,nat i)] [])):=by
 have g:=cE bQ za k
 have f:=aq bQ za k
 have e:=fO bQ k bc;have p:=aA k (bc:Jt);have w:=o.nj;have n:bJ .i64 (zNq i+1)=zNq (i+1):=cI k za
 have la:=o.a _ p;have x:=o.b _ p;have v:=o.ab _ p;unfold zq;generalize yI l.js i bc=j at*;have a1:=gN (l:=m) (b:=j.a) za
 have u:=gO (l:=m) (b:=j.a) za
 have r:=jd (l:=m) (b:=j.a) za
 have t:=gN (l:=m) (b:=j.b) za
 have s:=gO (l:=m) (b:=j.b) za
 have q:=jd (l:=m) (b:=j.b) za
 by_cases b:j.kind=kind
 ·by_cases c:j.a=body
  ·have d:j.b≠body:=λh=>v (c.trans h.symm)
   rw[apE b,apE c,apG d];generalize yI m j.b aj=z at q;cases z with
   |true=>
    refine⟨λh=>by simp at h,λ_=>?_⟩
    exact af.r a [.eb 15 (ah k),zD g,zD f,.eq 18 e,.eb 22 (gI b),.eb 27 (gI c),.er 31 (nat j.b),zD t,zD s,.eq 33 q]
   |false=>
    refine⟨λ_=>?_,λh=>by simp at h⟩
    exact af.r a [.eb 15 (ah k),zD g,zD f,.eq 18 e,.eb 22 (gI b),.eb 27 (gI c),.er 31 (nat j.b),zD t,zD s,.eq 33 q,.eb 39 (fh d),.eq 50 (bL n)]
  ·by_cases d:j.b=body
   ·rw[apE b,apG c,apE d]
    generalize yI m j.a aj=z at r;cases z with
    |true=>
     refine⟨λh=>by simp at h,λ_=>?_⟩
     exact af.r a [.eb 15 (ah k),zD g,zD f,.eq 18 e,.eb 22 (gI b),.eb 27 (fh c),.eb 39 (gI d),.er 43 (nat j.a),zD a1,zD u,.eq 45 r]
    |false=>
     refine⟨λ_=>?_,λh=>by simp at h⟩
     exact af.r a [.eb 15 (ah k),zD g,zD f,.eq 18 e,.eb 22 (gI b),.eb 27 (fh c),.eb 39 (gI d),.er 43 (nat j.a),zD a1,zD u,.eq 45 r,.eq 50 (bL n)]
   ·rw[apE b,apG c,apG d]
    refine⟨λ_=>?_,λh=>by simp at h⟩
    exact af.r a [.eb 15 (ah k),zD g,zD f,.eq 18 e,.eb 22 (gI b),.eb 27 (fh c),.eb 39 (fh d),.eq 50 (bL n)]
 ·rw[apG b]
  refine⟨λ_=>?_,λh=>by simp at h⟩
  exact af.r a [.eb 15 (ah k),zD g,zD f,.eq 18 e,.eb 22 (fh b),.eq 50 (bL n)]
def xb(l:Lk)(kind body:aw)(m:ai b5):cA:=EU (zq kind body m) l.js
def rQ(d:g7 l)(c:yD m=yD l.bs):Spec zZq G 188 [lM l,nat kind,nat body,gS m] (int (xb l kind body m)):=by
 have rd:∀i,i<l.js.findIdx (zq kind body m)->af zZq G 0 (ae f188 0) (rjS l kind body m i) z3 (rjS l kind body m (i+1)):=λi f=>by
  obtain⟨j,g⟩:=qX (bc:Jt) f;exact(aab a d j c).1 g
 unfold xb EU;split
 ·rename_i h
  have b:=aI.z zZq G (ae f188 0) .ret (lay 51 [(8,nat (l.js.findIdx (zq kind body m)))] []) (λi=>rjS l kind body m i) _ rd ((aab a d h c).2 (lS bc h))
  exact Spec.r a func188 [4] [.code b]
 ·rename_i h
  have e:l.js.findIdx (zq kind body m)=yD l.js:=arp aqu za
  rw[e]at rd;have b:=aI.z zZq G (ae f188 0) (yu 0) (lay 51 [] []) (λi=>rjS l kind body m i) (yD l.js) rd
   (af.r a [.eb 15 (c9 (apc (yD l.js)))])
  exact Spec.r a func188 [4] [.code b]
def Jh(l:Lk)(b:aw):b5:=l.ds.any λd=>decide (d.body=b)
def rdS(l:Lk)(b i:aw):St:=lay 19 [(1,nat b),(8,aQ Ky l.ds),(9,nat (yD l.ds)),(10,nat i)] []
def ac0(r:g7 l)(b:aw):Spec zZq G 245 [lM l,nat b] (bool (Jh l b)):=by
 have u:=r.nd;have any:∀i<yD l.ds,((yI l.ds i bc).body≠b->af zZq G 0 (ae f245 0) (rdS l b i) z3 (rdS l b (i+1)))/\((yI l.ds i bc).body=b->af zZq G 0 (ae f245 0) (rdS l b i) .ret (lay 19 [(4,bool bj)] [])):=λi c=>by
  have n:=cE gd za c
  have k:=aq gd za c
  have e:=fO gd c bc;generalize yI l.ds i bc=d at*;exact⟨λh=>af.r a [.eb 11 (ah c),zD n,zD k,.eq 13 e,.eb 17 (fh h),.eq 18 (bL (cI c za))],
   λh=>af.r a [.eb 11 (ah c),zD n,zD k,.eq 13 e,.eb 17 (gI h)]⟩
 rcases dg (λi=>if(yI l.ds i bc).body=b then 1 else 0) (yD l.ds) with⟨-,g⟩|⟨i,p,g,-,t⟩
 ·have ne:∀i<yD l.ds,(yI l.ds i bc).body≠b:=λi c e=>by
   have:=g i c;rw[aph e]at this;cases this
  have ev:Jh l b=aj:=by
   unfold Jh;rw[arS];exact yi (P:=λd:Dr=>¬decide (d.body=b)=bj) λi c=>by
    have:=ne i c;simpa using this
  have f:=aI.z zZq G (ae f245 0) (yu 0) (lay 19 [] []) (λi=>rdS l b i) (yD l.ds) (λi c=>(any i c).1 (ne i c))
   (af.r a [.eb 11 (c9 (apc (yD l.ds)))])
  rw[ev];exact Spec.r a func245 [2] [.code f]
 ·have o:(yI l.ds i bc).body=b:=by
   by_cases q:(yI l.ds i bc).body=b
   ·exact q
   ·exact api (ape q) g
  have ev:Jh l b=bj:=by
   unfold Jh;rw[arj];exact⟨_,aA p bc,by simpa using o⟩
  have f:=aI.z zZq G (ae f245 0) .ret (lay 19 [(4,bool bj)] []) (λi=>rdS l b i) i (λj s=>(any j za).1 λe=>by
   have:=t j s;rw[aph e]at this;cases this) ((any i p).2 o)
  rw[ev];exact Spec.r a func245 [2] [.code f]
def DG(l:Lk)(m:ai b5)(b:aw):b5:= !m.getD b aj&& !Jh l b
def Jc(h:g7 l){b:aw}(c:b<yD m):Spec zZq G 189 [lM l,gS m,nat b] (bool (DG l m b)):=by have g:=gN c;have f:=gO c;have e:=jd c;have d:=ac0 a h b;unfold DG;generalize yI m b aj=z at e;generalize Jh l b=y at d;cases z;cases y<;>exact Spec.r a func189 [3] [.er 8 (nat b),zD g,zD f,.eq 10 e,zC d];exact Spec.r a func189 [3] [.er 8 (nat b),zD g,zD f,.eq 10 e]
end
variable {b:ai b5} {c:aw}
def aa2(l:yD d.bs<=1000000)(b:c<yD d.bs):Spec zZq G 142 [lM d,nat c] (zK (yD d.bs) aj (((aE (cd (yD d.bs) (bool aj)) (0+(zNq c).toNat*1) [bool bj]).drop 0).take (yD d.bs))):=by
 have e:=qU l;have a1:(0:cA)<=zNq c/\zNq c<(((zNq (yD d.bs)).toNat:aw):cA):=bR b;have s1:0+(zNq c).toNat*1+1<=(cd (zNq (yD d.bs)).toNat (bool aj)).length:=by have g:(zNq (yD d.bs)).toNat=yD d.bs:=rfl;have f:(zNq c).toNat=c:=rfl;rw[aqb,g,f];omega
 exact Spec.r a func142 [2] [.er 8 (nat (yD d.bs)),zD e,.er 11 (nat c),zD a1,zD s1]
def mi(n b:aw):ai b5:=(cd n aj).set b bj
def aa3(b:yD d.bs<=1000000)(f:c<yD d.bs):Spec zZq G 142 [lM d,nat c] (gS (mi (yD d.bs) c)):=by
 have h:=aa2 a b f;have e:=a_ (l:=cd (yD d.bs) aj) (b:=c) (by simpa using f)
 rw[asc]at e;have l:(mi (yD d.bs) c).length=yD d.bs:=by unfold mi;rw[apY,aqb]
 rw[e,aqD,apA (by rw[apq,apY,aqb];exact apc _)]at h
 unfold gS;rw[l];exact h
def iI(l:Lk)(m:ai b5)(d:Dr):b5:= !m.getD d.body aj&&decide (xb l 0 d.body m>=0)
def vo(l:Lk)(m:ai b5):bF Gp:=
 if l.ds.findIdx (iI l m)<yD l.ds then
  a6 ⟨0,[(yI l.ds (l.ds.findIdx (iI l m)) bc).body],[(xb l 0 (yI l.ds (l.ds.findIdx (iI l m)) bc).body m).toNat],l.ds.findIdx (iI l m)⟩
 else bk
def ago(l:Lk)(m:ai b5)(i:aw):St:=lay 38 [(1,gS m),(2,.aJ (yJ l)),(4,z0 0 0),(10,aQ Ky l.ds),(11,nat (yD l.ds)),(12,nat i)] [(0,Da)] [0]
def K9(t:g7 d)(v:yD b=yD d.bs):iS zZq G 143 [lM d,gS b] (MV (vo d b)):=by
 have ca:∀m,Spec zZq G 188 [lM d,nat 0,nat m,gS b] (int (xb d 0 m b)):=λb=>rQ a t v
 have k:∀i<yD d.ds,(yI d.ds i bc).body<yD b:=λi u=>by rw[v];exact t.body _ (aA u _)
 have y:=t.nd;have rd:∀i,i<d.ds.findIdx (iI d b)->af zZq G 0 (ae f143 0) (ago d b i) z3 (ago d b (i+1)):=λi u=>by
  obtain⟨j,l⟩:=qX bc u;have e:=fO gd j bc;have r:=gN (k i j);have q:=gO (k i j);have o:=jd (k i j);have c:=ca (yI d.ds i bc).body;rw[iI]at l;generalize yI b (yI d.ds i bc).body aj=z at o l;cases z with
  |true=>exact af.r a [.eb 13 (ah j),zD (cE gd za j),zD (aq gd za j),.eq 16 e,.er 19 (nat (yI d.ds i bc).body),zD r,zD q,.eq 21 o,.eq 36 (bL (cI j za))]
  |false=>
   obtain g|⟨n,-,g⟩:=fk (zq 0 (yI d.ds i bc).body b) d.js
   ·have f:xb d 0 (yI d.ds i bc).body b= -1:=g
    rw[f]at c;exact af.r a [.eb 13 (ah j),zD (cE gd za j),zD (aq gd za j),.eq 16 e,.er 19 (nat (yI d.ds i bc).body),zD r,zD q,.eq 21 o,zC c,.eq 36 (bL (cI j za))]
   ·have f:xb d 0 (yI d.ds i bc).body b=zNq n:=g
    rw[f]at l;simp at l
 unfold vo;split
 ·rename_i h
  have l:=lS (p:=iI d b) bc h;have e:=fO gd h bc;have r:=gN (k _ h);have q:=gO (k _ h);have o:=jd (k _ h);have c:=ca (yI d.ds (d.ds.findIdx (iI d b)) bc).body;obtain g|⟨n,-,g⟩:=fk (zq 0 (yI d.ds (d.ds.findIdx (iI d b)) bc).body b) d.js
  ·have f:xb d 0 (yI d.ds (d.ds.findIdx (iI d b)) bc).body b= -1:=g
   rw[iI,f,dT]at l;exact api l.2 zt
  ·have f:xb d 0 (yI d.ds (d.ds.findIdx (iI d b)) bc).body b=zNq n:=g
   have x:yI b (yI d.ds (d.ds.findIdx (iI d b)) bc).body aj=aj:=by
    rw[iI]at l;simpa using(Bool.and_eq_true_iff.1 l).1
   rw[x]at o;rw[f]at c⊢;have s:=aI.z zZq G (ae f143 0) .ret (lay 38 [(4,z0 0 0),(5,bool bj)] [(0,[nat 0,.aY 2 0 1 1,.aY 3 0 1 1,nat (d.ds.findIdx (iI d b))]),(2,[nat (yI d.ds (d.ds.findIdx (iI d b)) bc).body]),(3,[nat n])] [0]) (λi=>ago d b i) _ rd
    (af.br a (ro:=[31,33]) (m:=60) (aB ..) [.eb 13 (ah h),zD (cE gd za h),zD (aq gd za h),.eq 16 e,.er 19 (nat (yI d.ds (d.ds.findIdx (iI d b)) bc).body),zD r,zD q,.eq 21 o,zC c,.eb 28 (mP n)])
   exact iS.br a func143 (ro:=[2]) (m:=60) [.code s]
 ·rename_i h
  have w:d.ds.findIdx (iI d b)=yD d.ds:=arp aqu za
  rw[w]at rd;have s:=aI.z zZq G (ae f143 0) (yu 0) (lay 38 [(4,z0 0 0)] [(0,Da)] [0]) (λi=>ago d b i) _ rd
   (af.r a [.eb 13 (c9 (apc (yD d.ds)))])
  exact iS.br a func143 (ro:=[2]) (m:=60) [.code s]
def sI(l:Lk)(m:ai b5)(i:aw):b5:=DG l m i&&(decide (xb l 0 i m>=0)&&decide (xb l 1 i m>=0))
def yP(l:Lk)(m:ai b5):aw:=(ch (yD l.bs)).findIdx (sI l m)
def singleR(l:Lk)(m:ai b5):bF Gp:=
 if yP l m<yD l.bs then
  a6 ⟨eO l (yP l m) (xb l 1 (yP l m) m).toNat,[yP l m],[(xb l 0 (yP l m) m).toNat,(xb l 1 (yP l m) m).toNat],0⟩
 else bk
def ZR(l:Lk)(m:ai b5)(i:aw):St:=lay 52 [(1,gS m),(2,.aJ (yJ l)),(4,z0 0 0),(12,nat (yD l.bs)),(13,nat i)] [(0,Da)] [0]
def K4(u:g7 d)(E:yD b=yD d.bs):iS zZq G 145 [lM d,gS b] (MV (singleR d b)):=by
 have ca:∀k l,Spec zZq G 188 [lM d,nat k,nat l,gS b] (int (xb d k l b)):=λk l=>rQ a u E
 have D:∀i<yD d.bs,Spec zZq G 189 [lM d,gS b,nat i] (bool (DG d b i)):=λi B=>Jc a u za
 have I:=u.nb;have w:(ch (yD d.bs)).length=yD d.bs:=aqL;have rd:∀i<yP d b,af zZq G 0 (ae f145 0) (ZR d b i) z3 (ZR d b (i+1)):=λi B=>by
  obtain⟨f,m⟩:=qX 0 (p:=sI d b) B;rw[w]at f;rw[mL f]at m;have c:=D i f;have c0:=ca 0 i;have q:=ca 1 i;rw[sI]at m;generalize DG d b i=z at c m;cases z with
  |false=>exact af.r a [.eb 14 (ah f),zC c,.eq 50 (bL (cI f za))]
  |true=>
   rw[asK]at m;obtain j|⟨n,-,j⟩:=fk (zq 0 i b) d.js
   ·have g:xb d 0 i b= -1:=j
    rw[g]at c0;exact af.r a [.eb 14 (ah f),zC c,zC c0,zC q,.eq 50 (bL (cI f za))]
   ·have g:xb d 0 i b=zNq n:=j
    rw[g]at c0;obtain o|⟨k,-,o⟩:=fk (zq 1 i b) d.js
    ·have r:xb d 1 i b= -1:=o
     rw[r]at q;exact af.r a [.eb 14 (ah f),zC c,zC c0,zC q,.eb 30 (bT n),.eq 50 (bL (cI f za))]
    ·have r:xb d 1 i b=zNq k:=o
     rw[g,r]at m;simp at m
 unfold singleR;split
 ·rename_i h
  have F:(ch (yD d.bs)).findIdx (sI d b)<(ch (yD d.bs)).length:=by rw[w];exact h
  have m:sI d b ((ch (yD d.bs)).getD (yP d b) 0)=bj:=lS (p:=sI d b) 0 F;rw[mL h]at m;generalize H:yP d b=i at h m rd;have c:=D i h;have c0:=ca 0 i;have q:=ca 1 i;rw[sI,dT,dT]at m;obtain⟨f1,f2,f3⟩:=m;rw[f1]at c;obtain j|⟨n,A,j⟩:=fk (zq 0 i b) d.js
  ·have g:xb d 0 i b= -1:=j
   rw[g]at f2;exact api f2 zt
  obtain o|⟨k,v,o⟩:=fk (zq 1 i b) d.js
  ·have r:xb d 1 i b= -1:=o
   rw[r]at f3;exact api f3 zt
  have g:xb d 0 i b=zNq n:=j;have r:xb d 1 i b=zNq k:=o;rw[g]at c0⊢;rw[r]at q⊢;have y:=cE bQ za v
  have x:=bA bQ v 2 za
  have e:=j5 bQ v bc 2 za
  have C:(((d.js.flatMap Hh).drop ((zNq k).toNat*7)).drop 2).headD .any=nat (yI d.js k bc).a:=e;unfold eO;by_cases t:(yI d.js (zNq k).toNat bc).a=i
  ·rw[aph t]
   have s:=aI.z zZq G (ae f145 0) .ret (lay 52 [(4,z0 0 0),(5,bool bj)] [(0,[nat 2,.aY 1 0 1 1,.aY 2 0 2 2,nat 0]),(1,[nat i]),(2,[nat n,nat k])] [0]) (λi=>ZR d b i) i rd
    (af.br a (ro:=[45,48]) (m:=60) (aB ..) [.eb 14 (ah h),zC c,zC c0,zC q,.eb 30 (bT n),.eb 33 (bT k),.er 37 (nat k),zD y,zD x,.eq 40 C,.eb 42 (gI t)])
   exact iS.br a func145 (ro:=[2]) (m:=60) [.code s]
  ·rw[ape t]
   have s:=aI.z zZq G (ae f145 0) .ret (lay 52 [(4,z0 0 0),(5,bool bj)] [(0,[nat 3,.aY 1 0 1 1,.aY 2 0 2 2,nat 0]),(1,[nat i]),(2,[nat n,nat k])] [0]) (λi=>ZR d b i) i rd
    (af.br a (ro:=[45,48]) (m:=60) (aB ..) [.eb 14 (ah h),zC c,zC c0,zC q,.eb 30 (bT n),.eb 33 (bT k),.er 37 (nat k),zD y,zD x,.eq 40 C,.eb 42 (fh t)])
   exact iS.br a func145 (ro:=[2]) (m:=60) [.code s]
 ·rename_i h
  have A:yP d b=yD d.bs:=arp (by have:= @aqu _ (sI d b) (ch (yD d.bs));rw[w]at this;exact this) za
  rw[A]at rd;have s:=aI.z zZq G (ae f145 0) (yu 0) (lay 52 [(4,z0 0 0)] [(0,Da)] [0]) (λi=>ZR d b i) _ rd
   (af.r a [.eb 14 (c9 (apc (yD d.bs)))])
  exact iS.br a func145 (ro:=[2]) (m:=60) [.code s]
def jcR(l:Lk)(i k:aw):cA:=xb l 0 i (mi (yD l.bs) k)
def xE(l:Lk)(m:ai b5)(i k:aw):b5:=(DG l m i&&DG l m k)&&(decide (xb l 0 i m>=0)&&(decide (xb l 0 k m>=0)&&decide (jcR l i k>=0)))
section
variable {l:Lk} {m:ai b5} {i k:aw}
def prI(l:Lk)(m:ai b5)(i k:aw):St:=lay 72 [(1,gS m),(2,.aJ (yJ l)),(4,z0 0 0),(6,nat i),(7,nat k),(13,nat (yD l.bs)),(14,nat i)] [(0,Da)] [0]
def prO(l:Lk)(m:ai b5)(i:aw):St:=lay 72 [(1,gS m),(2,.aJ (yJ l)),(4,z0 0 0),(13,nat (yD l.bs)),(14,nat i)] [(0,Da)] [0]
def Au(l:Lk)(kind b:aw)(m:ai b5):xb l kind b m= -1\/∃n,xb l kind b m=zNq n:=by
 obtain h|⟨n,-,h⟩:=fk (zq kind b m) l.js
 exact z1 h;exact z2 ⟨n,h⟩
def UA(a:aa G)(d:g7 l)(u:yD m=yD l.bs)(B:i<yD l.bs)(c:k<yD l.bs)(h:xE l m i k=aj):
  af zZq G 0 (ae f144 1) (prI l m i k) z3 (prI l m i (k+1)):=by
 have x:=d.nb;have e:=Jc a d (m:=m) (b:=i) za
 have n:=Jc a d (m:=m) (b:=k) za
 have p:=aa3 a (d:=l) (c:=k) za c
 have w:(mi (yD l.bs) k).length=yD l.bs:=by unfold mi;rw[apY,aqb]
 have j:=rQ (kind:=0) (body:=i) a d u;have g:=rQ (kind:=0) (body:=k) a d u;have o:=rQ (kind:=0) (body:=i) a d w;unfold xE jcR at h;have f:bJ .i64 (zNq k+1)=zNq (k+1):=cI c za
 generalize DG l m i=z at e h;generalize DG l m k=y at n h;cases z
 ·exact af.r a [.eb 23 (ah c),zC e,.eq 25 (bL f)]
 ·cases y
  ·exact af.r a [.eb 23 (ah c),zC e,zC n,.eq 25 (bL f)]
  ·obtain s|⟨t,s⟩:=Au l 0 i m
   ·rw[s]at j
    exact af.r a [.eb 23 (ah c),zC e,zC n,zC j,zC g,zC p,zC o,.eq 25 (bL f)]
   ·rw[s]at j h
    obtain r|⟨v,r⟩:=Au l 0 k m
    ·rw[r]at g
     exact af.r a [.eb 23 (ah c),zC e,zC n,zC j,zC g,zC p,zC o,.eb 53 (mP t),.eq 25 (bL f)]
    ·rw[r]at g h
     rcases Au l 0 i (mi (yD l.bs) k)with q|⟨A,q⟩
     ·rw[q]at o
      exact af.r a [.eb 23 (ah c),zC e,zC n,zC j,zC g,zC p,zC o,.eb 53 (mP t),.eb 56 (mP v),.eq 25 (bL f)]
     ·rw[q]at h
      simp at h
def prR(i k c b a:aw):St:=lay 72 [(4,z0 0 0),(5,bool bj)] [(0,[nat 1,.aY 1 0 2 2,.aY 2 0 3 3,nat 0]),(1,[nat i,nat k]),(2,[nat c,nat b,nat a])] [0]
def aiP(a:aa G)(c:g7 l)(o:yD m=yD l.bs)(B:i<yD l.bs)(p:k<yD l.bs)(h:xE l m i k=bj):
  af zZq G 0 (ae f144 1) (prI l m i k) .ret (prR i k (xb l 0 i m).toNat (xb l 0 k m).toNat (jcR l i k).toNat):=by
 have A:=c.nb;have u:=Jc a c (m:=m) (b:=i) za
 have t:=Jc a c (m:=m) (b:=k) za
 have z:=aa3 a (d:=l) (c:=k) za p
 have y:(mi (yD l.bs) k).length=yD l.bs:=by unfold mi;rw[apY,aqb]
 have n:=rQ (kind:=0) (body:=i) a c o;have j:=rQ (kind:=0) (body:=k) a c o;have g:=rQ (kind:=0) (body:=i) a c y;unfold xE at h;unfold jcR at h⊢;rw[zLq,zLq,zLq,zLq]at h;obtain⟨⟨f1,f2⟩,s,r,q⟩:=h;rw[f1]at u;rw[f2]at t;obtain f|⟨x,f⟩:=Au l 0 i m
 ·rw[f]at s;exact api s zt
 obtain e|⟨w,e⟩:=Au l 0 k m
 ·rw[e]at r;exact api r zt
 rcases Au l 0 i (mi (yD l.bs) k)with d|⟨v,d⟩
 ·rw[d]at q;exact api q zt
 rw[f]at n;rw[e]at j;rw[d]at g;rw[f,e,d];exact af.br a (ro:=[64,68]) (m:=60) (aB ..) [.eb 23 (ah p),zC u,zC t,zC n,zC j,zC z,zC g,.eb 53 (mP x),.eb 56 (mP w),.eb 60 (mP v)]
def Sb(b:yD l.bs<=k):af zZq G 0 (ae f144 1) (prI l m i k) (yu 2) (prO l m i):=
 af.r a [.eb 23 (c9 b)]
end
section
variable {l:Lk} {m:ai b5} {i k:aw}
def Lz{kind b:aw}{m:ai b5}(h:decide (xb l kind b m>=0)=bj):(xb l kind b m).toNat<yD l.js:=by
 obtain e|⟨n,a,e⟩:=fk (zq kind b m) l.js
 have e:xb l kind b m= -1:=e;rw[e]at h;exact api h zt;have e:xb l kind b m=zNq n:=e;rw[e];exact a
def PrB(l:Lk)(k c b a:aw):Prop:=k<yD l.bs/\c<yD l.js/\b<yD l.js/\a<yD l.js
def aaA(f:g7 l)(o:yD m=yD l.bs)(b:i<yD l.bs):
  af zZq G 0 (ae f144 0) (prO l m i) z3 (prO l m (i+1))\/∃k s r q,PrB l k s r q/\af zZq G 0 (ae f144 0) (prO l m i) .ret (prR i k s r q):=by
 have y:=f.nb;have h:bJ .i64 (zNq i+1)=zNq (i+1):=cI b za
 rcases dg (λd=>if xE l m i (i+1+d)=bj then 1 else 0) (yD l.bs-(i+1))with⟨-,g⟩|⟨d,z,g,-,u⟩
 ·have no:∀d,d<yD l.bs-(i+1)->xE l m i (i+1+d)=aj:=λd c=>by
   have:=g d c;split at this
   ·cases this
   ·rename_i n;simpa using n
  have j:=aI.z zZq G (ae f144 1) (yu 2) (prO l m i) (λd=>prI l m i (i+1+d)) (yD l.bs-(i+1)) (λd c=>UA a f o b za (no d c)) (Sb a za)
  exact z1 (af.r a [.eb 15 (ah b),.eq 18 (bL h),.code j,.eq 70 (bL h)])
 ·have c:xE l m i (i+1+d)=bj:=by
   split at g
   ·assumption
   ·exact api rfl g
  have no:∀e<d,xE l m i (i+1+e)=aj:=λe p=>by
   have:=u e p;split at this
   ·cases this
   ·rename_i n;simpa using n
  have j:=aI.z zZq G (ae f144 1) .ret (prR i (i+1+d) (xb l 0 i m).toNat (xb l 0 (i+1+d) m).toNat (jcR l i (i+1+d)).toNat) (λd=>prI l m i (i+1+d)) d (λe p=>UA a f o b za (no e p)) (aiP a f o b za c)
  have t:PrB l (i+1+d) (xb l 0 i m).toNat (xb l 0 (i+1+d) m).toNat (jcR l i (i+1+d)).toNat:=by
   unfold xE at c;rw[zLq,zLq,zLq,zLq]at c;obtain⟨-,x,w,v⟩:=c;exact⟨by omega,Lz x,Lz w,Lz v⟩
  exact z2 ⟨i+1+d,(xb l 0 i m).toNat,(xb l 0 (i+1+d) m).toNat,(jcR l i (i+1+d)).toNat,t,af.r a [.eb 15 (ah b),.eq 18 (bL h),.code j]⟩
def afd(f:aa G)(t:g7 l)(s:yD m=yD l.bs):∃o,iS zZq G 144 [lM l,gS m] (MV o)/\∀g,o=a6 g->(∀b∈g.bs,b<yD l.bs)/\(∀j∈g.js,j<yD l.js)/\yD g.bs<=2/\yD g.js<=3:=by
 open Classical in
 rcases dg (λi=>if(∃k d c a,PrB l k d c a/\af zZq G 0 (ae f144 0) (prO l m i) .ret (prR i k d c a))then 1 else 0) (yD l.bs) with⟨-,r⟩|⟨i,y,r,-,x⟩
 ·have n:=aI.z zZq G (ae f144 0) (yu 0) (lay 72 [(4,z0 0 0)] [(0,Da)] [0]) (λi=>prO l m i) (yD l.bs) (λi u=>(aaA f t s u).elim id λe=>by
    have:=r i u;rw[aph e]at this;cases this)
   (af.r f [.eb 15 (c9 (apc (yD l.bs)))])
  exact⟨bk,iS.br f func144 (ro:=[2]) (m:=60) [.code n],λg h=>by cases h⟩
 ·have e:∃k d c a,PrB l k d c a/\af zZq G 0 (ae f144 0) (prO l m i) .ret (prR i k d c a):=by
   by_cases q:∃k d c a,PrB l k d c a/\af zZq G 0 (ae f144 0) (prO l m i) .ret (prR i k d c a)
   ·exact q
   ·exact api (ape q) r
  obtain⟨k,d,c,a,⟨C,B,A,z⟩,e⟩:=e;have n:=aI.z zZq G (ae f144 0) .ret (prR i k d c a) (λi=>prO l m i) i (λj p=>(aaA f t s za).elim id λv=>by
    have:=x j p;rw[aph v]at this;cases this) e
  exact⟨a6 ⟨1,[i,k],[d,c,a],0⟩,iS.br f func144 (ro:=[2]) (m:=60) [.code n],λg h=>by
   cases h;exact⟨λb w=>by simp at w;omega,λj p=>by simp at p;omega,apc 2,apc 3⟩⟩
end
def JY(l:Lk)(g:Gp):Prop:=(∀b∈g.bs,b<yD l.bs)/\(∀j∈g.js,j<yD l.js)/\yD g.bs<=2/\yD g.js<=3
def Tl(e:g7 d)(h:vo d b=a6 f):JY d f:=by unfold vo at h;split at h;rename_i c;cases h;have g:=lS (p:=iI d b) bc c;rw[iI,zLq]at g;have i:=e.body _ (aA c bc);have m:=Lz g.2;exact⟨λb a=>by simp at a;rw[a];simpa using i,λj a=>by rw[apg]at a;rw[a];exact m,by simp,by simp⟩;cases h
def RH(h:singleR d b=a6 f):JY d f:=by
 unfold singleR at h;split at h
 ·rename_i m
  cases h;have l:(ch (yD d.bs)).findIdx (sI d b)<(ch (yD d.bs)).length:=by rw[aqL];exact m
  have e:sI d b ((ch (yD d.bs)).getD (yP d b) 0)=bj:=lS (p:=sI d b) 0 l;rw[mL m,sI,zLq,zLq]at e;have a:=Lz e.2.1;have g:=Lz e.2.2;refine⟨λx c=>?_,λj c=>?_,by simp,by simp⟩
  ·rw[apg]at c;rw[c];exact m
  ·simp only[b4,bI,or_false]at c
   obtain rfl|rfl:=c
   ·exact a
   ·exact g
 ·cases h
open Classical
noncomputable def Im(G:bn->Prop)(l:Lk)(m:ai b5):bF Gp:=
 if h:∃o,iS zZq G 144 [lM l,gS m] (MV o)/\∀g,o=a6 g->JY l g then choose h else bk
def MU(m:g7 d)(c:yD b=yD d.bs):iS zZq G 144 [lM d,gS b] (MV (Im G d b))/\∀g,Im G d b=a6 g->JY d g:=by have h:∃o,iS zZq G 144 [lM d,gS b] (MV o)/\∀g,o=a6 g->JY d g:=afd a m c;unfold Im;rw[dif_pos h];exact choose_spec h
noncomputable def Dc(G:bn->Prop)(l:Lk)(m:ai b5):bF Gp:=match vo l m with
 |some g=>a6 g
 |none=>match Im G l m with
  |some g=>a6 g
  |none=>singleR l m
def Iy(c:g7 d)(m:yD b=yD d.bs)(h:Dc G d b=a6 f):JY d f:=by
 unfold Dc at h;cases e:vo d b with
 |some x=>rw[e]at h;cases h;exact Tl c e
 |none=>
  rw[e]at h;cases g:Im G d b with
  |some x=>rw[g]at h;cases h;exact(MU a c m).2 _ g
  |none=>rw[g]at h;exact RH h
def rfO(b:aw):ai Gp->D
 |[]=>zK 0 bj []
 |g::gs=>.bG b (g::gs).length 4
def rfB(m:ai b5):ai Gp->ai (aw×ai D)
 |[]=>[(1,m.map bool)]
 |g::gs=>[(1,m.map bool),(2,(g::gs).flatMap kg)]
def rfS(l:Lk)(m:ai b5)(gs:ai Gp)(i:aw):St:=lay 57 [(1,.aJ (yJ l)),(3,.aY 1 0 (yD l.bs) (yD l.bs)),(4,rfO 2 gs),(13,nat (yD l.bs)),(14,nat i)] (rfB m gs) []
def rfE(gs:ai Gp):St:=lay 57 [(4,rfO 2 gs)] (match gs with|[]=>[]|g::gs=>[(2,(g::gs).flatMap kg)]) []
def aiG(l:g7 d)(m:yD b=yD d.bs)(j:c<yD d.bs)(h:Dc G d b=bk)(gs:ai Gp):fI zZq G 0 (ae f79 0) (rfS d b gs c) (yu 0) (rfE gs):=by
 have e:=K9 a l m;have i:=(MU a l m).1;have cs:=K4 a l m;rw[<-mG m]at e i cs;unfold Dc at h;cases g:vo d b with
 |some x=>rw[g]at h;cases h
 |none=>
  rw[g]at h e;cases f:Im G d b with
  |some x=>rw[f]at h;cases h
  |none=>
   rw[f]at h i;have h:singleR d b=bk:=h;rw[h]at cs;cases gs<;>exact fI.br a (ro:=[]) (m:=60) [] (aB ..) [.eb 15 (ah j),.dW e,.dW i,.dW cs] zt
def rmS(l:Lk)(m:ai b5)(gs:ai Gp)(i:aw)(bs:ai aw)(k:aw):St:=lay 57 [(1,.aJ (yJ l)),(3,.aY 1 0 (yD l.bs) (yD l.bs)),(4,rfO 2 gs),(13,nat (yD l.bs)),(14,nat i),(45,nD bs),(46,nat (yD bs)),(47,nat k)] (rfB (ef m (bs.take k)) gs) []
def BT(m:ai b5)(bs:ai aw)(a:c<yD bs):ef m (bs.take (c+1))=(ef m (bs.take c)).set (yI bs c 0) bj:=by
 unfold ef;rw[aq6,apj a,aqK,apf,apj a];rfl
variable {p:ai Gp} {q:ai aw} {u:Gp}
def Uu(j:yD b=yD d.bs)(n:∀l∈q,l<yD d.bs)(o:yD q<=1000):aI zZq G 57 0 (.loop (ae f79 1)) (rmS d b (f::p) c q 0) (yu 2) (rfS d (ef b q) (f::p) c):=by
 refine aI.c (λk=>rmS d b (f::p) c q k) (yD q) (λk m=>?_) ?_
 ·have gs:=n _ (aA m 0)
  have h:(ef b (q.take k)).length=yD d.bs:=by rw[m5];exact j
  have i:yI q k 0<(ef b (q.take k)).length:=by rw[h];exact gs
  have e:=QT m;have g:af zZq G 0 (ae f79 1) (rmS d b (f::p) c q k) z3 (lay 57 [(1,.aJ (yJ d)),(3,.aY 1 0 (yD d.bs) (yD d.bs)),(4,rfO 2 (f::p)),(13,nat (yD d.bs)),(14,nat c),(45,nD q),(46,nat (yD q)),(47,nat (k+1))] [(1,aE ((ef b (q.take k)).map bool) (0+(zNq (yI q k 0)).toNat*1) [bool bj]),(2,(f::p).flatMap kg)] []):=
   af.r a [.eb 48 (ah m),zD (uh m),zD (um m),.eq 50 e,.er 52 (nat (yI q k 0)),zD (bR gs),zD (gX i),.eq 54 (bL (cI m za))]
  rw[a_ i,<-BT b q m]at g;exact g
 ·show af _ _ _ _ (rmS d b (f::p) c q (yD q)) _ _
  unfold rmS;rw[aqM];exact af.r a [.eb 48 (c9 (apc (yD q)))]
def afh(e:aa G)(g:yD b=yD d.bs)(l:∀m∈q,m<yD d.bs)(a:yD q<=1000):aI zZq G 57 0 (.loop (ae f79 1)) (lay 57 [(1,.aJ (yJ d)),(3,.aY 1 0 (yD d.bs) (yD d.bs)),(4,.bG 2 ((f::p).length+1) 4),(13,nat (yD d.bs)),(14,nat c),(45,nD q),(46,nat (yD q)),(47,nat 0)] [(1,b.map bool),(2,(f::p).flatMap kg++kg u)] []) (yu 2) (rfS d (ef b q) (f::(p++[u])) c):=by
 have h:=Uu e g (f:=f) (p:=p++[u]) (c:=c) l a;have k:(f::(p++[u])).length=(f::p).length+1:=zb
 have j:(f::(p++[u])).flatMap kg=(f::p).flatMap kg++kg u:=Ha (f::p) u;have i:rmS d b (f::(p++[u])) c q 0=lay 57 [(1,.aJ (yJ d)),(3,.aY 1 0 (yD d.bs) (yD d.bs)),(4,.bG 2 ((f::p).length+1) 4),(13,nat (yD d.bs)),(14,nat c),(45,nD q),(46,nat (yD q)),(47,nat 0)] [(1,b.map bool),(2,(f::p).flatMap kg++kg u)] []:=by
  rw[<-k,<-j];rfl
 rw[i]at h;exact h
def alC(a:aa G)(k:g7 d)(l:yD b=yD d.bs)(e:c<yD d.bs)(h:Dc G d b=a6 f)(gs:ai Gp)(o:yD gs<=1000):fI zZq G 0 (ae f79 0) (rfS d b gs c) z3 (rfS d (ef b f.bs) (gs++[f]) (c+1)):=by
 have t:=k.nb;have g:=K9 a k l;have i:=(MU a k l).1;have cs:=K4 a k l;rw[<-mG l]at g i cs;have s:=(Iy a k l h).1;have r:yD f.bs<=1000:=by have:=(Iy a k l h).2.2.1;omega
 have j:bJ .i64 (zNq c+1)=zNq (c+1):=cI e za
 have lt:=λ(g0 f:Gp) (gs:ai Gp)=>afh a l (f:=g0) (u:=f) (p:=gs) (c:=c) s r
 have n:=λ(g0:Gp) (gs:ai Gp)=>Uu a l (f:=g0) (p:=gs) (c:=c) s r
 unfold Dc at h;cases q:vo d b with
 |some x=>
  rw[q]at h g;cases h;cases gs with
  |nil=>exact fI.br a (ro:=[]) (m:=60) [] (aB ..) [.eb 15 (ah e),.dW g,.code (aI.wg [(2,3)] zt (n f [])),.eq 55 (bL j)] zt
  |cons y m=>
   have lq:=lt y f m;exact fI.br a (ro:=[]) (m:=60) [] (aB ..) [.eb 15 (ah e),.dW g,.er 42 (zK 1 bj (kg f)),zD (m_ (gs:=y::m) (g:=f) o rfl),.code lq,.eq 55 (bL j)] zt
 |none=>
  rw[q]at h g;cases p:Im G d b with
  |some x=>
   rw[p]at h i;cases h;cases gs with
   |nil=>exact fI.br a (ro:=[]) (m:=60) [] (aB ..) [.eb 15 (ah e),.dW g,.dW i,.code (aI.wg [(2,3)] zt (n f [])),.eq 55 (bL j)] zt
   |cons y m=>
    have lq:=lt y f m;exact fI.br a (ro:=[]) (m:=60) [] (aB ..) [.eb 15 (ah e),.dW g,.dW i,.er 42 (zK 1 bj (kg f)),zD (m_ (gs:=y::m) (g:=f) o rfl),.code lq,.eq 55 (bL j)] zt
  |none=>
   rw[p]at h i;have h:singleR d b=a6 f:=h;rw[h]at cs;cases gs with
   |nil=>exact fI.br a (ro:=[]) (m:=60) [] (aB ..) [.eb 15 (ah e),.dW g,.dW i,.dW cs,.code (aI.wg [(2,3)] zt (n f [])),.eq 55 (bL j)] zt
   |cons y m=>
    have lq:=lt y f m;exact fI.br a (ro:=[]) (m:=60) [] (aB ..) [.eb 15 (ah e),.dW g,.dW i,.dW cs,.er 42 (zK 1 bj (kg f)),zD (m_ (gs:=y::m) (g:=f) o rfl),.code lq,.eq 55 (bL j)] zt
noncomputable def H5(G:bn->Prop)(l:Lk):aw->ai b5->ai Gp->ai Gp
 |0,_,gs=>gs
 |n+1,m,gs=>match Dc G l m with
  |none=>gs
  |some g=>H5 G l n (ef m g.bs) (gs++[g])
def Uw(c:aa G){l:Lk}(b:g7 l):∀(n:aw)(m:ai b5)(gs:ai Gp),yD m=yD l.bs->(∀g∈gs,JY l g)->(∀g∈H5 G l n m gs,JY l g)/\(H5 G l n m gs).length<=yD gs+n
 |0,m,gs,_,h=>⟨h,apc _⟩
 |n+1,m,gs,hm,h=>by
  unfold H5;cases a:Dc G l m with
  |none=>exact⟨h,by simp only;omega⟩
  |some g=>
   have d:=Iy c b hm a;obtain⟨f,e⟩:=Uw c b n (ef m g.bs) (gs++[g]) (by rw[m5];exact hm) λx a=>by
    obtain a|a:=aps.1 a
    ·exact h x a
    ·rw[apg]at a;rw[a];exact d
   refine⟨f,?_⟩;simp only[j3,ey,fl]at e;simp only;omega
def afk(e:g7 d)(k:yD b=yD d.bs):aI zZq G 57 0 (.loop (ae f79 0)) (rfS d b [] 0) (yu 0) (rfE (H5 G d (yD d.bs) b [])):=by
 have t:=e.nb;generalize n:H5 G d (yD d.bs) b []=R;refine aI.MJ (ι:=ai b5×ai Gp×aw) (λx=>yD x.1=yD d.bs/\x.2.2<=yD d.bs/\yD x.2.1<=x.2.2/\H5 G d (yD d.bs-x.2.2) x.1 x.2.1=R) (λx=>rfS d x.1 x.2.1 x.2.2) (λx=>yD d.bs-x.2.2) (λs=>aB ..) zx (λx h=>?_) (b,[],0) ⟨k,apJ _,apc _,n⟩
 obtain⟨j,gs,i⟩:=x;obtain⟨l,p,o,m⟩:=h;simp only at l p o m⊢;obtain c|c:=apy i (yD d.bs)
 ·have q:yD d.bs-i=(yD d.bs-(i+1))+1:=za
  rw[q]at m;unfold H5 at m;cases f:Dc G d j with
  |none=>
   rw[f]at m;rw[<-m];exact z2 (aiG a e l c f gs)
  |some g=>
   rw[f]at m;exact z1 ⟨(ef j g.bs,gs++[g],i+1),⟨by rw[m5];exact l,c,by simp only[j3,ey,fl];omega,m⟩,by simp only;omega,alC a e l c f gs za⟩
 ·have r:yD d.bs-i=0:=za
  obtain rfl:i=yD d.bs:=za
  rw[r]at m;unfold H5 at m;rw[<-m];refine z2 ?_;cases gs<;>exact fI.br a (ro:=[]) (m:=60) [] (aB ..) [.eb 15 (c9 (apc (yD d.bs)))] zt
def Uv(c:aa G){l:Lk}(a:g7 l):∃gs:ai Gp,Spec zZq G 79 [lM l] (aQ kg gs)/\(∀g∈gs,JY l g)/\gs.length<=l.bs.length:=by
 have o:=a.nb;have p:=a.b0;have hm:(mi l.bs.length 0).length=l.bs.length:=by unfold mi;rw[apY,aqb]
 obtain⟨k1,k2⟩:=Uw c a l.bs.length (mi l.bs.length 0) [] hm (λg j=>by cases j)
 have b:=afk c a hm;have i:=qU (b:=l.bs.length) za
 have h:=QZ a.b0;have f:=OL (i:=bool aj) a.b0;refine⟨H5 G l l.bs.length (mi l.bs.length 0) [],?_,k1,by simpa using k2⟩
 generalize H5 G l l.bs.length (mi l.bs.length 0) []=gs at b;have m:(mi l.bs.length 0).map bool=PX l.bs.length:=(G4 a.b0).symm;have k:rfS l (mi l.bs.length 0) [] 0=lay 57 [(1,.aJ (yJ l)),(3,.aY 1 0 l.bs.length l.bs.length),(4,.row 0 bj []),(13,nat l.bs.length),(14,nat 0)] [(1,PX l.bs.length)] []:=by
  rw[<-m];rfl
 rw[k]at b;cases gs with
 |nil=>exact Spec.r c func79 [1] [.inl [2] func142,.er 8 (nat l.bs.length),.prop i,.er 11 (nat 0),.prop h,.prop f,.code (aI.wg [(1,0)] zt b)]
 |cons y e=>
  have key:Spec zZq G 79 [lM l] (.row (y::e).length aj (((y::e).flatMap kg).take ((y::e).length*4))):=Spec.r c func79 [1] [.inl [2] func142,.er 8 (nat l.bs.length),.prop i,.er 11 (nat 0),.prop h,.prop f,.code (aI.wg [(1,0)] zt b)]
  rw[apA (by rw[QV];exact apc _)]at key
  exact key
def ai2{l:Lk}{b:aw}(c:yD l.bs<=1000000)(d:b<yD l.bs):Br zZq G 142 [lM l,nat b] (yD l.bs) (aE (cd (yD l.bs) (bool aj)) (0+(zNq b).toNat*1) [bool bj]):=by
 have f:=qU c;have a1:(0:cA)<=zNq b/\zNq b<(((zNq (yD l.bs)).toNat:aw):cA):=bR d;have s1:0+(zNq b).toNat*1+1<=(cd (zNq (yD l.bs)).toNat (bool aj)).length:=by have j:(zNq (yD l.bs)).toNat=yD l.bs:=rfl;have h:(zNq b).toNat=b:=rfl;rw[aqb,j,h];omega
 exact Br.br a func142 (k:=(Tryz.f142.body).getD .skip) rfl (t:=4) (ro:=[2]) (m:=60) (e:=.ret) (b:=0) (arE rfl) rfl [.er 8 (nat (yD l.bs)),zD f,.er 11 (nat b),zD a1,zD s1] zc (z2 rfl)
def rsS(n nj:aw)(K U:ai b5)(gs:ai Gp)(i:aw):St:=lay 82 [(2,zK 0 bj []),(3,zK 0 bj []),(4,.aY 1 0 n n),(5,.aY 2 0 nj nj),(23,aQ kg gs),(24,nat (yD gs)),(25,nat i)] [(1,K.map bool),(2,U.map bool)] []
def rsG(n nj:aw)(K U:ai b5)(gs:ai Gp)(i:aw)(g:Gp):St:=lay 82 [(2,zK 0 bj []),(3,zK 0 bj []),(4,.aY 1 0 n n),(5,.aY 2 0 nj nj),(7,z0 3 0),(23,aQ kg gs),(24,nat (yD gs)),(25,nat i)] [(1,K.map bool),(2,U.map bool),(3,kg g)] []
def rsK(n nj:aw)(K U:ai b5)(gs:ai Gp)(i:aw)(g:Gp)(k:aw):St:=lay 82 [(2,zK 0 bj []),(3,zK 0 bj []),(4,.aY 1 0 n n),(5,.aY 2 0 nj nj),(7,z0 3 0),(23,aQ kg gs),(24,nat (yD gs)),(25,nat i),(30,nD g.bs),(31,nat (yD g.bs)),(32,nat k)] [(1,(ef K (g.bs.take k)).map bool),(2,U.map bool),(3,kg g)] []
def rsU(n nj:aw)(K U:ai b5)(gs:ai Gp)(i:aw)(g:Gp)(k:aw):St:=lay 82 [(2,zK 0 bj []),(3,zK 0 bj []),(4,.aY 1 0 n n),(5,.aY 2 0 nj nj),(7,z0 3 0),(23,aQ kg gs),(24,nat (yD gs)),(25,nat i),(41,nD g.js),(42,nat (yD g.js)),(43,nat k)] [(1,K.map bool),(2,(ef U (g.js.take k)).map bool),(3,kg g)] []
section
variable {l:Lk} {K U:ai b5} {gs:ai Gp} {i:aw} {g:Gp}
def afi(j:yD K=yD l.bs)(m:∀b∈g.bs,b<yD l.bs)(n:yD g.bs<=1000):aI zZq G 82 0 (.loop (ae f78 1)) (rsK (yD l.bs) (yD l.js) K U gs i g 0) (yu 2) (rsG (yD l.bs) (yD l.js) (ef K g.bs) U gs i g):=by
 refine aI.c (λk=>rsK (yD l.bs) (yD l.js) K U gs i g k) (yD g.bs) (λk c=>?_) ?_
 ·have f:=m _ (aA c 0)
  have h:(ef K (g.bs.take k)).length=yD l.bs:=by rw[m5];exact j
  have d:yI g.bs k 0<(ef K (g.bs.take k)).length:=by rw[h];exact f
  have e:=QT c;have g:af zZq G 0 (ae f78 1) (rsK (yD l.bs) (yD l.js) K U gs i g k) z3 (lay 82 [(2,zK 0 bj []),(3,zK 0 bj []),(4,.aY 1 0 (yD l.bs) (yD l.bs)),(5,.aY 2 0 (yD l.js) (yD l.js)),(7,z0 3 0),(23,aQ kg gs),(24,nat (yD gs)),(25,nat i),(30,nD g.bs),(31,nat (yD g.bs)),(32,nat (k+1))] [(1,aE ((ef K (g.bs.take k)).map bool) (0+(zNq (yI g.bs k 0)).toNat*1) [bool bj]),(2,U.map bool),(3,kg g)] []):=
   af.r a [.eb 33 (ah c),zD (uh c),zD (um c),.eq 35 e,.er 37 (nat (yI g.bs k 0)),zD (bR f),zD (gX d),.eq 39 (bL (cI c za))]
  rw[a_ d,<-BT]at g
  ·exact g
  ·exact c
 ·show af _ _ _ _ (rsK (yD l.bs) (yD l.js) K U gs i g (yD g.bs)) _ _
  unfold rsK;rw[aqM];exact af.r a [.eb 33 (c9 (apc (yD g.bs)))]
def afa(j:yD U=yD l.js)(m:∀b∈g.js,b<yD l.js)(n:yD g.js<=1000):aI zZq G 82 0 (.loop (ae f78 2)) (rsU (yD l.bs) (yD l.js) K U gs i g 0) (yu 4) (rsS (yD l.bs) (yD l.js) K (ef U g.js) gs i):=by
 refine aI.c (λk=>rsU (yD l.bs) (yD l.js) K U gs i g k) (yD g.js) (λk c=>?_) ?_
 ·have f:=m _ (aA c 0)
  have h:(ef U (g.js.take k)).length=yD l.js:=by rw[m5];exact j
  have d:yI g.js k 0<(ef U (g.js.take k)).length:=by rw[h];exact f
  have e:=QT c;have g:af zZq G 0 (ae f78 2) (rsU (yD l.bs) (yD l.js) K U gs i g k) z3 (lay 82 [(2,zK 0 bj []),(3,zK 0 bj []),(4,.aY 1 0 (yD l.bs) (yD l.bs)),(5,.aY 2 0 (yD l.js) (yD l.js)),(7,z0 3 0),(23,aQ kg gs),(24,nat (yD gs)),(25,nat i),(41,nD g.js),(42,nat (yD g.js)),(43,nat (k+1))] [(1,K.map bool),(2,aE ((ef U (g.js.take k)).map bool) (0+(zNq (yI g.js k 0)).toNat*1) [bool bj]),(3,kg g)] []):=
   af.r a [.eb 44 (ah c),zD (uh c),zD (um c),.eq 46 e,.er 48 (nat (yI g.js k 0)),zD (bR f),zD (gX d),.eq 50 (bL (cI c za))]
  rw[a_ d,<-BT]at g
  ·exact g
  ·exact c
 ·show af _ _ _ _ (rsU (yD l.bs) (yD l.js) K U gs i g (yD g.js)) _ _
  unfold rsU;rw[aqM];exact af.r a [.eb 44 (c9 (apc (yD g.js)))]
def JA(g:Gp):(kg g).length=4:=rfl
def Z6(b:aa G)(a:i<yD gs)(p:yD gs<=1000)(m:yD K=yD l.bs)(k:yD U=yD l.js)(j:JY l (yI gs i bc)):af zZq G 0 (ae f78 0) (rsS (yD l.bs) (yD l.js) K U gs i) z3 (rsS (yD l.bs) (yD l.js) (ef K (yI gs i bc).bs) (ef U (yI gs i bc).js) gs (i+1)):=by
 have d:=cE JA za a
 have c:=aq JA za a
 have e:=fO JA a bc;obtain⟨o,n,r,q⟩:=j;generalize yI gs i bc=g at*;have h:=afi b (l:=l) (K:=K) (U:=U) (gs:=gs) (i:=i) (g:=g) m o za
 have f:=afa b (l:=l) (K:=ef K g.bs) (U:=U) (gs:=gs) (i:=i) (g:=g) k n za
 exact af.r b [.eb 26 (ah a),zD d,zD c,.eq 28 e,.code h,.code f,.eq 51 (bL (cI a za))]
def Nk(gs:ai Gp)(K:ai b5)(i:aw):ai b5:=(gs.take i).foldl (λK g=>ef K g.bs) K
def Mr(gs:ai Gp)(U:ai b5)(i:aw):ai b5:=(gs.take i).foldl (λU g=>ef U g.js) U
variable {o:Type}
def Q4(f:o->Gp->o)(x:o){gs:ai Gp}{i:aw}(a:i<yD gs):(gs.take (i+1)).foldl f x=f ((gs.take i).foldl f x) (yI gs i bc):=by rw[aq6,apj a,aqK,apf,apj a];rfl
def PY:∀(gs:ai Gp)(K:ai b5)(i:aw),(Nk gs K i).length=yD K:=λgs K i=>by
 unfold Nk;have:∀(gs:ai Gp)(K:ai b5),(gs.foldl (λK g=>ef K g.bs) K).length=yD K:=λgs=>by
  induction gs with
  |nil=>intro K;rfl
  |cons g gs a=>intro K;rw[lr,a,m5]
 exact this _ _
def OB:∀(gs:ai Gp)(U:ai b5)(i:aw),(Mr gs U i).length=yD U:=λgs U i=>by
 unfold Mr;have:∀(gs:ai Gp)(U:ai b5),(gs.foldl (λU g=>ef U g.js) U).length=yD U:=λgs=>by
  induction gs with
  |nil=>intro U;rfl
  |cons g gs a=>intro U;rw[lr,a,m5]
 exact this _ _
def rsF(n nj:aw)(K U:ai b5):St:=lay 82 [(2,zK 0 bj []),(3,zK 0 bj []),(4,.aY 1 0 n n),(5,.aY 2 0 nj nj)] [(1,K.map bool),(2,U.map bool)] []
def afb(b:aa G)(c:yD gs<=1000)(f:yD K=yD l.bs)(e:yD U=yD l.js)(d:∀g∈gs,JY l g):aI zZq G 82 0 (.loop (ae f78 0)) (rsS (yD l.bs) (yD l.js) K U gs 0) (yu 0) (rsF (yD l.bs) (yD l.js) (Nk gs K (yD gs)) (Mr gs U (yD gs))):=by
 have key:=aI.z zZq G (ae f78 0) (yu 0) (rsF (yD l.bs) (yD l.js) (Nk gs K (yD gs)) (Mr gs U (yD gs))) (λi=>rsS (yD l.bs) (yD l.js) (Nk gs K i) (Mr gs U i) gs i) (yD gs) (λi a=>by
   have r:=Z6 b (l:=l) (K:=Nk gs K i) (U:=Mr gs U i) a c (by rw[PY];exact f) (by rw[OB];exact e) (d _ (aA a bc))
   have j:Nk gs K (i+1)=ef (Nk gs K i) (yI gs i bc).bs:=Q4 (λK g=>ef K g.bs) K a
   have h:Mr gs U (i+1)=ef (Mr gs U i) (yI gs i bc).js:=Q4 (λU g=>ef U g.js) U a
   rw[<-j,<-h]at r;exact r)
  (af.r b [.eb 26 (c9 (apc (yD gs)))])
 exact key
end
def ze(K:ai b5)(i:aw):ai aw:=(ch i).filter λj=>!K.getD j aj
def Lt(K:ai b5)(i:aw):ze K (i+1)=if yI K i aj=bj then ze K i else ze K i++[i]:=by
 unfold ze;rw[aq1,List.filter_append];simp only[vk,List.filter_nil];cases yI K i aj<;>simp
def Dg(K:ai b5)(i:aw):(ze K i).length<=i:=by have:=List.length_filter_le (λj=>!K.getD j aj) (ch i);rw[aqL]at this;exact this
def riO(b:aw):ai aw->D
 |[]=>zK 0 bj []
 |x::xs=>.bG b (x::xs).length 1
def riB(b:aw):ai aw->ai (aw×ai D)
 |[]=>[]
 |x::xs=>[(b,(x::xs).map nat)]
def rbS(nj:aw)(K U:ai b5)(b:ai aw)(i:aw):St:=lay 82 [(2,riO 3 b),(3,zK 0 bj []),(5,.aY 2 0 nj nj),(52,.aY 1 0 (yD K) (yD K)),(53,nat (yD K)),(54,nat i)] ([(1,K.map bool),(2,U.map bool)]++riB 3 b) []
def rbE(nj:aw)(U:ai b5)(b:ai aw):St:=lay 82 [(2,riO 3 b),(3,zK 0 bj []),(5,.aY 2 0 nj nj)] ((2,U.map bool)::riB 3 b) []
def adH{m:ai b5}{i:aw}(h:i<yD m):((m.map bool).drop (0+(zNq i).toNat*1)).headD .any=bool (yI m i aj):=by rw[aqa];exact jd h
def w7{m:ai b5}{i:aw}(h:i<yD m):0<1/\0+(zNq i).toNat*1+1<=(m.map bool).length:=by have e:(zNq i).toNat=i:=rfl;rw[apq,e];omega
def La{b:ai aw}{x:aw}(h:yD b<=1000000):([nat x]:ai D).all D.bV=bj/\0<1/\(b.map nat).length=yD b*1/\([nat x]:ai D).length=1*1/\yD b+1<=2^62/\(yD b+1)*8<=2^47:=by refine⟨rfl,by omega,by simp,rfl,by omega,by omega⟩
def aaj{nj:aw}{K U:ai b5}{b:ai aw}{i:aw}(f:i<yD K)(k:yD K<=1000000)(j:yD b<=1000000):af zZq G 0 (ae f78 3) (rbS nj K U b i) z3 (rbS nj K U (if yI K i aj=bj then b else b++[i]) (i+1)):=by
 have e:=adH f;have d:bJ .i64 (zNq i+1)=zNq (i+1):=cI f za
 cases h:yI K i aj<;>rw[h]at e
 ·rw[ape zb]
  cases b with
  |nil=>exact af.r a [.eb 55 (ah f),zD (bR f),zD (w7 f),.eq 58 e,.eq 65 (bL d)]
  |cons y c=>
  have g:af zZq G 0 (ae f78 3) (rbS nj K U (y::c) i) z3 (lay 82 [(2,.bG 3 ((y::c).length+1) 1),(3,zK 0 bj []),(5,.aY 2 0 nj nj),(52,.aY 1 0 (yD K) (yD K)),(53,nat (yD K)),(54,nat (i+1))] [(1,K.map bool),(2,U.map bool),(3,(y::c).map nat++[nat i])] []):=
   af.r a [.eb 55 (ah f),zD (bR f),zD (w7 f),.eq 58 e,.er 63 (zK 1 bj [nat i]),zD (La (b:=y::c) (x:=i) j),.eq 65 (bL d)]
  rw[show(y::c).length+1=(y::c++[i]).length from by simp,show(y::c).map nat++[nat i]=(y::c++[i]).map nat from by simp]at g
  exact g
 ·rw[aph rfl]
  cases b<;>exact af.r a [.eb 55 (ah f),zD (bR f),zD (w7 f),.eq 58 e,.eq 65 (bL d)]
def afo{nj:aw}{K U:ai b5}(c:yD K<=1000000):aI zZq G 82 0 (.loop (ae f78 3)) (rbS nj K U [] 0) (yu 6) (rbE nj U (ze K (yD K))):=by
 refine aI.z zZq G (ae f78 3) (yu 6) (rbE nj U (ze K (yD K))) (λi=>rbS nj K U (ze K i) i) (yD K) (λi d=>?_) ?_
 ·have:=Dg K i
  rw[Lt];exact aaj a d c za
 ·generalize ze K (yD K)=b
  cases b<;>exact af.r a [.eb 55 (c9 (apc (yD K)))]
def riN:ai aw->aw
 |[]=>3
 |_::_=>4
def RY(U:ai b5)(b c:ai aw)(i:aw):St:=lay 82 [(2,riO 3 b),(3,riO (riN b) c),(66,.aY 2 0 (yD U) (yD U)),(67,nat (yD U)),(68,nat i)] ((2,U.map bool)::(riB 3 b++riB (riN b) c)) []
def alB(b c:ai aw):St:=lay 82 [(2,riO 3 b),(3,riO (riN b) c)] (riB 3 b++riB (riN b) c) []
def aaa{U:ai b5}{b c:ai aw}{i:aw}(h:i<yD U)(m:yD U<=1000000)(k:yD c<=1000000):af zZq G 0 (ae f78 4) (RY U b c i) z3 (RY U b (if yI U i aj=bj then c else c++[i]) (i+1)):=by
 have e:=adH h;have f:bJ .i64 (zNq i+1)=zNq (i+1):=cI h za
 cases j:yI U i aj<;>rw[j]at e
 ·rw[ape zb]
  cases c with
  |nil=>cases b<;>exact af.r a [.eb 69 (ah h),zD (bR h),zD (w7 h),.eq 72 e,.eq 79 (bL f)]
  |cons z d=>
   have g:af zZq G 0 (ae f78 4) (RY U b (z::d) i) z3 (lay 82 [(2,riO 3 b),(3,.bG (riN b) ((z::d).length+1) 1),(66,.aY 2 0 (yD U) (yD U)),(67,nat (yD U)),(68,nat (i+1))] ((2,U.map bool)::(riB 3 b++[(riN b,(z::d).map nat++[nat i])])) []):=by
    cases b<;>exact af.r a [.eb 69 (ah h),zD (bR h),zD (w7 h),.eq 72 e,.er 77 (zK 1 bj [nat i]),zD (La (b:=z::d) (x:=i) k),.eq 79 (bL f)]
   rw[show(z::d).length+1=(z::d++[i]).length from by simp,show(z::d).map nat++[nat i]=(z::d++[i]).map nat from by simp]at g
   exact g
 ·rw[aph rfl]
  cases b<;>cases c<;>exact af.r a [.eb 69 (ah h),zD (bR h),zD (w7 h),.eq 72 e,.eq 79 (bL f)]
def afj{U:ai b5}{b:ai aw}(d:yD U<=1000000):aI zZq G 82 0 (.loop (ae f78 4)) (RY U b [] 0) (yu 8) (alB b (ze U (yD U))):=by
 refine aI.z zZq G (ae f78 4) (yu 8) (alB b (ze U (yD U))) (λi=>RY U b (ze U i) i) (yD U) (λi e=>?_) ?_
 ·have:=Dg U i
  rw[Lt];exact aaa a e d za
 ·generalize ze U (yD U)=c
  cases b<;>cases c<;>exact af.r a [.eb 69 (c9 (apc (yD U)))]
def aht:ai aw->D
 |[]=>nD []
 |y::a=>zK (y::a).length aj (((y::a).map nat).take ((y::a).length*1))
def PB(b:ai aw):aht b=nD b:=by
 cases b with
 |nil=>rfl
 |cons y a=>simp only[aht];rw[apA (by rw[apq];omega)];rfl
def aiH(d:aa G){l:Lk}(a:g7 l):∃b c:ai aw,Spec zZq G 78 [lM l] (.aP [nD b,nD c])/\yD b<=100/\yD c<=1000000:=by
 have t:=a.nb;have nj:=a.nj;have s:=a.b0;obtain⟨gs,f,m,x⟩:=Uv d a;have hm:(mi (yD l.bs) 0).length=yD l.bs:=by unfold mi;rw[apY,aqb]
 have r:=ai2 d (l:=l) (b:=0) za s
 have k:=qU a.nj;have h:=afb d (l:=l) (K:=mi (yD l.bs) 0) (U:=cd (yD l.js) aj) (gs:=gs) za hm zb m
 have j:=PY gs (mi (yD l.bs) 0) (yD gs);have ul:=OB gs (cd (yD l.js) aj) (yD gs);rw[hm]at j;rw[aqb]at ul;generalize Nk gs (mi (yD l.bs) 0) (yD gs)=K at h j;generalize Mr gs (cd (yD l.js) aj) (yD gs)=U at h ul;have lq:=afo d (nj:=yD l.js) (K:=K) (U:=U) za
 have e:=λb=>afj d (U:=U) (b:=b) za
 have q:(mi (yD l.bs) 0).map bool=PX (yD l.bs):=(G4 a.b0).symm;have p:rsS (yD l.bs) (yD l.js) (mi (yD l.bs) 0) (cd (yD l.js) aj) gs 0=lay 82 [(2,zK 0 bj []),(3,zK 0 bj []),(4,.aY 1 0 (yD l.bs) (yD l.bs)),(5,.aY 2 0 (yD l.js) (yD l.js)),(23,aQ kg gs),(24,nat (yD gs)),(25,nat 0)] [(1,PX (yD l.bs)),(2,cd (yD l.js) (bool aj))] []:=by
  unfold rsS;rw[q,asc]
 rw[p]at h;have v:=Dg K (yD K);have u:=Dg U (yD U);refine⟨ze K (yD K),ze U (yD U),?_,by omega,by omega⟩
 have o:rbS (yD l.js) K U [] 0=lay 82 [(2,zK 0 bj []),(3,zK 0 bj []),(5,.aY 2 0 (yD l.js) (yD l.js)),(52,.aY 1 0 (yD l.bs) (yD l.bs)),(53,nat (yD l.bs)),(54,nat 0)] [(1,K.map bool),(2,U.map bool)] []:=by
  unfold rbS;rw[j];rfl
 rw[o]at lq;generalize ze K (yD K)=b at lq;generalize w:ze U (yD U)=c at e;have e:=e b;have n:RY U b [] 0=lay 82 [(2,riO 3 b),(3,zK 0 bj []),(66,.aY 2 0 (yD l.js) (yD l.js)),(67,nat (yD l.js)),(68,nat 0)] ((2,U.map bool)::(riB 3 b++[])) []:=by
  unfold RY;rw[ul];rfl
 rw[n,aqs]at e;rw[<-PB b,<-PB c];cases b<;>cases c<;>exact Spec.r d func78 [1] [.VD r,.er 20 (nat (yD l.js)),zD k,zC f,.code (aI.wg [(2,1),(1,0)] zt h),.code lq,.code e]
def Z5{l:Lk}(k:g7 l):∃(gs:ai Gp)(e:aw),Spec zZq G 32 [lM l] (.aP [aQ kg gs,nat e])/\yD gs<=yD l.bs/\(e=0\/e=7):=by obtain⟨b,c,h,p,o⟩:=aiH a k;obtain⟨gs,f,-,n⟩:=Uv a k;have m:=bL (Hk (c:=yD b) (l:=yD c) za);by_cases j:0<yD b+yD c;exact⟨[],7,Spec.r a func32 [1] [zC h,.eq 15 m,.eb 16 (uC j)],apJ _,z2 rfl⟩;exact⟨gs,0,Spec.r a func32 [1] [zC h,.eq 15 m,.eb 16 (fu j),zC f],n,z1 rfl⟩
def siS(l:pB)(xs:ai zZ)(i k:aw):St:=lay 121 [(1,aQ oU xs),(2,.aJ (uI l)),(5,nat i),(6,nat k)] []
def soS(l:pB)(xs:ai zZ)(i:aw):St:=lay 121 [(1,aQ oU xs),(2,.aJ (uI l)),(5,nat i)] []
def stS(l:pB)(xs:ai zZ)(i:aw):St:=lay 121 [(1,aQ oU xs),(2,.aJ (uI l)),(7,nat i)] []
def smR:St:=lay 121 [(4,bool aj)] []
def smF(l:pB)(xs:ai zZ):St:=lay 121 [(1,aQ oU xs),(2,.aJ (uI l))] []
def w9(r:Raw):Prop:=yD r.n+yD r.d<=1000000000000
section
variable {l:pB} {xs:ai zZ} {i k:aw}
def spE(b:xd)(k:aw):aw:=if(mo (yI b.aC k bc).x||mo (yI b.aC k bc).y)=bj then 1 else 0
def RJ(f:i<yD l.bs)(g:k<(yI l.bs i bc).aC.length)(r:(yI l.bs i bc).aC.length<=8)(w:w9 ((yI l.bs i bc).aC.getD k bc).x/\w9 ((yI l.bs i bc).aC.getD k bc).y):
  (spE (yI l.bs i bc) k=0->af zZq G 0 (ae f8 1) (siS l xs i k) z3 (siS l xs i (k+1)))/\(spE (yI l.bs i bc) k≠0->af zZq G 0 (ae f8 1) (siS l xs i k) .ret smR):=by
 have c:=ama a w.1 w.2;have a1:=Bn f;have d:=bA a8 f 1 za
 have b:=j5 a8 f bc 1 za
 unfold spE;generalize yI l.bs i bc=B at*;have e:=cE bb za g
 have n:0<3/\3<=(((B.aC.flatMap qp).drop ((zNq k).toNat*7)).drop 1).length:=by
  have:=(aq bb za g).2
  rw[apu];omega
 have m:0<3/\3<=(((B.aC.flatMap qp).drop ((zNq k).toNat*7)).drop 4).length:=by
  have:=(aq bb za g).2
  rw[apu];omega
 have j:=fO bb g bc;simp only[D.agg.injEq]at j;have q:D.agg ((((B.aC.flatMap qp).drop ((zNq k).toNat*7)).drop 1).take 3)=z4 (qO (yI B.aC k bc).x):=by
  have:(((B.aC.flatMap qp).drop ((zNq k).toNat*7)).drop 1).take 3=((((B.aC.flatMap qp).drop ((zNq k).toNat*7)).take 7).drop 1).take 3:=by
   rw[arY,arl];rfl
  rw[this,j];rfl
 have p:D.agg ((((B.aC.flatMap qp).drop ((zNq k).toNat*7)).drop 4).take 3)=z4 (qO (yI B.aC k bc).y):=by
  have:(((B.aC.flatMap qp).drop ((zNq k).toNat*7)).drop 4).take 3=((((B.aC.flatMap qp).drop ((zNq k).toNat*7)).take 7).drop 4).take 3:=by
   rw[arY,arl];rfl
  rw[this,j];rfl
 cases o:(mo (yI B.aC k bc).x||mo (yI B.aC k bc).y)with
 |false=>
  rw[o]at c;refine⟨λ_=>?_,λh=>api (ape zb) h⟩
  exact af.r a [.er 49 (nat i),zD a1,zD d,.eq 52 b,.eb 54 (ah g),.er 59 (nat i),zD a1,zD d,.eq 62 b,.er 63 (nat k),zD e,zD n,.eq 66 q,.er 69 (nat i),zD a1,zD d,.eq 72 b,.er 73 (nat k),zD e,zD m,.eq 76 p,zC c,.eq 56 (bL (cI g za))]
 |true=>
  rw[o]at c;refine⟨λh=>api h zb,λ_=>?_⟩
  exact af.r a [.er 49 (nat i),zD a1,zD d,.eq 52 b,.eb 54 (ah g),.er 59 (nat i),zD a1,zD d,.eq 62 b,.er 63 (nat k),zD e,zD n,.eq 66 q,.er 69 (nat i),zD a1,zD d,.eq 72 b,.er 73 (nat k),zD e,zD m,.eq 76 p,zC c]
def aiq(b:i<yD l.bs):af zZq G 0 (ae f8 1) (siS l xs i (yI l.bs i bc).aC.length) (yu 2) (soS l xs i):=by
 have a1:=Bn b;have d:=bA a8 b 1 za
 have c:=j5 a8 b bc 1 za
 generalize yI l.bs i bc=B at*;exact af.r a [.er 49 (nat i),zD a1,zD d,.eq 52 c,.eb 54 (c9 (apc (yD B.aC)))]
def sbE(l:pB)(i:aw):aw:=jY (spE (yI l.bs i bc)) (yI l.bs i bc).aC.length
def RF(b:i<yD l.bs)(r:yD l.bs<=1000)(n:(yI l.bs i bc).aC.length<=8)(w:∀m∈(yI l.bs i bc).aC,w9 m.x/\w9 m.y):
  (sbE l i=0->af zZq G 0 (ae f8 0) (soS l xs i) z3 (soS l xs (i+1)))/\(sbE l i≠0->af zZq G 0 (ae f8 0) (soS l xs i) .ret smR):=by
 unfold sbE;have f:∀k,k<(yI l.bs i bc).aC.length->w9 ((yI l.bs i bc).aC.getD k bc).x/\w9 ((yI l.bs i bc).aC.getD k bc).y:=λk c=>w _ (aA c bc)
 rcases dg (spE (yI l.bs i bc)) (yI l.bs i bc).aC.length with⟨e,d⟩|⟨k,e,d,q,p⟩
 ·have g:=aI.z zZq G (ae f8 1) (yu 2) (soS l xs i) (λk=>siS l xs i k) (yI l.bs i bc).aC.length (λk c=>(RJ a b c n (f k c)).1 (d k c)) (aiq a b)
  refine⟨λ_=>?_,λh=>api e h⟩
  exact af.r a [.eb 43 (ah b),.code g,.eq 45 (bL (cI b za))]
 ·have g:=aI.z zZq G (ae f8 1) .ret smR (λk=>siS l xs i k) k (λj o=>(RJ a b za n (f j za)).1 (p j o)) ((RJ a b e n (f k e)).2 d)
  refine⟨λh=>api (q.symm.trans h) d,λ_=>?_⟩
  exact af.r a [.eb 43 (ah b),.code g]
def aip:af zZq G 0 (ae f8 0) (soS l xs (yD l.bs)) (yu 0) (smF l xs):=
 af.r a [.eb 43 (c9 (apc (yD l.bs)))]
def stE(xs:ai zZ)(i:aw):aw:=if YU (yI xs i bc)=0/\mo (yI xs i bc).t=aj then 0 else 1
def aez(x:zZ):YU x=0\/YU x=2:=by unfold YU;split;exact z2 rfl;split;exact z2 rfl;exact z1 rfl
def RE(d:i<yD xs)(q:yD xs<=1000)(ok:(yI xs i bc).Ok)(w:w9 (yI xs i bc).t):
  (stE xs i=0->af zZq G 0 (ae f8 2) (stS l xs i) z3 (stS l xs (i+1)))/\(stE xs i≠0->af zZq G 0 (ae f8 2) (stS l xs i) .ret smR):=by
 have ck:=Yi a ok;have c:=ahw a w;have b:=cE uH za d
 have g:=aq uH za d
 have j:0<3/\3<=(((xs.flatMap oU).drop ((zNq i).toNat*4)).drop 0).length:=by
  have:=(aq uH za d).2
  rw[apu];omega
 have e:=fO uH d bc;have o:=e;simp only[D.agg.injEq]at o;have n:D.agg ((((xs.flatMap oU).drop ((zNq i).toNat*4)).drop 0).take 3)=z4 (qO (yI xs i bc).t):=by
  have:(((xs.flatMap oU).drop ((zNq i).toNat*4)).drop 0).take 3=(((xs.flatMap oU).drop ((zNq i).toNat*4)).take 4).take 3:=by
   rw[aqD,arl];rfl
  rw[this,o];rfl
 have p:bJ .i64 (zNq i+1)=zNq (i+1):=cI d za
 unfold stE;rcases aez (yI xs i bc)with f|f
 ·rw[f]at ck
  cases m:mo (yI xs i bc).t with
  |false=>
   rw[m]at c;refine⟨λ_=>?_,λh=>api (aph ⟨f,rfl⟩) h⟩
   exact af.r a [.eb 82 (ah d),.er 86 (nat i),zD b,zD g,.eq 88 e,zC ck,.er 93 (nat i),zD b,zD j,.eq 96 n,zC c,.eq 84 (bL p)]
  |true=>
   rw[m]at c;refine⟨λh=>api h zb,λ_=>?_⟩
   exact af.r a [.eb 82 (ah d),.er 86 (nat i),zD b,zD g,.eq 88 e,zC ck,.er 93 (nat i),zD b,zD j,.eq 96 n,zC c]
 ·rw[f]at ck
  refine⟨λh=>api h (by rw[f];simp),λ_=>?_⟩
  exact af.r a [.eb 82 (ah d),.er 86 (nat i),zD b,zD g,.eq 88 e,zC ck]
def ail:af zZq G 0 (ae f8 2) (stS l xs (yD xs)) (yu 4) (smF l xs):=
 af.r a [.eb 82 (c9 (apc (yD xs)))]
end
structure TM(l:pB)(xs:ai zZ):Prop where
 ck:PM l=0
 b6:l.bs.length<=6
 j8:l.js.length<=8
 d2:l.ds.length<=2
 len:xs.length=l.ds.length
 sh:Oi l
 tn:∀x∈xs,YU x=0/\mo x.t=aj
def neB{i j:aw}(h:i≠j):(zNq i !=zNq j)=bj:=by have:(zNq i==zNq j)=aj:=fh h;unfold bne;rw[this];rfl
def NJ{i j:aw}(h:i=j):(zNq i !=zNq j)=aj:=by subst h;simp
def aeW(a:aa G){l:pB}{xs:ai zZ}(ok:l.Ok)(C:∀x∈xs,x.Ok)(F:∀b∈l.bs,∀m∈b.aC,w9 m.x/\w9 m.y)(rx:∀x∈xs,w9 x.t):∃z,Spec zZq G 8 [Co l,aQ oU xs] (bool z)/\(z=bj->TM l xs):=by
 by_cases d:6<yD l.bs
 ·exact⟨aj,Spec.r a func8 [2] [.eb 13 (uC d)],λh=>by cases h⟩
 by_cases f:8<yD l.js
 ·exact⟨aj,Spec.r a func8 [2] [.eb 13 (fu d),.eb 18 (uC f)],λh=>by cases h⟩
 by_cases n:2<yD l.ds
 ·exact⟨aj,Spec.r a func8 [2] [.eb 13 (fu d),.eb 18 (fu f),.eb 24 (uC n)],λh=>by cases h⟩
 by_cases g:yD xs=yD l.ds
 case neg=>exact⟨aj,Spec.r a func8 [2] [.eb 13 (fu d),.eb 18 (fu f),.eb 24 (fu n),.eb 32 (neB g)],λh=>by cases h⟩
 have ck:=agB a ok;by_cases r:PM l=0
 case neg=>exact⟨aj,Spec.r a func8 [2] [.eb 13 (fu d),.eb 18 (fu f),.eb 24 (fu n),.eb 32 (NJ g),zC ck,.eb 37 (neB r)],λh=>by cases h⟩
 rw[r]at ck;have t:=wi r;have o:∀i<yD l.bs,(yI l.bs i bc).aC.length<=8/\∀m∈(yI l.bs i bc).aC,w9 m.x/\w9 m.y:=λi q=>⟨(t _ (aA q bc)).1,F _ (aA q bc)⟩
 rcases dg (sbE l) (yD l.bs) with⟨-,v⟩|⟨i,B,v,-,K⟩
 case inr=>
  have p:=aI.z zZq G (ae f8 0) .ret smR (λk=>soS l xs k) i (λj I=>(RF a za za (o j za).1 (o j za).2).1 (K j I)) ((RF a B za (o i B).1 (o i B).2).2 v)
  exact⟨aj,Spec.r a func8 [2] [.eb 13 (fu d),.eb 18 (fu f),.eb 24 (fu n),.eb 32 (NJ g),zC ck,.code p],λh=>by cases h⟩
 have p:=aI.z zZq G (ae f8 0) (yu 0) (smF l xs) (λk=>soS l xs k) (yD l.bs) (λk c=>(RF a c za (o k c).1 (o k c).2).1 (v k c)) (aip a)
 have A:Oi l:=by
  refine yi λi q=>yi λk c=>?_
  have:=jr (v i q) k c;unfold spE at this;split at this
  ·cases this
  ·rename_i H
   simpa using H
 rcases dg (stE xs) (yD xs) with⟨-,f2⟩|⟨i,f1,f2,-,f4⟩
 case inr=>
  have lq:=aI.z zZq G (ae f8 2) .ret smR (λk=>stS l xs k) i (λk c=>(RE a za za (C _ (aA za bc)) (rx _ (aA za bc))).1 (f4 k c)) ((RE a f1 za (C _ (aA f1 bc)) (rx _ (aA f1 bc))).2 f2)
  exact⟨aj,Spec.r a func8 [2] [.eb 13 (fu d),.eb 18 (fu f),.eb 24 (fu n),.eb 32 (NJ g),zC ck,.code p,.code lq],λh=>by cases h⟩
 have lq:=aI.z zZq G (ae f8 2) (yu 4) (smF l xs) (λk=>stS l xs k) (yD xs) (λk c=>(RE a c za (C _ (aA c bc)) (rx _ (aA c bc))).1 (f2 k c)) (ail a)
 have y:∀x∈xs,YU x=0/\mo x.t=aj:=by
  refine yi λi q=>?_
  have:=f2 i q;unfold stE at this;split at this
  ·assumption
  ·cases this
 have fin:TM l xs:=⟨r,by omega,by omega,by omega,g,A,y⟩
 obtain⟨gs,e,w,-,J⟩:=Z5 a (abF r);rw[<-SL r]at w;obtain rfl|rfl:=J
 case inr=>exact⟨bj,Spec.r a func8 [2] [.eb 13 (fu d),.eb 18 (fu f),.eb 24 (fu n),.eb 32 (NJ g),zC ck,.code p,.code lq,zC w],λ_=>fin⟩
 cases E:decide (bJ .i64 (zNq (yD gs)-zNq (yD l.ds))<=1)with
 |true=>exact⟨bj,Spec.r a func8 [2] [.eb 13 (fu d),.eb 18 (fu f),.eb 24 (fu n),.eb 32 (NJ g),zC ck,.code p,.code lq,zC w,.eb 114 E],λ_=>fin⟩
 |false=>
  obtain⟨z,lo⟩:=al9 a (l:=l) (xs:=xs) za za (λb s=>⟨(t b s).1,λm u=>⟨BE ((t b s).2 m u).1 (A b s m u).1,BE ((t b s).2 m u).2 (A b s m u).2⟩⟩) (λx D=>BE (yK (y x D).1).1 (y x D).2)
  exact⟨z,by cases z<;>exact Spec.r a func8 [2] [.eb 13 (fu d),.eb 18 (fu f),.eb 24 (fu n),.eb 32 (NJ g),zC ck,.code p,.code lq,zC w,.eb 114 E,zC lo],λ_=>fin⟩
structure Smd(G:bn->Prop)(l:Lk)(xs:ai Tn):Prop where
 S:Rl l xs
 ck:Spec zZq G 37 [lM l] (zT .nilIface)
 ht:∀x∈xs,TnC G x
variable {g:pB}
def TM.smd{xs:ai zZ}(ok:g.Ok)(k:∀x∈xs,x.Ok)(h:TM g xs):Smd G (jA g) (xs.map Em)/\Co g=lM (jA g)/\aQ oU xs=aQ Y9 (xs.map Em):=by
 have f:=SL h.ck;have j:aQ oU xs=aQ Y9 (xs.map Em):=yR λx e=>aih (h.tn x e).1
 have ck:=PF a ok h.ck;rw[f]at ck;have c:∀x∈xs.map Em,TnC G x/\iC 64 x.t/\(x.half=bj->x.t=0):=λx e=>by obtain⟨y,b,rfl⟩:=apN.1 e;exact ano a (k y b) (h.tn y b).1 (h.tn y b).2
 have i:(jA g).bs.length=yD g.bs:=apq ..;have l:(jA g).js.length=yD g.js:=apq ..;have d:(jA g).ds.length=yD g.ds:=apq ..;exact⟨⟨⟨abF h.ck,amb ok h.ck h.sh,by rw[i];exact h.b6,by rw[l];exact h.j8,by rw[d];exact h.d2,ahx h.ck,by rw[apq,d];exact h.len,λx e=>(c x e).2⟩,ck,λx e=>(c x e).1⟩,f,j⟩
def Smd.split{xs:ai Tn}(h:Smd G d xs):∃t:Fn,vR d (vU d) t/\qt d t/\Path d t.gs/\t=Gn d t.gs (yD t.gs)/\Spec zZq G 47 [lM d] (alc (aeR t)):=by
 obtain⟨t,l⟩:=vR.ex h.S.ok _ (vU d) (xY d) (apc _);obtain⟨P,e⟩:=l.path;have ok:qt d t:=by rw[e];exact yM d t.gs _ (apc _)
 exact⟨t,l,ok,P,e,Uj a h.S.ok h.ck l ok⟩
def auB(h:b.contains aj≠bj)(m:c<yD b):yI b c aj=bj:=by
 cases a:yI b c aj with
 |true=>rfl
 |false=>
  exfalso;refine h ?_;rw[apt,<-a];exact aA m aj
structure RPs where
 t:Raw
 half:b5
 x:Raw
 y:Raw
instance:ka RPs:=⟨⟨⟨aj,[],[]⟩,aj,⟨aj,[],[]⟩,⟨aj,[],[]⟩⟩⟩
def C'(p:RPs):ai D:=qO p.t++(bool p.half::(qO p.x++qO p.y))
def atb(p:RPs):(C' p).length=10:=rfl
structure RPs.Ok(p:RPs):Prop where
 t:∃k,p.t.ok k/\2*k<KB
 x:∃k,p.x.ok k/\2*k<KB
 y:∃k,p.y.ok k/\2*k<KB
structure RPs.Fin(p:RPs):Prop where
 t:w9 p.t
 x:w9 p.x
 y:w9 p.y
structure as7(p:RPs):Prop where
 tn:YU ⟨p.t,p.half⟩=0
 x:p.x.valid=bj
 y:p.y.valid=bj
 lt:p.t.n.length+p.t.d.length<=4
 lx:p.x.n.length+p.x.d.length<=4
 ly:p.y.n.length+p.y.d.length<=4
def atg(h:c<=4):decide (zNq c<=4)=bj:=apE (asB.2 h)
def aug(h:¬c<=4):decide (zNq c<=4)=aj:=apG λe=>h (asB.1 e)
def atr(a:aa G){p:RPs}(ok:p.Ok)(i:p.Fin):∃z,Spec zZq G 46 [z4 (C' p)] (bool z)/\(z=bj->as7 p):=by
 obtain⟨k1,t1,t2⟩:=ok.t;obtain⟨k2,q,s⟩:=ok.x;obtain⟨k3,o,r⟩:=ok.y;have ck:=Yi a (x:=⟨p.t,p.half⟩) ⟨k1,t1,t2⟩;have b:=lK a q za
 have c:=lK a o za
 have at':=bL (Hk i.t);have m:=bL (Hk i.x);have n:=bL (Hk i.y);by_cases l:YU ⟨p.t,p.half⟩=0
 case neg=>exact⟨aj,Spec.r a func46 [1] [zC ck,.eb 6 (fh (j:=0) l)],λh=>by cases h⟩
 rw[l]at ck;by_cases g:p.x.valid=bj
 case neg=>
  rw[nv]at g;rw[g]at b;exact⟨aj,Spec.r a func46 [1] [zC ck,zC b],λh=>by cases h⟩
 rw[g]at b;by_cases f:p.y.valid=bj
 case neg=>
  rw[nv]at f;rw[f]at c;exact⟨aj,Spec.r a func46 [1] [zC ck,zC b,zC c],λh=>by cases h⟩
 rw[f]at c;by_cases d:yD p.t.n+yD p.t.d<=4
 case neg=>exact⟨aj,Spec.r a func46 [1] [zC ck,zC b,zC c,.eq 30 at',.eb 31 (aug d)],λh=>by cases h⟩
 by_cases e:yD p.x.n+yD p.x.d<=4
 case neg=>exact⟨aj,Spec.r a func46 [1] [zC ck,zC b,zC c,.eq 30 at',.eb 31 (atg d),.eq 44 m,.eb 45 (aug e)],λh=>by cases h⟩
 by_cases k:yD p.y.n+yD p.y.d<=4
 case neg=>exact⟨aj,Spec.r a func46 [1] [zC ck,zC b,zC c,.eq 30 at',.eb 31 (atg d),.eq 44 m,.eb 45 (atg e),.eq 58 n,.eb 59 (aug k)],λh=>by cases h⟩
 exact⟨bj,Spec.r a func46 [1] [zC ck,zC b,zC c,.eq 30 at',.eb 31 (atg d),.eq 44 m,.eb 45 (atg e),.eq 58 n,.eb 59 (atg k)],λ_=>⟨l,g,f,d,e,k⟩⟩
end Tw
open Go Go.RowKit Go.Proofs
variable {P:cp} {Good:bn->Prop}
inductive Rm:D->D->Prop
 |refl (d:D):Rm d d
 |row (len:aw) (full:b5) (xs ys:ai D) (hl:xs.length=ys.length) (h:∀i(h:i<xs.length)(h':i<ys.length),Rm xs[i] ys[i]):Rm (zK len full xs) (zK len aj ys)
 |agg (xs ys:ai D) (hl:xs.length=ys.length) (h:∀i(h:i<xs.length)(h':i<ys.length),Rm xs[i] ys[i]):Rm (z4 xs) (z4 ys)
 |aP (xs ys:ai D) (hl:xs.length=ys.length) (h:∀i(h:i<xs.length)(h':i<ys.length),Rm xs[i] ys[i]):Rm (.aP xs) (.aP ys)
def b9.lo{w:bn}{X:aw->Prop}{v:b3}{d:D}(h:b9 w X v d):∀{d':D},Rm d d'->b9 w X v d':=by
 induction h with
 |any v=>intro d' h;cases h;exact .any v
 |lit v=>intro d' h;cases h;exact .lit v
 |row a len cap full us xs b hlen m o hm c g=>
  intro d' h;cases h with
  |refl=>exact .row a len cap full us xs b hlen m o hm c
  |row _ _ _ j e h=>exact .row a len cap aj us j (b.trans e) hlen m (λh=>by cases h) hm λi l k=>g i l za (h i za k)
 |aJ a us xs b hm c g=>intro d' h;cases h;exact .aJ a us xs b hm c
 |agg us xs b c g=>
  intro d' h;cases h with
  |refl=>exact .agg us xs b c
  |agg _ j e h=>exact .agg us j (b.trans e) λi l k=>g i l za (h i za k)
 |aP us xs b c g=>
  intro d' h;cases h with
  |refl=>exact .aP us xs b c
  |aP _ j e h=>exact .aP us j (b.trans e) λi l k=>g i l za (h i za k)
 |fn f us p xs q b e c n=>intro d' h;cases h;exact .fn f us p xs q b e c n
def Spec.lo{f:c7}{args:ai D}{r r':D}(h:Spec P Good f args r)(c:Rm r r'):Spec P Good f args r':=λw F a j i g=>
 (h w F a j i g).mono λe l k=>by
  obtain⟨v,rfl,b,d⟩:=k;exact⟨v,rfl,b.lo c,d⟩
def Hn(xs a:ai D):Prop:=yD xs=yD a/\∀i(h:i<yD xs)(b:i<yD a),Rm xs[i] a[i]
def Hn.nil:Hn [] []:=⟨rfl,λi h=>api h zb⟩
def Hn.cons{x y:D}{xs a:ai D}(h:Rm x y)(b:Hn xs a):Hn (x::xs) (y::a):=by
 refine⟨by simp[b.1],λi d c=>?_⟩
 cases i with
 |zero=>exact h
 |succ i=>exact b.2 i (by simpa using d) (by simpa using c)
variable {c l:aw}
def fI.abs{k:Code}{s s':St}{e:iw}(h:fI P Good l k s e s')(m:yD s.tmps=c):aI P Good c l k s e s':=by obtain⟨s1,q,p⟩:=h;intro n Q a w j i g d r o;subst m;exact q.2 n Q a w j i g d r λf b gb=>o f b (p n f b d gb)
def af.abs{n gb:aw}{k:Code}{s s':St}{e:iw}(h:af P Good gb k s e s')(a:yD s.tmps=n):aI P Good n gb k s e s':=h.YT.abs a
def aI.loop{n gb:aw}{body:Code}(inv:aw->St)(N:aw){e:iw}{s':St}(q:e≠.normal)(round:∀i<N,aI P Good n gb body (inv i) z3 (inv (i+1)))
  (last:aI P Good n gb body (inv N) e s'):aI P Good n gb (.loop body) (inv 0) e s':=by
 intro c Q a w m l j h g r;have s:∀d b,Rel c n s'.fs d b->Q e.BA d b:=λd b f=>by have:=r d b f;cases e<;>exact this
 refine rX (λk a w=>∃i,N-i=k/\i<=N/\Rel c n (inv i).fs a w) (N-0) ⟨0,rfl,apJ _,g⟩ λk a w p=>?_
 obtain⟨i,rfl,t,g⟩:=p;obtain o|u:=apy i N
 ·exact round i o c _ a w m l j h g λd b f=>⟨N-(i+1),by omega,i+1,rfl,o,f⟩
 ·obtain rfl:i=N:=za
  refine last c _ a w m l j h g λd b f=>?_
  have:=s d b f;cases e with
  |normal=>exact api rfl q
  |exit id=>exact this
  |ret=>exact this
namespace Tw
open fb
variable {G:bn->Prop}
structure Pse where
 u:Tn
 x:cl
 y:cl
instance:ka Pse:=⟨⟨⟨0,aj⟩,0,0⟩⟩
def cPs(p:Pse):ai D:=cF p.u.t++(bool p.u.half::(cF p.x++cF p.y))
def V'(p:Pse):(cPs p).length=10:=rfl
structure atA(p:Pse):Prop where
 u:agR p.u
 x:Qk p.x
 y:Qk p.y
 c:Qk p.u.cos
 s:Qk p.u.sin
def plP(p:Pse):Pl:=⟨iq p.u.cos,iq p.u.sin,iq p.x,iq p.y⟩
def asP(ps:ai Pse):As:=⟨[],ps.map plP,[]⟩
section
variable {ps:ai Pse} {p:Pse} {i:aw}
variable (a:aa G) {n:Pl}
def aub(h:atA p):Spec zZq G 116 [z4 (cPs p)] (.aP [PlD (plP p),zT .nilIface]):=
 Spec.r a func116 [1] [zC (ao_ a h.u),zC (ao9 a h.u),zC (dL a h.c),zC (dL a h.s),zC (dL a h.x),zC (dL a h.y)]
def ckS(ps:ai Pse)(i:aw):St:=lay 31 [(5,aQ cPs ps),(6,nat (yD ps)),(7,nat i)] []
def auh(b:i<yD ps)(f:yD ps<=1000000)(h:atA (yI ps i bc)):af zZq G 0 (ae f115 0) (ckS ps i) z3 (ckS ps (i+1)):=by
 have d:=cE V' za b
 have c:=aq V' za b
 have e:=fO V' b bc;generalize yI ps i bc=p at*;exact af.r a [.eb 8 (ah b),zD d,zD c,.eq 10 e,zC (TL a h.u.q h.u.hh),zC (D9 a h.x),zC (D9 a h.y),.eq 30 (bL (cI b za))]
def atU(d:yD ps<=1000000)(h:∀p∈ps,atA p):Spec zZq G 115 [aQ cPs ps] (zT .nilIface):=by
 have c:=aI.z zZq G (ae f115 0) (yu 0) (lay 31 [] []) (λi=>ckS ps i) (yD ps) (λi b=>auh a b d (h _ (aA b bc)))
  (af.r a [.eb 8 (c9 (apc (yD ps)))])
 exact Spec.r a func115 [] [.code c]
def ofS(ps:ai Pse):aw->St
 |0=>lay 39 [(2,z0 0 0),(5,z0 1 0),(16,aQ cPs ps),(17,nat (yD ps)),(18,nat 0)] [(0,[zK 0 bj [],zK 0 bj [],zK 0 bj []]),(1,[zK 0 bj [],zK 0 bj [],zK 0 bj []])] [1]
 |i+1=>lay 39 [(2,z0 0 0),(5,z0 1 0),(16,aQ cPs ps),(17,nat (yD ps)),(18,nat (i+1))] [(0,[zK 0 bj [],zK 0 bj [],zK 0 bj []]),(1,[zK 0 bj [],.bG 2 (i+1) 4,zK 0 bj []]),(2,((ps.take (i+1)).map plP).flatMap Hg)] [1]
def auq{i:aw}{o:ai Pl}(h:yD o=i+1)(a:i<=1000):(Hg n).all D.bV=bj/\0<1/\(o.flatMap Hg).length=(i+1)*4/\(Hg n).length=1*4/\i+1+1<=2^62/\(i+1+1)*96<=2^47:=by
 rw[dq fN,h];exact⟨rfl,by omega,rfl,rfl,by omega,by omega⟩
def aue(d:i<yD ps)(k:yD ps<=100)(h:atA (yI ps i bc)):fI zZq G 0 (ae f48 0) (ofS ps i) z3 (ofS ps (i+1)):=by
 have g:=cE V' za d
 have f:=aq V' za d
 have e:=fO V' d bc;have c:(ps.take (i+1)).map plP=(ps.take i).map plP++[plP (yI ps i bc)]:=by
  rw[aq6,apj d,aqp,apf,apj d];rfl
 have pl:=aub a h;generalize yI ps i bc=p at*;cases i with
 |zero=>
  rw[aqY,fB,aq0]at c;show fI _ _ _ _ _ _ (lay 39 _ [_,_,(2,((ps.take 1).map plP).flatMap Hg)] _);rw[c];exact fI.br a (ro:=[]) (m:=60) [(2,4)] (aB ..) [.eb 19 (ah d),zD g,zD f,.eq 21 e,zC pl,.eq 37 (bL (cI d za))] (by rfl) zc
 |succ i=>
  have j:=auq (i:=i) (o:=(ps.take (i+1)).map plP) (n:=plP p) (by rw[apq,apr];omega) za
  show fI _ _ _ _ _ _ (lay 39 _ [_,_,(2,((ps.take (i+1+1)).map plP).flatMap Hg)] _);rw[c,aqI];exact fI.br a (ro:=[]) (m:=60) [] (aB ..) [.eb 19 (ah d),zD g,zD f,.eq 21 e,zC pl,.er 34 (zK 1 bj (Hg (plP p))),zD j,.eq 37 (bL (cI d za))] (by rfl) zc
def aut:af zZq G 0 (ae f48 0) (ofS ps (yD ps)) (yu 0) (ofS ps (yD ps)):=by
 have b:=eqB (c9 (apc (yD ps)));obtain h|h:=apv (yD ps)
 ·have:ps=[]:=ap8 h
  subst this;exact af.r a []
 ·obtain⟨m,hm⟩:∃m,yD ps=m+1:=⟨yD ps-1,by omega⟩
  rw[hm];simp only[ofS];rw[hm]at b⊢;exact af.r a [.eq 19 b]
def auQ(a:aa G)(k:ps.length<=100)(h:∀p∈ps,atA p):Spec zZq G 48 [aQ cPs ps] (.aP [qx (asP ps),.lit .nilIface]):=by
 have ck:=atU a za h
 have len:∀i,(ofS ps i).tmps.length=39:=λi=>by cases i<;>exact aB ..
 have d:=aI.loop (P:=zZq) (Good:=G) (n:=39) (gb:=0) (body:=ae f48 0) (λi=>ofS ps i) ps.length (e:=.exit 0) (s':=ofS ps ps.length) zx (λi f=>(aue a f k (h _ (aA f bc))).abs (len i)) ((aut a).abs (len _))
 obtain g|g:=apv ps.length
 ·have:ps=[]:=ap8 g
  subst this;have key:Spec zZq G 48 [aQ cPs []] (.aP [.agg [.row 0 bj [],.row 0 bj [],.row 0 bj []],.lit .nilIface]):=
   Spec.r a func48 [1002,1005] [.call ck,.code d]
  refine key.lo ?_;have r:Rm (.row 0 bj []) (.row 0 aj []):=.row 0 bj [] [] rfl λi h=>api h zb
  have c:Hn [D.row 0 bj [],.row 0 bj [],.row 0 bj []] (Bm (asP [])):=Hn.cons r (Hn.cons r (Hn.cons r Hn.nil));have b:Hn [D.agg [.row 0 bj [],.row 0 bj [],.row 0 bj []],.lit .nilIface] [qx (asP []),.lit .nilIface]:=Hn.cons (.agg _ _ c.1 c.2) (Hn.cons (.refl _) Hn.nil);exact .aP _ _ b.1 b.2
 ·obtain⟨m,hm⟩:∃m,ps.length=m+1:=⟨ps.length-1,by omega⟩
  have l:ofS ps ps.length=lay 39 [(2,.ptr 0 0),(5,.ptr 1 0),(16,aQ cPs ps),(17,nat ps.length),(18,nat ps.length)] [(0,[.row 0 bj [],.row 0 bj [],.row 0 bj []]),(1,[.row 0 bj [],.bG 2 ps.length 4,.row 0 bj []]),(2,(ps.map plP).flatMap Hg)] [1]:=by
   rw[hm];simp only[ofS];rw[hm,<-hm,aqM]
  rw[l]at d;have key:Spec zZq G 48 [aQ cPs ps] (.aP [.agg [.row 0 bj [],.row ps.length aj (((ps.map plP).flatMap Hg).take (ps.length*4)),.row 0 bj []],.lit .nilIface]):=
   Spec.r a func48 [1002,1005] [.call ck,.code d]
  refine key.lo ?_;rw[apA (by rw[dq fN,apq];omega)]
  have r:Rm (.row 0 bj []) (.row 0 aj []):=.row 0 bj [] [] rfl λi h=>api h zb
  have j:D.row ps.length aj ((ps.map plP).flatMap Hg)=aQ Hg (ps.map plP):=by unfold aQ;rw[apq]
  rw[j];have c:Hn [D.row 0 bj [],aQ Hg (ps.map plP),.row 0 bj []] (Bm (asP ps)):=Hn.cons r (Hn.cons (.refl _) (Hn.cons r Hn.nil));have b:Hn [D.agg [.row 0 bj [],aQ Hg (ps.map plP),.row 0 bj []],.lit .nilIface] [qx (asP ps),.lit .nilIface]:=Hn.cons (.agg _ _ c.1 c.2) (Hn.cons (.refl _) Hn.nil);exact .aP _ _ b.1 b.2
end
end Tw
end Lw
