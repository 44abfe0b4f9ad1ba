/- Part 6. -/
import Derived.Test.YtmcpfihkambgnaaGreatLs05
set_option maxHeartbeats 2000000
set_option linter.all false
open Option renaming some->a6,none->bk,map_some->dm,getD_some->uS
open _root_ renaming List->ai,Nat->aw,Bool->b5,Option->bF,beq_eq_false_iff_ne->c4,Int->cA,ByteArray->cB,Rat->cl,decide_eq_true_eq->cm,if_true->gn,if_false->jv,bne_iff_ne->kE,Inhabited->ka,Decidable->vp
open Bool renaming false->aj,true->bj,false_eq_true->cy,and_eq_true->dT
open Go renaming Value->b3,World->bn,FuncId->c7,Program->cp,Func->kf
open List renaming mem_cons->b4,not_mem_nil->bI,getD_eq_getElem?_getD->bP,replicate->cd,range->ch,mem_singleton->dc,map_cons->eZ,length_cons->ey,map_nil->fB,length_nil->fl,nil_append->lp,getElem?_cons_succ->nr,mem_append->p5,cons_append->pa,append_assoc->ra,map_map->sj,length->y6,getD->y7
open Inhabited renaming default->bc
open Option.some renaming injEq->eE
open List.cons renaming injEq->en
open Prod.mk renaming injEq->gu
open Go.World renaming cell?_of_block->ma
open Lw.Item renaming call->z3,prop->yu
open Lw.D renaming row->yI,lit->yT,ptr->y0,agg->y4
open Or renaming inl->y1,inr->y2
open Lw.iw renaming normal->y3,exit->y5
open Go.Proofs.Tryz renaming prog->zZq
open Go.Proofs.Tryz
open Int renaming ofNat->zNq
open Option renaming some.injEq->zIq
open Prod renaming mk.injEq->zJq
namespace Lw
namespace Tw
open Go Go.RowKit Go.Proofs
open fb zY
variable {G:bn->Prop} {t T:aM} {δ η:aw}
variable {Z:Jt} {g:Pl} {k:Type}
def Zn[dH k](ι:pD cl k)(s:aw->k){t:aM}(c:eJ (y6 t) t)(h:Model ι s t (y6 t))(b:Sh (y6 t) g.c)(hs:Sh (y6 t) g.s)(i:Sh (y6 t) g.x)(x y:cl):vl ι s t (J4 t g x y).1=vl ι s t g.c*ι.φ x-vl ι s t g.s*ι.φ y+vl ι s t g.x:=by
 have f:=Sh.mul c b (Sh.l7 (y6 t) x);have d:=Sh.mul c hs (Sh.l7 (y6 t) y);have e:(J4 t g x y).1=oX (g8 (mulL t g.c (iq x)) (mulL t g.s (iq y))) g.x:=by simp only[J4,A5,u5,yC]
 rw[e];rw[qD ι s (f.sub d) i,dU ι s f d,cZ ι s c h b (Sh.l7 _ _),cZ ι s c h hs (Sh.l7 _ _),gV,gV]
def Zm[dH k](ι:pD cl k)(s:aw->k){t:aM}(c:eJ (y6 t) t)(h:Model ι s t (y6 t))(b:Sh (y6 t) g.c)(hs:Sh (y6 t) g.s)(i:Sh (y6 t) g.y)(x y:cl):vl ι s t (J4 t g x y).2=vl ι s t g.s*ι.φ x+vl ι s t g.c*ι.φ y+vl ι s t g.y:=by
 have f:=Sh.mul c hs (Sh.l7 (y6 t) x);have d:=Sh.mul c b (Sh.l7 (y6 t) y);have e:(J4 t g x y).2=oX (oX (mulL t g.s (iq x)) (mulL t g.c (iq y))) g.y:=by simp only[J4,A5,u5,yC]
 rw[e];rw[qD ι s (f.add d) i,qD ι s f d,cZ ι s c h hs (Sh.l7 _ _),cZ ι s c h b (Sh.l7 _ _),gV,gV]
set_option synthInstance.maxSize 100000 in
set_option synthInstance.maxHeartbeats 2000000 in
def afg[dH k]{c s f d e b X Y:k}(h:c*c+s*s=1):(c*e-s*b+X-(c*f-s*d+X))*(c*e-s*b+X-(c*f-s*d+X))+(s*e+c*b+Y-(s*f+c*d+Y))*(s*e+c*b+Y-(s*f+c*d+Y))=(e-f)*(e-f)+(b-d)*(b-d):=
 rg1 [c,s,f,d,e,b,X,Y] ((e-f)*(e-f)+(b-d)*(b-d)) h
def LkB(r:aw)(l:Lk):Prop:=∀b k,tB l b k->V2.B r (n8 (dQ l b k))
def JO(t:aM)(b:Pl):Prop:=∀(K:Type)[dH K](ι:pD cl K)(s:aw->K),Model ι s t (y6 t)->vl ι s t b.c*vl ι s t b.c+vl ι s t b.s*vl ι s t b.s=1
structure ig(r n δ k N D:aw)(rr:b5):Prop where
 pr:∃n1 nQ nX I nP nw nC,ahZ r n δ k N D n1 nQ nX I nP nw nC
 rp:∃n1 nd nX I nz nz0 nC nC0,ahY r n δ k N D n1 nd nX I nz nz0 nC nC0
 rrr:rr=bj->∃n1 nd nS nX nW I nG nF nH nP nw nC,ad1 r n δ k N D n1 nd nS nX nW I nG nF nH nP nw nC
def g7.at{l:Lk}(b:g7 l){j:aw}(h:j<y6 l.js):(y7 l.js j bc).a<y6 l.bs/\(y7 l.js j bc).b<y6 l.bs/\tB l (y7 l.js j bc).a (y7 l.js j bc).p/\tB l (y7 l.js j bc).b (y7 l.js j bc).on/\
  ((y7 l.js j bc).kind=1->tB l (y7 l.js j bc).b (y7 l.js j bc).to):=by
 have hm:=aA h (bc:Jt);exact⟨b.a _ hm,b.b _ hm,⟨b.a _ hm,b.p _ hm⟩,⟨b.b _ hm,b.on _ hm⟩,λc=>⟨b.b _ hm,b.to _ hm c⟩⟩
def mZ{b o:aw}(h:ud Z b=a6 o)(d:o≠b):(Z.a=b/\Z.b=o)\/(Z.a=o/\Z.b=b):=by unfold ud at h;split at h;rename_i c;cases h;exact y1 ⟨c.symm,rfl⟩;split at h;rename_i c;cases h;exact y2 ⟨rfl,c.symm⟩;cases h
section
variable {l:Lk} {a:As} {r n:aw}
def BQ(d:j7 a.t)(c:LkB r l)(pl:∀i,z5 n a.t (dt a i)){b k:aw}(h:tB l b k):mR (n+r+r+2) a.t (kS l a b k):=akE d.sh (pl b) (c b k h).x (c b k h).y
def C5(f:aa G)(e:dn δ a.t)(c:LkB r l)(pl:∀i,z5 n a.t (dt a i))(d:n+r+r+2<=MB){b k:aw}(h:tB l b k):Rd G l a b k:=agN f e (pl b) (c b k h).x (c b k h).y d
variable {i:Gp}
def Ij(j:aa G)(f:dn δ a.t)(w:g7 l)(d:LkB r l)(lb:y6 a.bs=y6 l.bs)(pl:∀g,z5 n a.t (dt a g))(u:n+r+r+2<=MB){k body o:aw}(x:k<y6 i.js)(v:y7 i.js k 0<y6 l.js)(hw:((fc l i k).a=body/\(fc l i k).b=o)\/((fc l i k).a=o/\(fc l i k).b=body))(y:o≠body):
  iy zZq G f192 [y0 0 0,nat k,nat body] (kQ l i a) (.aP [(n8 (jX l i k body)).Cd,mg (il l i a k body)]) (kQ l i a)/\V2.B r (n8 (jX l i k body))/\mR (n+r+r+2) a.t (il l i a k body):=by
 obtain⟨s,q,c,b,-⟩:=w.at v;have e:y7 l.js (y7 i.js k 0) bc=fc l i k:=rfl;rw[e]at s q c b;have m:=alO j l i a x v (body:=body) (λh=>⟨h▸c,b,by rw[lb];exact q,C5 j f d pl u b⟩) (λh=>by have p:(fc l i k).b=body:=(hw.resolve_left λe=>h e.1).2;exact⟨p▸b,c,by rw[lb];exact s,C5 j f d pl u c⟩)
 refine⟨m,?_,?_⟩;unfold jX;split;rename_i h;exact d _ _ (h▸c);rename_i h;have p:(fc l i k).b=body:=(hw.resolve_left λe=>h e.1).2;exact d _ _ (p▸b);unfold il;split;exact BQ f.b.ok d pl b;exact BQ f.b.ok d pl c
def aaW(o:aa G)(k:g7 l)(d:LkB r l){body:aw}(p:2<y6 i.js)(f:y7 i.js 2 0<y6 l.js)(hw:(fc l i 2).a=body\/(fc l i 2).b=body):
  iy zZq G f255 [y0 0 0,nat body] (kQ l i a) (n8 (jX l i 2 body)).Cd (kQ l i a)/\V2.B r (n8 (jX l i 2 body)):=by
 obtain⟨j,g,c,b,-⟩:=k.at f;have e:y7 l.js (y7 i.js 2 0) bc=fc l i 2:=rfl;rw[e]at j g c b;have m:=alQ o l i a p f (body:=body) (λh=>h▸c) (λh=>(hw.resolve_left h)▸b);refine⟨m,?_⟩;unfold jX;split;rename_i h;exact d _ _ (h▸c);rename_i h;exact d _ _ ((hw.resolve_left h)▸b)
def IM(g:dn δ a.t)(B:LkB r l)(pl:∀i,z5 n a.t (dt a i)){b p q:aw}(M:tB l b p)(L:tB l b q)(un:JO a.t (dt a b))(f:(dQ l b p).x≠(dQ l b q).x\/(dQ l b p).y≠(dQ l b q).y):aL a.t (lQ a.t (kS l a b p) (kS l a b q))=1:=by
 obtain⟨K,_,ι,s,d⟩:=g.b.ok.model (y6 a.t) (apc _);have c:=g.b.ok.sh;have hu:=un K ι s d;have sp:=BQ g.b.ok B pl M;have sq:=BQ g.b.ok B pl L;have sc:Sh (y6 a.t) (dt a b).c:=gP.sh (pl b) _ zb
 have z:Sh (y6 a.t) (dt a b).s:=gP.sh (pl b) _ zb
 have I:Sh (y6 a.t) (dt a b).x:=gP.sh (pl b) _ zb
 have H:Sh (y6 a.t) (dt a b).y:=gP.sh (pl b) _ zb
 have m:∀k,vl ι s a.t (kS l a b k).1=vl ι s a.t (dt a b).c*ι.φ (dQ l b k).x-vl ι s a.t (dt a b).s*ι.φ (dQ l b k).y+vl ι s a.t (dt a b).x:=λk=>by rw[kS];exact Zn ι s c d sc z I _ _
 have j:∀k,vl ι s a.t (kS l a b k).2=vl ι s a.t (dt a b).s*ι.φ (dQ l b k).x+vl ι s a.t (dt a b).c*ι.φ (dQ l b k).y+vl ι s a.t (dt a b).y:=λk=>by rw[kS];exact Zm ι s c d sc z H _ _
 have y:=sp.x.sh;have x:=sq.x.sh;have w:=sp.y.sh;have o:=sq.y.sh;have D:=m p;have C:=j p;have F:=m q;have E:=j q;clear m j sp sq;unfold lQ lV;generalize kS l a b p=P at*;generalize kS l a b q=Q at*;have v1:Sh (y6 a.t) (kv Q P).1:=x.sub y;have v2:Sh (y6 a.t) (kv Q P).2:=o.sub w;have S:vl ι s a.t (kv Q P).1=vl ι s a.t Q.1-vl ι s a.t P.1:=dU ι s x y;have R:vl ι s a.t (kv Q P).2=vl ι s a.t Q.2-vl ι s a.t P.2:=dU ι s o w;have e:vl ι s a.t (vP a.t (kv Q P) (kv Q P))=(ι.φ (dQ l b q).x-ι.φ (dQ l b p).x)*(ι.φ (dQ l b q).x-ι.φ (dQ l b p).x)+(ι.φ (dQ l b q).y-ι.φ (dQ l b p).y)*(ι.φ (dQ l b q).y-ι.φ (dQ l b p).y):=by
  unfold vP;rw[qD ι s (Sh.mul c v1 v1) (Sh.mul c v2 v2),cZ ι s c d v1 v1,cZ ι s c d v2 v2,S,R,D,C,F,E];exact afg hu
 have J:Sh (y6 a.t) (vP a.t (kv Q P) (kv Q P)):=(Sh.mul c v1 v1).add (Sh.mul c v2 v2);rw[ku ι s c d J,e];refine dH.sG ?_;rcases dH.Sy (dH.rN (ι.φ (dQ l b q).x-ι.φ (dQ l b p).x)) (dH.rN (ι.φ (dQ l b q).y-ι.φ (dQ l b p).y))with h|h
 ·exact h
 ·exfalso
  obtain⟨O,N⟩:=FL h;have inj:∀{u v:cl},ι.φ u-ι.φ v=0->u=v:=λ{u v} A=>by
   rw[<-ι.sub]at A;have:nV (u-v)=0:=by rw[BG ι,A];exact dH.iU
   have:=(CL _).1 this
   grind
  obtain f|f:=f
  ·exact f (inj O).symm
  ·exact f (inj N).symm
end
open fb
variable {R S:V2} {Y:b5} {c:ai Gp} {d:Lk} {i:Gp} {j:As} {o:Fn}
def V2.RD(h:R.x≠S.x\/R.y≠S.y):(S.sub R).sq≠0:=by
 intro e;have a:(S.x-R.x)*(S.x-R.x)+(S.y-R.y)*(S.y-R.y)=0:=e;obtain⟨c,b⟩:=FL a;obtain h|h:=h
 exact h (by grind);exact h (by grind)
structure akJ(l:Lk)(s:Fn)(a:As)(n:aw):Prop where
 pl:∀i,z5 n a.t (dt a i)
 un:∀i,s.known.getD i aj=bj->JO a.t (dt a i)
def acp(s:aa G){k:aw}(P:g7 d){r n N D:aw}(u:LkB r d)(w:Fx G d j c k i δ)(hs:qt d o)(S6:tC d o i)(st:akJ d o j n)(h3:y6 j.t<=3\/i.kind=0)(h4:y6 j.t<=4)
  (W:n+r+r+2<=MB) (F:i.kind≠0->ig r n δ (y6 j.t) N D Y) (hrr:i.kind=1->Y=bj) (Fd:i.kind=0->aeh r n δ (y6 j.t) N/\δ<=D) {x:Tn} (hx:iC r x.t) (hh:x.half=bj->x.t=0):
  xf G 83 [lM d,nat k,J5 x,qx j] (J_ (iX d j i x))/\∀ss,iX d j i x=a6 ss->∀z∈ss,Q7 N D j.t z:=by
 have v:=w.hT;have V:=w.lb;have B:∀{rr b:aw},y7 o.known rr aj=bj->y7 o.known b aj=aj->rr≠b:=λh1 h2 e=>by rw[e,h2]at h1;cases h1
 have y:∀{rr:aw},y7 o.known rr aj=bj->rr<y6 j.bs:=λ{rr} h=>by
  rw[V,<-hs.k];obtain h'|h':=apy rr (y6 o.known)
  ·exact h'
  ·rw[apf,apL h']at h;cases h
 cases S6 with
 |sO g body o8 hd hb kb hp=>
  obtain⟨hpl,R,rr,ho,M⟩:=hp;have iA:=B M kb;have mc:=mZ ho iA;obtain⟨Fd1,Fd2⟩:=Fd rfl;have f:=Ij (i:=⟨0,[body],[o8],g⟩) (k:=0) s v P u V st.pl W zb hpl mc iA
  obtain⟨q1,Z⟩:=XS d j (D:=D) s v h4 hx hh Fd1 Fd2 f.2.1 f.2.2 f.1;exact⟨Wi s d j w hpl (y M) iA mc q1,Z⟩
 |pair l gs E m jc pC hj fi fj ha hb hc kc oc=>
  obtain⟨C,apk,rr,ho,M⟩:=ha;obtain⟨Q,a,p,hp,R⟩:=hb;have ui:=fQ fi;have uj:=fQ fj;have O:=B M ui;have oj:=B M uj;have pi:=B R ui;have pj:=B R uj;have ij:l≠gs:=za
  have X:=mZ ho O;have S:=mZ hp pj;have J:=mZ oc (aqZ ij);have l3:y6 j.t<=3:=h3.resolve_right z1
  obtain⟨n1,nd,nS,nX,nW,I,nG,nF,nH,nP,nw,nC,F⟩:=(F z1).rrr (hrr rfl)
  have e1:n+r+r+2=n1:=by have:=F.e1;omega
  have f:=Ij (i:=⟨1,[l,gs],[E,m,jc],0⟩) (k:=0) s v P u V st.pl W zb C X O
  have p1:=Ij (i:=⟨1,[l,gs],[E,m,jc],0⟩) (k:=1) s v P u V st.pl W zb Q S pj
  have o0:=aaW (a:=j) (i:=⟨1,[l,gs],[E,m,jc],0⟩) (body:=l) s P u zb hc (by obtain J|J:=J;exact y1 J.1;exact y2 J.2)
  have o1:=aaW (a:=j) (i:=⟨1,[l,gs],[E,m,jc],0⟩) (body:=gs) s P u zb hc (by obtain J|J:=J;exact y2 J.2;exact y1 J.1)
  rw[e1]at f p1;have Y:=alz s d j f.1 p1.1 o0.1 o1.1;obtain⟨q1,Z⟩:=Ww d j s v l3 F ⟨f.2.1,o0.2,f.2.2⟩ ⟨p1.2.1,o1.2,p1.2.2⟩ Y;exact⟨aeV s d j w C Q hc (y M) (y R) O oj pi pj ij X S J q1,Z⟩
 |single l E m hi fi ha hb=>
  obtain⟨C,apk,rr,ho,M⟩:=ha;obtain⟨Q,a,p,hp,R⟩:=hb;have ui:=fQ fi;have O:=B M ui;have pi:=B R ui;have X:=mZ ho O;have S:=mZ hp pi;obtain⟨q1,Z,q3,U,L⟩:=P.at Q;have L:=L a;have jm:=aA Q (bc:Jt);have YZ:=P.ne _ jm a;have knd:(eO d l m)≠0:=by unfold eO;split<;>decide
  have l3:y6 j.t<=3:=h3.resolve_right knd;have FF:=F knd;generalize q:y7 d.js m bc=H at q1 Z q3 U L YZ S;by_cases hk:H.a=l
  ·have ek:eO d l m=2:=by unfold eO;rw[aph (by rw[q];exact hk)]
   rw[ek]at w⊢;clear F Fd h3;have hjb:H.b=p:=(S.resolve_right λh=>pi (h.1.symm.trans hk)).2
   obtain⟨n1,nQ,nX,I,nP,nw,nC,F⟩:=FF.pr;have e1:n+r+r+2=n1:=by have:=F.e1;omega
   have f:=Ij (i:=⟨2,[l],[E,m],0⟩) (k:=0) s v P u V st.pl W zb C X O
   have m0:tB d l H.p:=hk▸q3;have pr:=anM d j s q Q f.1 m0 U L (by rw[V];exact Z) (C5 s v u st.pl W U) (C5 s v u st.pl W L)
   have un:JO j.t (dt j H.b):=by rw[hjb];exact st.un _ R
   have ll:=IM v u st.pl U L un YZ;have K:=BQ v.b.ok u st.pl U;have sz2:=BQ v.b.ok u st.pl L;rw[e1]at f K sz2;obtain⟨r1,r2⟩:=aaw d j s v l3 F (H:=Ku d j (i:=l) ⟨2,[l],[E,m],0⟩ H) ⟨f.2.1,u _ _ m0,f.2.2⟩ K sz2 ll pr;have eg:iX d j ⟨2,[l],[E,m],0⟩ x=MR j.t (Ku d j (i:=l) ⟨2,[l],[E,m],0⟩ H) (kS d j H.b H.on) (kS d j H.b H.to):=by rw[<-q];rfl
   rw[eg];exact⟨aeU s d j w C Q (y M) (y R) O pi X (by unfold JW;rw[q];exact S) r1,r2⟩
  ·have ek:eO d l m=3:=by unfold eO;rw[ape (by rw[q];exact hk)]
   rw[ek]at w⊢;clear F Fd h3;have hw:=S.resolve_left λh=>hk h.1
   obtain⟨n1,nd,nX,I,nz,nz0,nC,nC0,F⟩:=FF.rp;have e1:n+r+r+2=n1:=by have:=F.e1;omega
   have f:=Ij (i:=⟨3,[l],[E,m],0⟩) (k:=0) s v P u V st.pl W zb C X O
   rw[hw.2]at U L YZ;have K:=BQ v.b.ok u st.pl q3;rw[e1]at f K;obtain⟨r1,r2⟩:=Z8 d j s v l3 q Q F (x:=H0 d ⟨3,[l],[E,m],0⟩ j l H) ⟨f.2.1,u _ _ U,u _ _ L,rfl,f.2.2,K⟩ (V2.RD YZ) f.1 rfl rfl U L q3 (by rw[V];exact q1) (C5 s v u st.pl W q3)
   have eg:iX d j ⟨3,[l],[E,m],0⟩ x=MI j.t (H0 d ⟨3,[l],[E,m],0⟩ j l H):=by rw[<-q];rfl
   rw[eg];exact⟨aeT s d j w C Q (y M) (y R) O pi X (by unfold JW;rw[q];exact S) r1,r2⟩
def Q6(s:uU):D:=y4 (adz s)
def GpD(g:Gp):D:=y4 (kg g)
def As.BK(a:As)(b:aw)(p:Pl)(T:aM)(m:cA):As:=⟨T,a.bs.set b p,a.ms++[m]⟩
def As.xC(a:As)(b c:aw)(p q:Pl)(T:aM)(m:cA):As:=⟨T,(a.bs.set b p).set c q,a.ms++[m]⟩
def Ac{bs:ai Pl}{i:aw}{p:Pl}(h:i<bs.length):aE (bs.flatMap Hg) ((zNq i).toNat*4) (Hg p)=(bs.set i p).flatMap Hg:=by
 have e:(zNq i).toNat*4=i*4:=rfl;rw[e];clear e;induction bs generalizing i with
 |nil=>simp at h
 |cons b bs d=>
  cases i with
  |zero=>rfl
  |succ i=>
   have:=d (i:=i) (by simpa using h);rw[List.set_cons_succ,ap',ap',<-this];unfold aE;have a:(Hg b).length=4:=rfl;rw[show(i+1)*4=4+i*4 by omega,List.take_append,apA (by rw[a];omega),a,show 4+i*4-4=i*4 by omega,aqV,List.drop_append,List.drop_eq_nil_of_le (by rw[a];omega),aq0,a];have c:(Hg p).length=4:=rfl;rw[c,show 4+i*4+4-4=i*4+4 by omega]
def MS(bs:ai Pl):y6 (bs.flatMap Hg)=y6 bs*4:=dq fN bs
variable {E:ai aw} {I:ai cA} {L:Pl} (a:aa G) {b f z:aw} {t:cA} {u:aM} {x:ai Pl}
def MA(h:b<y6 x):(zNq b).toNat*4+y6 (Hg g)<=y6 (x.flatMap Hg):=by have e:(zNq b).toNat=b:=rfl;have a:y6 (Hg g)=4:=rfl;rw[MS,e,a];omega
def roB:c7->ai aw:=λf=>if f=153 then [997]else if f=146 then [997]else []
def ZI(h:b<y6 x)(a:f<y6 x):(zNq f).toNat*4+y6 (Hg L)<=y6 (aE (x.flatMap Hg) ((zNq b).toNat*4) (Hg g)):=by rw[Ac h];exact MA (by rwa [apY])
def BX{l:ai k}(h:2<=y6 l)(g:y6 l<=6):(∃a b,l=[a,b])\/(∃a b c,l=[a,b,c])\/(∃a b c d,l=[a,b,c,d])\/(∃a b c d e,l=[a,b,c,d,e])\/∃a b c d e f,l=[a,b,c,d,e,f]:=by
 match l,h,g with
 |[a,b],_,_=>exact y1 ⟨a,b,rfl⟩
 |[a,b,c],_,_=>exact y2 (y1 ⟨a,b,c,rfl⟩)
 |[a,b,c,d],_,_=>exact y2 (y2 (y1 ⟨a,b,c,d,rfl⟩))
 |[a,b,c,d,e],_,_=>exact y2 (y2 (y2 (y1 ⟨a,b,c,d,e,rfl⟩)))
 |[a,b,c,d,e,f],_,_=>exact y2 (y2 (y2 (y2 ⟨a,b,c,d,e,f,rfl⟩)))
def abN{l:ai k}(h:y6 l<=4):l=[]\/(∃a,l=[a])\/(∃a b,l=[a,b])\/(∃a b c,l=[a,b,c])\/∃a b c d,l=[a,b,c,d]:=by
 match l,h with
 |[],_=>exact y1 rfl
 |[a],_=>exact y2 (y1 ⟨a,rfl⟩)
 |[a,b],_=>exact y2 (y2 (y1 ⟨a,b,rfl⟩))
 |[a,b,c],_=>exact y2 (y2 (y2 (y1 ⟨a,b,c,rfl⟩)))
 |[a,b,c,d],_=>exact y2 (y2 (y2 (y2 ⟨a,b,c,d,rfl⟩)))
def As.aas{T:aM}(a:b<y6 x):qx ((⟨u,x,I⟩:As).BK b g T t)=y4 [yI (y6 T) aj (T.map au),yI (y6 x) aj ((aE (x.flatMap Hg) ((zNq b).toNat*4) (Hg g)).take (y6 x*4)),yI (y6 I+1) aj (I.map int++[int t])]:=by rw[Ac a,apA (by rw[MS,apY];exact apc _)];simp[qx,Bm,As.BK,aQ,sZ]
def As.aar{T:aM}(a:b<y6 x)(d:f<y6 x):qx ((⟨u,x,I⟩:As).xC b f g L T t)=y4 [yI (y6 T) aj (T.map au),yI (y6 x) aj ((aE (aE (x.flatMap Hg) ((zNq b).toNat*4) (Hg g)) ((zNq f).toNat*4) (Hg L)).take (y6 x*4)),yI (y6 I+1) aj (I.map int++[int t])]:=by rw[Ac a,Ac (by rwa [apY]),apA (by rw[MS,apY,apY];exact apc _)];simp[qx,Bm,As.xC,aQ,sZ]
def Yt{T:aM}(s:2<=y6 j.bs)(r:y6 j.bs<=6)(i:y6 j.ms<=4)(m:b<y6 j.bs):
  xf G 85 [qx j,GpD ⟨f,[b],E,z⟩,Q6 ⟨T,[g],t⟩] (qx (j.BK b g T t)):=by
 obtain⟨p,x,ms⟩:=j;rw[As.aas m];have o:=bR m;have n:=MA (g:=g) m;obtain rfl|i:=abN i
 rcases BX s r with⟨e,c,rfl⟩|⟨e,c,d,rfl⟩|⟨e,c,d,k,rfl⟩|⟨e,c,d,k,l,rfl⟩|⟨e,c,d,k,l,v,rfl⟩<;>exact Spec.y a (az [146] roB) func85 [3,4,5] [z3 (Fb.DV a),.er 38 (PlD g),yu o,yu n];rcases i with⟨h,rfl⟩|⟨h,q,rfl⟩|⟨h,q,u,rfl⟩|⟨h,q,u,w,rfl⟩<;>rcases BX s r with⟨e,c,rfl⟩|⟨e,c,d,rfl⟩|⟨e,c,d,k,rfl⟩|⟨e,c,d,k,l,rfl⟩|⟨e,c,d,k,l,v,rfl⟩<;>exact Spec.y a (az [] roB) func85 [3,4,5] [.er 38 (PlD g),yu o,yu n]
def Ys{T:aM}{d:aw}(y:2<=y6 j.bs)(x:y6 j.bs<=6)(k:y6 j.ms<=4)(i:b<y6 j.bs)(l:z<y6 j.bs):
  xf G 85 [qx j,GpD ⟨f,[b,z],E,d⟩,Q6 ⟨T,[g,L],t⟩] (qx (j.xC b z g L T t)):=by
 obtain⟨m,C,ms⟩:=j;rw[As.aar (L:=L) i l];have v:=bR i;have u:=MA (g:=g) i;have s:=bR l;have r:=ZI (g:=g) (L:=L) i l;obtain rfl|k:=abN k
 rcases BX y x with⟨q,e,rfl⟩|⟨q,e,n,rfl⟩|⟨q,e,n,h,rfl⟩|⟨q,e,n,h,o,rfl⟩|⟨q,e,n,h,o,A,rfl⟩<;>exact Spec.y a (az [146] roB) func85 [3,4,5] [z3 (Fb.DV a),.er 38 (PlD g),yu v,yu u,.er 38 (PlD L),yu s,yu r];rcases k with⟨c,rfl⟩|⟨c,w,rfl⟩|⟨c,w,p,rfl⟩|⟨c,w,p,B,rfl⟩<;>rcases BX y x with⟨q,e,rfl⟩|⟨q,e,n,rfl⟩|⟨q,e,n,h,rfl⟩|⟨q,e,n,h,o,rfl⟩|⟨q,e,n,h,o,A,rfl⟩<;>exact Spec.y a (az [] roB) func85 [3,4,5] [.er 38 (PlD g),yu v,yu u,.er 38 (PlD L),yu s,yu r]
end Tw
open Go Go.RowKit
variable {P:cp} {Good:bn->Prop}
def aX.aiI{β ρ:aw->aw}{w:bn}{X:aw->Prop}{v:b3}{d:D}(h:aX (λb=>β (ρ b)) w X v d):aX β w X v (d.fD ρ):=by
 cases h with
 |p f=>rw[Ey ρ (fC f)];exact .p f
 |ptr b off=>exact .ptr (ρ b) off
 |aY b off len cap c a=>exact .aY (ρ b) off len cap c a
 |bG b n size cap e c a g=>exact .bG (ρ b) n size cap e c a g
def LQ.aiI{β ρ:aw->aw}{w:bn}{X:aw->Prop}{us:ai b3}{xs:ai D}(h:LQ (aX (λb=>β (ρ b)) w X) us xs):LQ (aX β w X) us (xs.map (D.fD ρ)):=
 h.map λ_ _ _ a=>a.aiI
def aX.FZ{β:aw->aw}{w w':bn}{X X':aw->Prop}(h:∀a u,w.cell? a=a6 u->¬X a.block->w'.cell? a=a6 u/\¬X' a.block){v:b3}{d:D}
  (hs:∀b,d.ref=a6 b->∀e n,w.shape? (β b)=a6 (e,n)->∃g,w'.shape? (β b)=a6 (g,n)) (i:aX β w X v d):aX β w' X' v d:=by
 cases i with
 |p j=>exact .p (j.mono h)
 |ptr b off=>exact .ptr b off
 |aY b off len cap f c=>exact .aY b off len cap f c
 |bG b n size cap e f c k=>
  obtain⟨g,l⟩:=hs b rfl e _ k;exact .bG b n size cap g f c l
def bU.FZ{β:aw->aw}{w w':bn}{X X':aw->Prop}(h:∀a u,w.cell? a=a6 u->¬X a.block->w'.cell? a=a6 u/\¬X' a.block){v:b3}{d:D}
  (hs:∀b∈d.refs,∀e n,w.shape? (β b)=a6 (e,n)->∃m,w'.shape? (β b)=a6 (m,n)) (k:bU β w X v d):bU β w' X' v d:=by
 cases k with
 |c l=>exact .c (l.FZ h λb f=>hs b (pN f))
 |agg us xs j=>exact .agg us xs (j.mono λu x g i=>i.FZ h λb f=>hs b (by show b∈xs.filterMap D.ref;exact apM.2 ⟨x,g,f⟩))
 |aP us xs j=>exact .aP us xs (j.mono λu x g i=>i.FZ h λb f=>hs b (by show b∈xs.filterMap D.ref;exact apM.2 ⟨x,g,f⟩))
def rh(a:ai D)(b:ai (ai D))(ob:bF (ai D)):ai (bF (ai D)):=a6 a::(b.map a6++[ob])
def akx(a:ai D)(b:ai (ai D))(ob:bF (ai D)):(rh a b ob).getD 0 bk=a6 a:=rfl
variable {E H:ai aw} {J p:ai D} {M O:ai (bF (ai D))} {b f:aw} {l:bF (ai D)} {q:D} {w:ai (ai D)}
def QX(h:b<y6 w):(rh p w l).getD (b+1) bk=a6 (y7 w b []):=by simp only[rh,bP,nr];rw[aqe (by simpa using h),aqz,apj h];rfl
def L8:(rh p w l).getD (y6 w+1) bk=l:=by simp only[rh,bP,nr];rw[apS zb];simp
def adL(h:y6 w+1<b):(rh p w l).getD b bk=bk:=by rw[apf,apL (by simp[rh];omega)];rfl
def yg(h:(rh p w l).getD b bk=a6 J):
  (b=0/\J=p)\/(∃k,k<y6 w/\b=k+1/\J=y7 w k [])\/(b=y6 w+1/\l=a6 J):=by
 rcases aq5 b (y6 w+1)with c|c|c
 cases b with
 |zero=>exact y1 ⟨rfl,(ap0 h).symm⟩
 |succ k=>
  have e:k<y6 w:=za
  rw[QX e]at h;exact y2 (y1 ⟨k,e,rfl,(ap0 h).symm⟩)
 rw[c,L8]at h;exact y2 (y2 ⟨c,h⟩);rw[adL c]at h;cases h
def jI(h:([a6 p,l]:ai (bF (ai D))).getD b bk=a6 J):(b=0/\J=p)\/(b=1/\l=a6 J):=by
 match b,h with
 |0,h=>exact y1 ⟨rfl,(ap0 h).symm⟩
 |1,h=>exact y2 ⟨rfl,h⟩
 |b+2,h=>simp at h
def KL(m b:aw):aw:=if b=1 then m+1 else b
def kh.frame{fn:kf}{args C B:ai D}{ob J:bF (ai D)}{d:D}(hI:kh P Good fn 1 args [a6 C,ob] [0] d [a6 B,J] [0])
  (hwc:∀x∈C,∀b,x.ref=a6 b->b=1) (amm:∀x∈B,∀b,x.ref=a6 b->b=1) (hob:∀cs,ob=a6 cs->∀x∈cs,x.ref=bk) (ams:∀cs,J=a6 cs->∀x∈cs,x.ref=bk)
  (du:∀x∈args,∀b∈x.refs,b=0) (hd:d.refs=[]) (o:ai (ai D)) (hXs:∀cs∈o,∀x∈cs,x.ref=bk):
  kh P Good fn (o.length+1) args (rh (C.map (D.fD (KL o.length))) o ob) [0] d (rh (B.map (D.fD (KL o.length))) o J) [0]:=by
 intro f hf c w β X vals q1 q2 q3 q4 q5 q6 h s8 ff zp;have m0:KL o.length 0=0:=rfl;have m1:KL o.length 1=o.length+1:=rfl;generalize hm:o.length=m at*;have b0:(rh (C.map (D.fD (KL m))) o ob).getD 0 bk=a6 (C.map (D.fD (KL m))):=akx ..;have bl:∀{ob:bF (ai D)}{C:ai D},(rh C o ob).getD (m+1) bk=ob:=λ{ob} {C}=>by rw[<-hm];exact L8
 have bm:∀{ob:bF (ai D)}{C:ai D}{k:aw},k<m->(rh C o ob).getD (k+1) bk=a6 (o.getD k []):=λ{ob} {C} {k} g=>QX za
 obtain⟨a1,a2,M,e0,a3,a4,a5⟩:=h.blk 0 _ b0;have sh0:=cw a3
 let seen:aw->b5:=λk=>k==β 0||(ob.isSome&&k==β (m+1))
 have alv:seen (β 0)=bj:=by simp[seen]
 have ahe:ob.isSome=bj->seen (β (m+1))=bj:=λh=>by simp[seen,h]
 have g_:∀k,seen k=bj->k=β 0\/(ob.isSome=bj/\k=β (m+1)):=λk g=>by simpa [seen]using g
 have O:((rh (C.map (D.fD (KL m))) o ob).getD 0 bk).isSome=bj:=by rw[b0];rfl
 have N:ob.isSome=bj->((rh (C.map (D.fD (KL m))) o ob).getD (m+1) bk).isSome=bj:=λh=>by rw[bl];exact h
 have T:∀k<m,((rh (C.map (D.fD (KL m))) o ob).getD (k+1) bk).isSome=bj:=λk g=>by rw[bm g];rfl
 have ahV:∀k,seen k=bj->X k:=λk g=>by
  obtain rfl|⟨V,rfl⟩:=g_ k g
  ·exact a2
  ·obtain⟨cs,r⟩:=apn.1 V
   exact(h.blk (m+1) cs (by show(rh _ o ob).getD (m+1) bk=a6 cs;rw[bl];exact r)).2.1
 generalize apa:seen=E at*
 let c':Ctx:={c with gh:=[(.slice (a6 ⟨β 0,0,bk⟩) 0 1,.bG 0 0 M.size)],gb:=1,rd:=bk,dfs:=[],ns:=w.heap.size,kp:=λk=>if E k then bk else w.heap[k]?,kx:=λk=>X k/\E k=aj}
 have qV:df c' 0 ⟨λ_=>.any,λb=>([a6 C,ob]:ai (bF (ai D))).getD b bk,λb=>([0]:ai aw).contains b⟩ ⟨#[],[]⟩ w (λb=>β (KL m b)) X:=by
  refine⟨rfl,rfl,λt=>.c (.p (.any _)),λt b l=>by simp[D.refs]at l,λb cs l=>?_,λb cs l x F b' I=>?_,λb b' l I e=>?_,h.F,h.uZ,h.oH,⟨h.below.uX,h.below.nc,apc _⟩,λp S=>?_,λp S b l=>?_,⟨λk q g=>?_,λk g=>g.1,λk g=>h.oH k g.1,λk g b l=>?_⟩⟩
  ·rcases jI l with⟨rfl,rfl⟩|⟨rfl,r⟩
   ·rw[apq]at a4 a5
    exact⟨a1,a2,M,e0,a3,a4,a5.Gw⟩
   ·obtain⟨G,z,U,e,W,g4,g5⟩:=h.blk (m+1) cs (by show(rh _ o ob).getD (m+1) bk=a6 cs;rw[bl];exact r)
    exact⟨G,z,U,e,W,g4,(g5.pure (hob cs r)).lq⟩
  ·rcases jI l with⟨rfl,rfl⟩|⟨rfl,r⟩
   ·obtain rfl:=hwc x F b' I
    obtain⟨-,z⟩:=h.qS 0 _ b0 (x.fD (KL m)) (ard F) (m+1) (by rw[v_,I];rfl)
    have g2':((rh (cs.map (D.fD (KL m))) o ob).getD (m+1) bk).isSome=bj:=z;rw[bl]at g2';exact⟨rfl,g2'⟩
   ·rw[hob cs r x F]at I;cases I
  ·obtain⟨c1,e1⟩:=apn.1 l
   obtain⟨c2,e2⟩:=apn.1 I;have up:∀{b cs},([a6 C,ob]:ai (bF (ai D))).getD b bk=a6 cs->((rh (C.map (D.fD (KL m))) o ob).getD (KL m b) bk).isSome=bj:=λ{b cs} l=>by
    rcases jI l with⟨rfl,-⟩|⟨rfl,r⟩
    ·exact O
    ·exact N (by rw[r];rfl)
   have:=h.inj _ _ (up e1) (up e2) e;rcases jI e1 with⟨rfl,-⟩|⟨rfl,-⟩<;>rcases jI e2 with⟨rfl,-⟩|⟨rfl,-⟩<;>first|rfl|(rw[m0,m1]at this;omega)
  ·rw[show c'.gh=[(.slice (a6 ⟨β 0,0,bk⟩) 0 1,.bG 0 0 M.size)]from rfl,apg]at S
   subst S;exact .c (.bG (β:=λb=>β (KL m b)) 0 0 M.size 1 e0 za zv (by rw[aqw];exact sh0))
  ·rw[show c'.gh=[(.slice (a6 ⟨β 0,0,bk⟩) 0 1,.bG 0 0 M.size)]from rfl,apg]at S
   subst S;simp only[D.refs,dc]at l;subst l;exact⟨by show 0<1;omega,rfl⟩
  ·have fX:(if E k then bk else w.heap[k]?)=a6 q:=g
   split at fX
   ·cases fX
   ·exact fX
  ·obtain⟨cs,e1⟩:=apn.1 l
   intro e3;have s:E k=bj:=by
    rw[<-e3];rcases jI e1 with⟨rfl,-⟩|⟨rfl,r⟩
    ·exact alv
    ·exact ahe (by rw[r];rfl)
   obtain g|g:=g
   ·have fX:(if E k then bk else w.heap[k]?).isSome=bj:=g
    rw[aph s]at fX;cases fX
   ·rw[g.2]at s;cases s
 refine(hI f hf c' w (λb=>β (KL m b)) X vals q1 q2 q3 (apc _) rfl rfl qV s8 (λi i1 i2=>(ff i i1 i2).congr λb l=>?_) (λx F b l=>?_)).mono λe Z eh=>?_
 ·rw[du _ (apD i2) b l];rfl
 ·rw[du x F b l];rfl
 obtain⟨v,H,X',rfl,L,hv,-⟩:=eh;have vH:∀k q,E k=aj->w.heap[k]? =a6 q->Z.heap[k]? =a6 q:=λk q g hq=>L.kp.obj k q (by show(if E k then bk else w.heap[k]?)=a6 q;rw[g];exact hq)
 obtain⟨p1,e1,p2⟩:H 0=β 0/\∃e',Z.shape? (β 0)=a6 (e',M.size):=by
  have:=L.gh _ (apg.2 rfl);obtain⟨r1,Ru,r2⟩:=I8 this;have r3:β 0=H 0:=by injection r1
  exact⟨r3.symm,Ru,by rw[r3];rw[aqw]at r2;exact r2⟩
 have n0:([a6 B,J]:ai (bF (ai D))).getD 0 bk=a6 B:=rfl;have n1:([a6 B,J]:ai (bF (ai D))).getD 1 bk=J:=rfl;have ajf:J.isSome=bj->(ob.isSome=bj/\H 1=β (m+1))\/w.heap.size<=H 1:=λK=>by
  obtain bZ|Kt:=apy (H 1) w.heap.size
  ·left
   have s:E (H 1)=bj:=by
    cases s:E (H 1)with
    |true=>rfl
    |false=>exact api rfl (L.kp.off (H 1) (.inl (by show(if E (H 1)then bk else w.heap[H 1]?).isSome=bj;rw[s,ap9 bZ];rfl)) 1 K)
   obtain e|e:=g_ _ s
   ·rw[<-p1]at e
    exact api (L.inj 1 0 K rfl e) za
   ·exact e
  ·exact .inr Kt
 have kXX:∀k,X k->E k=aj->X' k:=λk V Q=>L.kp.x k ⟨V,Q⟩
 have Sf:∀k<m,E (β (k+1))=aj:=λk g=>by
  cases s:E (β (k+1))with
  |false=>rfl
  |true=>
   exfalso;obtain e|⟨K,e⟩:=g_ _ s
   ·have:=h.inj _ _ (T k g) O e;omega
   ·have:=h.inj _ _ (T k g) (N K) e;omega
 have low:∀a u,w.cell? a=a6 u->¬X a.block->Z.cell? a=a6 u/\¬(X' a.block/\(X a.block\/(J.isSome=bj/\a.block=H 1))):=λa u ha F=>by
  have yq:E a.block=aj:=by
   cases s:E a.block with
   |false=>rfl
   |true=>exact api (ahV _ s) F
  have bZ:=yd ha;refine⟨?_,λhX=>?_⟩
  ·have e2:Z.heap[a.block]? =w.heap[a.block]? :=by rw[vH a.block _ yq (ap9 bZ),ap9 bZ]
   rw[ma e2];exact ha
  ·obtain hX|⟨K,hX⟩:=hX.2
   ·exact F hX
   ·rcases ajf K with⟨V,Q⟩|Q
    ·exact F (by rw[hX,Q];exact ahV _ (ahe V))
    ·omega
 have back:∀a u,Z.cell? a=a6 u->¬X' a.block->Z.cell? a=a6 u/\¬(X' a.block/\(X a.block\/(J.isSome=bj/\a.block=H 1))):=λa u ha F=>⟨ha,λhX=>F hX.1⟩
 let β2:aw->aw:=λb=>if b=m+1 then H 1 else β b
 have R:β2 (m+1)=H 1:=aph rfl;have A:∀b,b≠m+1->β2 b=β b:=λb l=>ape l
 have shp:∀b<m+1,∀e n,w.shape? (β b)=a6 (e,n)->∃e',Z.shape? (β b)=a6 (e',n):=λb l e n s=>by
  cases b with
  |zero=>
   rw[sh0]at s;simp only[eE,gu]at s;exact⟨e1,by rw[<-s.2];exact p2⟩
  |succ k=>
   obtain⟨U,fr,G,z⟩:=ju s;exact⟨e,by rw[<-z];exact cw (vH _ _ (Sf k za) G)⟩
 have Y:∀b,(b=0\/b=1)->β2 (KL m b)=H b:=λb l=>by
  obtain rfl|rfl:=l
  ·rw[m0,A 0 za,p1]
  ·rw[m1,R]
 refine⟨v,β2,λk=>X' k/\(X k\/(J.isSome=bj/\k=H 1)),rfl,?_,.c (.p ((hv.pure hd).mono back)),λb l=>by rw[hd]at l;cases l⟩
 refine⟨q6.symm,rfl,λt=>.c (.p (.any _)),λt b l=>by simp[D.refs]at l,λb cs l=>?_,λb cs l x F b' I=>?_,λb b' l I e=>?_,λk g=>⟨L.F k g,.inl (h.F k g)⟩,h.uZ,λk g=>L.oH k g.1,⟨L.below.uX,L.below.nc,apm h.below.sz L.below.sz⟩,λp S=>?_,λp S b l=>?_,⟨λk q g=>?_,λk g=>?_,λk g=>apV (h.kp.lt k g) L.below.sz,λk g b l=>?_⟩⟩
 ·rcases yg l with⟨rfl,rfl⟩|⟨k,g,rfl,rfl⟩|⟨rfl,r⟩
  ·obtain⟨G,z,U,e,W,g4,g5⟩:=L.blk 0 B n0
   rw[p1]at G z W;refine⟨G,⟨z,.inl a2⟩,U,e,W,by rw[apq];exact g4,?_⟩
   rw[apq];refine LQ.aiI (g5.mono λu x F hq=>?_)
   exact(hq.FZ back λb _ e n s=>⟨e,s⟩).congr λb l=>Y b (.inr (amm x F b l))
  ·rw[hm]at g
   obtain⟨G,z,U,e,W,g4,g5⟩:=h.blk (k+1) _ (bm g);have mr:∀x∈o.getD k [],x.ref=bk:=hXs _ (by rw[apf,apj (by omega:k<o.length)];exact apD _)
   rw[A (k+1) za]
   exact⟨G,⟨kXX _ z (Sf k g),.inl z⟩,U,e,vH _ _ (Sf k g) W,g4,((g5.pure mr).mono low).lq⟩
  ·rw[hm,R]
   obtain⟨G,z,U,e,W,g4,g5⟩:=L.blk 1 cs (n1.trans r);exact⟨G,⟨z,.inr ⟨by rw[r];rfl,rfl⟩⟩,U,e,W,g4,((g5.pure (ams cs r)).mono back).lq⟩
 ·rcases yg l with⟨rfl,rfl⟩|⟨k,g,rfl,rfl⟩|⟨rfl,r⟩
  ·rw[apN]at F
   obtain⟨y,hy,rfl⟩:=F;rw[v_]at I;obtain⟨b2,xT,rfl⟩:=arA.1 I;obtain rfl:=amm y hy b2 xT;obtain⟨-,z⟩:=L.qS 0 B n0 y hy 1 xT;exact⟨rfl,by show((rh _ o J).getD (m+1) bk).isSome=bj;rw[bl];exact z⟩
  ·have mr:∀x∈o.getD k [],x.ref=bk:=hXs _ (by rw[apf,apj g];exact apD _)
   rw[mr x F]at I;cases I
  ·rw[ams cs r x F]at I;cases I
 ·have Rk:∀{b},((rh (B.map (D.fD (KL m))) o J).getD b bk).isSome=bj->(b<m+1/\((rh (C.map (D.fD (KL m))) o ob).getD b bk).isSome=bj)\/(b=m+1/\J.isSome=bj):=λ{b} l=>by
   obtain⟨cs,r⟩:=apn.1 l;rcases yg r with⟨rfl,-⟩|⟨k,g,rfl,-⟩|⟨rfl,K⟩
   ·exact .inl ⟨by omega,O⟩
   ·exact .inl ⟨by omega,T k za⟩
   ·exact .inr ⟨by rw[hm],by rw[K];rfl⟩
  have ne:∀{b},b<m+1->((rh (C.map (D.fD (KL m))) o ob).getD b bk).isSome=bj->J.isSome=bj->β b≠H 1:=λ{b} V Q h3 e=>by
   rcases ajf h3 with⟨G,z⟩|z
   ·rw[z]at e
    have:=h.inj _ _ Q (N G) e;omega
   ·obtain⟨cs,r⟩:=apn.1 Q
    have:=h.oH _ (h.blk b cs r).2.1;omega
  rcases Rk l with⟨V,Q⟩|⟨rfl,Q⟩<;>rcases Rk I with⟨h3,h4⟩|⟨rfl,h4⟩
  ·rw[A b za,A b' za]at e
   exact h.inj _ _ Q h4 e
  ·rw[A b za,R]at e
   exact api e (ne V Q h4)
  ·rw[A b' za,R]at e
   exact api e.symm (ne h3 h4 Q)
  ·rfl
 ·have hr:=h.gh p S
  refine(hr.FZ low λb l=>shp b ?_).congr λb l=>A b ?_
  ·exact apV (h.i_ p S b l).1 q4
  ·have:=(h.i_ p S b l).1
   omega
 ·obtain⟨G,z⟩:=h.i_ p S b l
  refine⟨G,?_⟩;have bZ:b<m+1:=za
  cases b with
  |zero=>rfl
  |succ k=>show((rh _ o J).getD (k+1) bk).isSome=bj;rw[bm za];rfl
 ·have G:=h.kp.obj k q g
  refine vH k q ?_ G;cases s:E k with
  |false=>rfl
  |true=>
   exfalso;obtain e|⟨K,e⟩:=g_ k s
   ·exact h.kp.off k (.inl (by rw[g];rfl)) 0 O e.symm
   ·exact h.kp.off k (.inl (by rw[g];rfl)) (m+1) (N K) e.symm
 ·have yq:E k=aj:=by
   cases s:E k with
   |false=>rfl
   |true=>
    exfalso;obtain e|⟨K,e⟩:=g_ k s
    ·exact h.kp.off k (.inr g) 0 O e.symm
    ·exact h.kp.off k (.inr g) (m+1) (N K) e.symm
  exact⟨kXX k (h.kp.x k g) yq,.inl (h.kp.x k g)⟩
 ·obtain⟨cs,r⟩:=apn.1 l
  rcases yg r with⟨rfl,-⟩|⟨j,hj,rfl,-⟩|⟨rfl,K⟩
  ·rw[A 0 za];exact h.kp.off k g 0 O
  ·rw[A (j+1) za];exact h.kp.off k g (j+1) (T j za)
  ·rw[hm,R]
   intro e;rcases ajf (by rw[K];rfl)with⟨G,z⟩|z
   ·exact h.kp.off k g (m+1) (N G) (by rw[<-z];exact e)
   ·have:=h.kp.below g
    omega
def afy{α:Type}(f:ai (cY×cY)->α)(o:bF (D×ai (bF (ai D))×ai aw×ai (Item P Good)×ai (cY×cY))):bF (D×ai (bF (ai D))×ai aw×α):=o.map λo=>(o.1,o.2.1,o.2.2.1,f o.2.2.2.2)
def kh.xH(l:aa Good)(A:sC P Good)(fn:kf){ns':ai aw}(a:ai (Item P Good))
  (h:afy yV (wK P (mX P b) f E fn p M H (.auto A::a))=a6 (q,O,ns',said a):=by kernel_rfl) (d:afy IP (wK P (mX P b) f E fn p M H (.auto A::a))=afy BJ (wK P (mX P b) f E fn p M H (.auto A::a)):=by kernel_rfl):
  kh P Good fn f p M H q O ns':=by
 unfold afy at h d;cases c:wK P (mX P b) f E fn p M H (.auto A::a)with
 |none=>rw[c]at h;cases h
 |some o=>
  obtain⟨d1,t,ro,args,r⟩:=o;rw[c]at h d;simp only[dm,zIq,zJq,true_and]at h d;obtain⟨rfl,rfl,rfl,h⟩:=h;exact n_ (λro n k s a e g tr' m i j=>iK l b E n k s a e g tr' m i j) _ _ _ _ _ _ _ _ _ _ _ _ c (w8 h d)
def kh.same{fn:kf}{mx:aw}{args:ai D}{k j i g:ai (bF (ai D))}{ns ns':ai aw}{d:D}(h:kh P Good fn mx args k ns d i ns')(o:∀b,k.getD b bk=j.getD b bk)(n:∀b,i.getD b bk=g.getD b bk):kh P Good fn mx args j ns d g ns':=by
 have I:(λb=>k.getD b bk)=λb=>j.getD b bk:=funext o
 have H:(λb=>i.getD b bk)=λb=>g.getD b bk:=funext n
 intro f B c w β X vals A z y x u t m s r a;rw[<-I]at m;refine(h f B c w β X vals A z y x u t m s r λd C b l=>?_).mono λe K G=>?_
 rw[o];exact a d C b l;obtain⟨v,q,J,rfl,p,F,E⟩:=G;rw[H]at p;exact⟨v,q,J,rfl,p,F,λb l=>by rw[<-n];exact E b l⟩
def kh.pick{fn:kf}{args q:ai D}{blks Bo:ai (bF (ai D))}{ns ns1:ai aw}{d:D}{ob:bF (ai D)}{N:aw}(h:kh P Good fn 1 args blks ns d Bo ns1)
  (E:Bo.getD 0 bk=a6 (q.map (D.fD λb=>if b=1 then N else b))) (C:Bo.getD N bk=ob) (hN0:N≠0) (B:∀x∈q,∀b,x.ref=a6 b->b=1) (m:∀cs,ob=a6 cs->∀x∈cs,x.ref=bk) (J:d.refs=[]):
  kh P Good fn 1 args blks ns d [a6 q,ob] [0]:=by
 intro f hf c w β X vals Z Y W V U T S R Q z;refine(h f hf c w β X vals Z Y W V U T S R Q z).mono λe w' eh=>?_
 obtain⟨v,L,X',rfl,g,hv,-⟩:=eh
 let ρ:aw->aw:=λb=>if b=1 then N else b
 have I:ρ 0=0:=rfl;have H:ρ 1=N:=rfl;have G:∀{b cs},([a6 q,ob]:ai (bF (ai D))).getD b bk=a6 cs->(Bo.getD (ρ b) bk).isSome=bj/\(b=0\/b=1):=λ{b cs} a=>by
  rcases jI a with⟨rfl,-⟩|⟨rfl,i⟩
  exact⟨by rw[I,E];rfl,.inl rfl⟩;exact⟨by rw[H,C,i];rfl,.inr rfl⟩
 refine⟨v,λb=>L (ρ b),X',rfl,⟨g.defers,g.size,λt=>.c (.p (.any _)),λt b a=>by simp[D.refs]at a,λb cs a=>?_,λb cs a x A K l=>?_,λb K a l e=>?_,g.F,g.uZ,g.oH,g.below,λp r=>?_,λp r b a=>?_,⟨g.kp.obj,g.kp.x,g.kp.lt,λk hk b a=>?_⟩⟩,.c (.p (hv.pure J)),λb a=>by rw[J]at a;cases a⟩;rcases jI a with⟨rfl,rfl⟩|⟨rfl,i⟩
 obtain⟨o,j,y,e,F,u,s⟩:=g.blk 0 _ E;rw[apq]at u s;exact⟨o,j,y,e,F,u,s.Gw⟩;obtain⟨o,j,y,e,F,u,s⟩:=g.blk N cs (C.trans i);exact⟨o,j,y,e,F,u,(s.pure (m cs i)).lq⟩;rcases jI a with⟨rfl,rfl⟩|⟨rfl,i⟩
 obtain rfl:=B x A K l;obtain⟨-,j⟩:=g.qS 0 _ E (x.fD ρ) (ard A) N (by rw[v_,l];rfl);have n:(Bo.getD N bk).isSome=bj:=j;rw[C]at n;exact⟨rfl,n⟩;rw[m cs i x A]at l;cases l;obtain⟨c1,e1⟩:=apn.1 a;obtain⟨c2,e2⟩:=apn.1 l;obtain⟨a1,O⟩:=G e1;obtain⟨a2,M⟩:=G e2;have:=g.inj _ _ a1 a2 e;obtain rfl|rfl:=O<;>obtain rfl|rfl:=M<;>first|rfl|(rw[I,H]at this;omega)
 refine(g.gh p r).congr λb a=>?_
 have:=(g.i_ p r b a).1;obtain rfl:b=0:=za
 rfl;obtain⟨o,j⟩:=g.i_ p r b a;obtain rfl:b=0:=za
 exact⟨o,rfl⟩;obtain⟨cs,jz⟩:=apn.1 a;exact g.kp.off k hk _ (G jz).1
def afA{α:Type}(f:ai (cY×cY)->α)(o:bF (iw×ai D×ai (bF (ai D))×ai (Item P Good)×ai (cY×cY))):bF (iw×ai D×ai (bF (ai D))×α):=o.map λo=>(o.1,o.2.1,o.2.2.1,f o.2.2.2.2)
def af.bK(j:aa Good)(A:sC P Good){ro:ai aw}{m:aw}{k:Code}{s:St}{l:ai (aw×D)}{bl:ai (aw×ai D)}{e:iw}(i:y6 s.tmps=f)(n:ai (Item P Good))
  (h:afA yV (rn P m ro b k s (.auto A::n) (l.map (·.1)) (bl.map (·.1)) E)=a6 (e,l.map (·.2),bl.map (λp=>a6 p.2),said n):=by kernel_rfl)
  (c:afA IP (rn P m ro b k s (.auto A::n) (l.map (·.1)) (bl.map (·.1)) E)=afA BJ (rn P m ro b k s (.auto A::n) (l.map (·.1)) (bl.map (·.1)) E):=by kernel_rfl):af P Good b k s e (lay f l bl E):=by
 unfold afA at h c;cases a:rn P m ro b k s (.auto A::n) (l.map (·.1)) (bl.map (·.1)) E with
 |none=>rw[a]at h;cases h
 |some o=>
  obtain⟨z,v,B,t,u⟩:=o;rw[a]at h c;simp only[dm,zIq,zJq,true_and]at h c;obtain⟨rfl,rfl,rfl,h⟩:=h;unfold rn at a;split at a;rename_i y s1 x w g;split at a;rename_i ns;simp only[zIq,zJq,sj]at a;obtain⟨rfl,r,q,rfl,rfl⟩:=a;have d:=iK j m ro b k s (.auto A::n) _ s1 _ _ g (w8 h c);exact⟨s1,_,_,_,d,ns,rT (d.1.trans i) r q⟩;cases a;cases a
namespace Tw
open Go Go.RowKit Go.Proofs
open fb
variable {G:bn->Prop}
def Spec.loose{P:cp}{f:c7}{args:ai D}{n:aw}{xs:ai D}(h:Spec P G f args (yI n bj xs)):Spec P G f args (yI n aj xs):=λw F a i g d=>
 (h w F a i g d).mono λe k j=>by obtain⟨v,rfl,b,c⟩:=j;exact⟨v,rfl,b.loose,c⟩
variable {B:ai As} {I:ai cA} (a:aa G) {c:ai Gp} {d:Lk} {e:ai Tn} {j:As} {t:cA} {u:aM}
def Xr(h:y6 (t::I)<=1000):0<y6 (t::I)/\y6 ([]:ai D)=0*1/\y6 ((t::I).map int)=y6 (t::I)*1/\0+y6 (t::I)<=2^62/\(0+y6 (t::I))*8<=2^47:=by refine⟨by simp,rfl,by simp,by omega,by omega⟩
def Jm(ms:ai cA)(h:y6 ms<=1000):xf G 146 [sZ ms] (sZ ms):=by
 cases ms with
 |nil=>exact Spec.loose (Fb.DV a)
 |cons m ms=>
  have c:=Xr h;have b:xf G 146 [sZ (m::ms)] (yI (0+y6 (m::ms)) aj (((m::ms).map int).take ((0+y6 (m::ms))*1))):=
   Spec.y a (az []) func146 [] [.er 6 (sZ (m::ms)),yu c]
  have e:D.row (0+y6 (m::ms)) aj (((m::ms).map int).take ((0+y6 (m::ms))*1))=sZ (m::ms):=by rw[aqa,aqx,apA zb];rfl
  rw[e]at b;exact b
def Spec.abE{P:cp}{f:c7}{args:ai D}{n:aw}{xs rest:ai D}(h:Spec P G f args (.agg (.row n bj xs::rest))):Spec P G f args (.agg (.row n aj xs::rest)):=λw F a k j g=>
 (h w F a k j g).mono λe m l=>by
  obtain⟨v,rfl,b,d⟩:=l;refine⟨v,rfl,?_,d⟩;cases b with
  |agg us _ c b=>
   refine .agg us _ c λi i1 i2=>?_
   have:=b i i1 (by simpa using i2);cases i with
   |zero=>exact b9.loose this
   |succ i=>exact this
def Cn(G:bn->Prop)(x:ai cl):Prop:=xf G 147 [au x] (au x)
def CnP(G:bn->Prop)(b:Pl):Prop:=Cn G b.c/\Cn G b.s/\Cn G b.x/\Cn G b.y
def ai'{x:ai cl}(ok:j7 u)(h:aH b u x)(t:b<=NB):Cn G x:=Jn a (apm (h.len ok) za) (h.bt.fit t)
def cnI(b:aa G):(l:ai (ai cl))->(∀r∈l,Cn G r)->ai (Item zZq G)
 |[],_=>[]
 |r::l,h=>z3 (h r (apw ..))::cnI b l λx a=>h x (apX _ a)
def plI(c:aa G):(l:ai Pl)->(∀b∈l,CnP G b)->ai (Item zZq G)
 |[],_=>[]
 |b::l,h=>z3 (h b (apw ..)).1:: z3 (h b (apw ..)).2.1:: z3 (h b (apw ..)).2.2.1:: z3 (h b (apw ..)).2.2.2::plI c l λx a=>h x (apX _ a)
def agw(n:2<=y6 j.bs)(m:y6 j.bs<=6)(i:y6 j.t<=4)(u:y6 j.ms<=1000)(s:∀r∈j.t,Cn G r)(l:∀b∈j.bs,CnP G b):xf G 82 [qx j] (qx j):=by
 obtain⟨t,p,ms⟩:=j;have o:=Jm a ms u;obtain rfl|i:=abN i
 have key:xf G 82 [qx ⟨[],p,ms⟩] (y4 (yI 0 bj []::[aQ Hg p,sZ ms])):=by rcases BX n m with⟨d,c,rfl⟩|⟨d,c,e,rfl⟩|⟨d,c,e,g,rfl⟩|⟨d,c,e,g,f,rfl⟩|⟨d,c,e,g,f,v,rfl⟩<;>exact Spec.y a (az [146,147]) func82 [11] (z3 o::plI a _ l) zk zk
 exact Spec.abE key;rcases i with⟨h,rfl⟩|⟨h,k,rfl⟩|⟨h,k,q,rfl⟩|⟨h,k,q,w,rfl⟩<;>rcases BX n m with⟨d,c,rfl⟩|⟨d,c,e,rfl⟩|⟨d,c,e,g,rfl⟩|⟨d,c,e,g,f,rfl⟩|⟨d,c,e,g,f,v,rfl⟩<;>exact Spec.y a (az [146,147]) func82 [11] (z3 o::(cnI a _ s++plI a _ l)) zk zk
def vu(a:As):y6 (Bm a)=3:=rfl
def wC(l:Lk)(xs:ai Tn)(gs:ai Gp)(a:D):ai D:=yJ l++[aQ Y9 xs,aQ kg gs,yT (.func (.func 81) #[] #[]),bool aj,a]
def wO(N:aw):ai As->D
 |[]=>yI 0 bj []
 |o::os=>.bG N (o::os).length 3
def KI:ai As->bF (ai D)
 |[]=>bk
 |o::os=>a6 ((o::os).flatMap Bm)
abbrev GH(G:bn->Prop)(l:Lk)(xs:ai Tn)(gs:ai Gp)(a:As)(o:ai As)(d:D)(b:ai As):Prop:=
 kh zZq G f35 1 [y0 0 0,qx a] [a6 (wC l xs gs (wO 1 o)),KI o] [0] d [a6 (wC l xs gs (wO 1 b)),KI b] [0]
def tR{N:aw}:∀x∈wC d e c (wO N B),∀b,x.ref=a6 b->b=N:=by
 intro x l b a;simp only[wC,yJ,pa,lp,b4,bI,or_false]at l;obtain rfl|rfl|rfl|rfl|rfl|rfl|rfl|rfl|rfl:=l
 cases a;cases a;cases a;cases a;cases a;cases a;cases a;cases a;cases B with
 |nil=>cases a
 |cons y o=>simp only[wO,D.ref,eE]at a;exact a.symm
def td:∀cs,KI B=a6 cs->∀x∈cs,x.ref=bk:=by
 intro cs c x b;cases B with
 |nil=>cases c
 |cons y d=>
  simp only[KI,eE]at c;subst c;rw[aq9]at b;obtain⟨a,-,b⟩:=b;simp only[Bm,b4,bI,or_false]at b;obtain rfl|rfl|rfl:=b<;>rfl
def xi{ρ:aw->aw}:(wC d e c (wO 1 B)).map (D.fD ρ)=wC d e c (wO (ρ 1) B):=by cases B<;>rfl
def agO(h:y6 B<=1000):(Bm j).all D.bV=bj/\0<1/\y6 (B.flatMap Bm)=y6 B*3/\y6 (Bm j)=1*3/\y6 B+1<=2^62/\(y6 B+1)*72<=2^47:=by rw[dq vu];exact⟨rfl,by omega,rfl,rfl,by omega,by omega⟩
def Vp(h:b=f):(zNq b==zNq f)=bj:=gI h
def V3(o:ai As)(h:y6 o<=1000)(gs:y6 j.ms=y6 c)(f:xf G 82 [qx j] (qx j)):GH G d e c j o xc (o++[j]):=by
 cases o with
 |nil=>
  have l:kh zZq G f35 1 [y0 0 0,qx j] [a6 (wC d e c (yI 0 bj [])),bk] [0] xc [a6 (wC d e c (.bG 3 1 3)),bk,a6 (Bm j),a6 (Bm j)] [0,0]:=
   kh.xH a (az [82]) _ (E:=[]) (b:=60) [.eb 21 (Vp gs),z3 f]
  exact l.pick (N:=3) (ob:=KI [j]) (by rw[xi];rfl) (by simp[KI]) za tR td rfl
 |cons y b=>
  have g:=agO (j:=j) h;have l:kh zZq G f35 1 [y0 0 0,qx j] [a6 (wC d e c (.bG 1 (y::b).length 3)),a6 ((y::b).flatMap Bm)] [0] xc [a6 (wC d e c (.bG 1 (y6 (y::b)+1) 3)),a6 ((y::b).flatMap Bm++Bm j),a6 (Bm j)] [0,0]:=
   kh.xH a (az [82]) _ (E:=[]) (b:=60) [.eb 21 (Vp gs),z3 f,yu g]
  refine l.pick (N:=1) (ob:=KI (y::b++[j])) ?_ ?_ za tR td rfl;rw[xi];simp[wO];simp[KI]
def w5(s:uU):y6 (adz s)=3:=rfl
instance:ka uU:=⟨⟨[],[],0⟩⟩
def wB(l:Lk)(xs:ai Tn)(gs:ai Gp)(a:As)(g:Gp):ai As->ai (aw×ai D)
 |[]=>[(0,wC l xs gs (yI 0 bj [])),(1,Bm a),(2,kg g)]
 |o::os=>[(0,wC l xs gs (.bG 3 (o::os).length 3)),(1,Bm a),(2,kg g),(3,(o::os).flatMap Bm)]
def wL(l:Lk)(xs:ai Tn)(gs:ai Gp)(a:As)(g:Gp)(k:aw)(ss:ai uU)(o:ai As)(i:aw):St:=
 lay 85 [(0,y0 0 0),(3,y0 1 0),(5,nat k),(6,y0 2 0),(56,aQ adz ss),(57,nat (y6 ss)),(58,nat i)] (wB l xs gs a g o) [0]
def wE(l:Lk)(xs:ai Tn)(gs:ai Gp)(b:ai (aw×D)):ai As->St
 |[]=>lay 85 b [(0,wC l xs gs (yI 0 bj []))] [0]
 |o::os=>lay 85 b [(0,wC l xs gs (.bG 3 (o::os).length 3)),(3,(o::os).flatMap Bm)] [0]
abbrev Sub(G:bn->Prop)(l:Lk)(xs:ai Tn)(gs:ai Gp)(a:As)(g:Gp)(a2:As)(o:ai As)(d:D)(o':ai As):Prop:=
 kh zZq G f35 3 [y0 0 0,qx a2] (rh (wC l xs gs (wO 3 o)) [Bm a,kg g] (KI o)) [0] d (rh (wC l xs gs (wO 3 o')) [Bm a,kg g] (KI o')) [0]
def GH.sub{l:Lk}{xs:ai Tn}{gs:ai Gp}{a2:As}{o o':ai As}(h:GH G l xs gs a2 o q o')(j:q.refs=[])(a:As)(g:Gp):Sub G l xs gs a g a2 o q o':=by
 have k:=kh.frame h tR tR td td (λx c b f=>?_) j [Bm a,kg g] (λcs e x c=>?_);rw[xi,xi]at k;exact k;simp only[b4,bI,or_false]at c;obtain rfl|rfl:=c
 simpa [D.refs]using f;simp[qx,Bm,D.refs,D.ref,aQ,sZ]at f;simp only[b4,bI,or_false]at e;obtain rfl|rfl:=e
 simp only[Bm,b4,bI,or_false]at c;obtain rfl|rfl|rfl:=c<;>rfl;simp only[kg,b4,bI,or_false]at c;obtain rfl|rfl|rfl|rfl:=c<;>rfl
def JL(l:ai (bF (ai D)))(b:aw):y7 l b bk=(l++[bk]).getD b bk:=by
 simp only[bP];obtain h|h|h:=aq5 b (y6 l)
 rw[aqe h];subst h;rw[apL (apc _),apS (apc _)];simp;rw[apL za,apL zT]
section
variable {l:Lk} {xs:ai Tn} {gs:ai Gp} {a a2:As} {g:Gp} {k i:aw} {ss:ai uU} {o o':ai As}
def ak2(f:aa G)(b:i<y6 ss)(p:y6 ss<=1000)(h:xf G 85 [qx a,GpD g,Q6 (y7 ss i bc)] (qx a2))(W:Sub G l xs gs a g a2 o xc o'):
  af zZq G 1 (ae f35 0) (wL l xs gs a g k ss o i) y3 (wL l xs gs a g k ss o' (i+1)):=by
 have d:=ay w5 za b;have c:=aq w5 za b;have e:=fO w5 b bc;cases o with
 |nil=>cases o' with
  |nil=>exact af.bK f (az [85,35]) (ro:=[2013010]) (m:=60) (aB ..) [.eb 59 (ah b),yu d,yu c,.eq 61 e,z3 h,.vr func35 W,.eq 84 (bL (ax b za))]
  |cons y n=>exact af.bK f (az [85,35]) (ro:=[2013010]) (m:=60) (aB ..) [.eb 59 (ah b),yu d,yu c,.eq 61 e,z3 h,.vr func35 W,.eq 84 (bL (ax b za))]
 |cons x q=>
  have j:=kh.same W (JL _) (λ_=>rfl);cases o' with
  |nil=>exact af.bK f (az [85,35]) (ro:=[2013010]) (m:=60) (aB ..) [.eb 59 (ah b),yu d,yu c,.eq 61 e,z3 h,.vr func35 j,.eq 84 (bL (ax b za))]
  |cons y n=>exact af.bK f (az [85,35]) (ro:=[2013010]) (m:=60) (aB ..) [.eb 59 (ah b),yu d,yu c,.eq 61 e,z3 h,.vr func35 j,.eq 84 (bL (ax b za))]
def ah7(f:aa G)(b:i<y6 ss)(p:y6 ss<=1000)(h:xf G 85 [qx a,GpD g,Q6 (y7 ss i bc)] (qx a2))(W:Sub G l xs gs a g a2 o (lY 15) o'):
  af zZq G 1 (ae f35 0) (wL l xs gs a g k ss o i) .ret (wE l xs gs [(4,lY 15)] o'):=by
 have d:=ay w5 za b;have c:=aq w5 za b;have e:=fO w5 b bc;cases o with
 |nil=>cases o' with
  |nil=>exact af.bK f (az [85,35]) (ro:=[2013010]) (m:=60) (aB ..) [.eb 59 (ah b),yu d,yu c,.eq 61 e,z3 h,.vr func35 W]
  |cons y n=>exact af.bK f (az [85,35]) (ro:=[2013010]) (m:=60) (aB ..) [.eb 59 (ah b),yu d,yu c,.eq 61 e,z3 h,.vr func35 W]
 |cons x q=>
  have j:=kh.same W (JL _) (λ_=>rfl);cases o' with
  |nil=>exact af.bK f (az [85,35]) (ro:=[2013010]) (m:=60) (aB ..) [.eb 59 (ah b),yu d,yu c,.eq 61 e,z3 h,.vr func35 j]
  |cons y n=>exact af.bK f (az [85,35]) (ro:=[2013010]) (m:=60) (aB ..) [.eb 59 (ah b),yu d,yu c,.eq 61 e,z3 h,.vr func35 j]
def ah8(b:aa G):af zZq G 1 (ae f35 0) (wL l xs gs a g k ss o (y6 ss)) (y5 0) (wE l xs gs [] o):=by cases o<;>exact af.r b [.eb 59 (av (apc (y6 ss)))]
end
def rM(xs:ai Tn)(g:Gp):Tn:=if g.kind=0 then y7 xs g.dr ⟨0,aj⟩else⟨0,aj⟩
def afZ(h:b≠0):(zNq b !=zNq 0)=bj:=zT
variable {K:ai uU} {Y:b5} {i:Gp} {k:Type} {z:aw}
def OF(o:i.kind=0->i.dr<y6 e)(b:q=yI 0 bj []\/∃v,q=yT v):
  iy zZq G f84 [y0 0 0,GpD i] (wC d e c q) (J5 (rM e i)) (wC d e c q):=by
 by_cases h:i.kind=0;have z:=o h;obtain⟨k,p,n,g⟩:=i;have h:k=0:=h;subst h;have l:rM e ⟨0,p,n,g⟩=y7 e g ⟨0,aj⟩:=rfl;rw[l];have j:=ay NX za z;have gs:=aq NX za z;have f:=fO NX z ⟨0,aj⟩;obtain rfl|⟨v,rfl⟩:=b<;>exact iy.bK a (az []) _ (ro:=[]) (m:=60) [.er 14 (nat g),yu j,yu gs,.eq 16 f];have l:rM e i=⟨0,aj⟩:=ape h;rw[l];obtain rfl|⟨v,rfl⟩:=b<;>exact iy.bK a (az []) _ (ro:=[]) (m:=60) [.eb 7 (afZ h)]
def Hy(g:i.kind=0->i.dr<y6 e)(f:q=yI 0 bj []\/∃b n k,q=.bG b n k):
  ∀vs:ai b3,y6 vs=y6 (wC d e c q)->iy zZq G f84 [y0 0 0,GpD i] (qe (wC d e c q) vs) (J5 (rM e i)) (qe (wC d e c q) vs):=by
 intro vs z
 match vs,z with
 |[v0,v1,v2,j,v4,xs,v6,h,l],_=>
  obtain rfl|⟨b,n,k,rfl⟩:=f
  exact OF a g (y1 rfl);exact OF a g (y2 ⟨l,rfl⟩)
def As.put(a:As)(g:Gp)(s:uU):As:=
 match g.bs,s.ps with
 |[b],[p]=>a.BK b p s.T s.mode
 |[b,c],[p,q]=>a.xC b c p q s.T s.mode
 |_,_=>a
def qv(f:As->ai As->ai As×b5)(a:As)(g:Gp):ai uU->ai As->ai As×b5
 |[],o=>(o,bj)
 |s::ss,o=>match f (a.put g s) o with
  |(o1,bj)=>qv f a g ss o1
  |(o1,aj)=>(o1,aj)
noncomputable def pG(l:Lk)(xs:ai Tn):ai Gp->As->ai As->ai As×b5
 |[],a,o=>(o++[a],bj)
 |g::gs,a,o=>match iX l a g (rM xs g)with
  |none=>(o,aj)
  |some ss=>qv (pG l xs gs) a g ss o
def O6:b5->D
 |true=>xc
 |false=>lY 15
def acW(l:Lk)(xs:ai Tn)(gs:ai Gp):ai As×b5->iw×St
 |(o,bj)=>(y5 0,wE l xs gs [] o)
 |(o,aj)=>(.ret,wE l xs gs [(4,lY 15)] o)
def agl(l:Lk)(xs:ai Tn)(gs:ai Gp)(r:ai As×b5):(acW l xs gs r).1≠.normal:=by obtain⟨o,b⟩:=r;cases b<;>(intro h;cases h)
def GH.err{a:ai As}(h:GH G d e c j B (O6 Y) a)(a0:As)(g:Gp):Sub G d e c a0 g j B (O6 Y) a:=h.sub (by cases Y<;>rfl) a0 g
def AI{l:ai k}(h:b<y6 l)(d:k):l.drop b=y7 l b d::l.drop (b+1):=by rw[aqr h];congr 1;rw[apf,apj h];rfl
def V0{B:As->ai As->ai As×b5}(ss:y6 K<=1000)
  (sub:∀s∈K,xf G 85 [qx j,GpD i,Q6 s] (qx (j.put i s))/\∀o,y6 o+f<=z->GH G d e c (j.put i s) o (O6 (B (j.put i s) o).2) (B (j.put i s) o).1/\(B (j.put i s) o).1.length<=y6 o+f)
  (o:ai As) (w:y6 o+y6 K*f<=z):
  aI zZq G 85 1 (.loop (ae f35 0)) (wL d e c j i b K o 0) (acW d e c (qv B j i K o)).1 (acW d e c (qv B j i K o)).2:=by
 have fin:∀r,r=qv B j i K o->aI zZq G 85 1 (.loop (ae f35 0)) (wL d e c j i b K o 0) (acW d e c r).1 (acW d e c r).2:=by
  intro r t;refine aI.MJ (ι:=aw×ai As) (λp=>p.1<=y6 K/\qv B j i (K.drop p.1) p.2=r/\y6 p.2+(y6 K-p.1)*f<=z) (λp=>wL d e c j i b K p.2 p.1) (λp=>y6 K-p.1) (λp=>aB ..) (agl d e c r) (λp u=>?_) (0,o) ⟨apJ _,by rw[aqD];exact t.symm,by simpa using w⟩;obtain⟨l,o⟩:=p;obtain⟨m,g,x⟩:=u;simp only at m g x;obtain k|k:=apy l (y6 K)
  have q:y7 K l bc∈K:=aA k _;obtain⟨n,hw⟩:=sub _ q;have hm:(y6 K-l)*f=(y6 K-(l+1))*f+f:=by rw[show y6 K-l=(y6 K-(l+1))+1 by omega,aqk]
  obtain⟨M,h⟩:=hw o za;rw[AI k bc]at g;simp only[qv]at g;cases v:B (j.put i (y7 K l bc)) o with
  |mk o1 y=>
   rw[v]at M h g;cases y with
   |true=>
    refine y1 ⟨(l+1,o1),⟨k,g,?_⟩,?_,(ak2 a k ss n (M.err j i)).YT⟩;simp only at h⊢;omega;omega
   |false=>
    simp only at g;subst g;exact y2 (ah7 a k ss n (M.err j i)).YT
  obtain rfl:l=y6 K:=arp m k;rw[ar1]at g;simp only[qv]at g;subst g;exact y2 (ah8 a).YT
 exact fin _ rfl
def De(h:b<f):(zNq b==zNq f)=aj:=by rw[c4];intro e;have:(b:cA)=(f:cA):=e;omega
def Zl(N:aw)(o:ai As):wO N o=yI 0 bj []\/∃b n k,wO N o=.bG b n k:=by cases o;exact y1 rfl;exact y2 ⟨_,_,_,rfl⟩
section
variable {l:Lk} {xs:ai Tn} {gs:ai Gp} {a:As} {g:Gp} {ss:ai uU} {o o':ai As}
def ah_(c:aa G)(b:y6 a.ms<y6 gs)(j:y7 gs (y6 a.ms) bc=g)(k:g.kind=0->g.dr<y6 xs)(f:xf G 83 [lM l,nat (y6 a.ms),J5 (rM xs g),qx a] (J_ bk)):GH G l xs gs a o (lY 15) o:=by have i:=ay dK za b;have h:=aq dK za b;have e:=fO dK b bc;rw[j]at e;have d:=Hy (d:=l) (c:=gs) c k (Zl 1 o);refine kh.pick (Bo:=[a6 (wC l xs gs (wO 1 o)),KI o,a6 (Bm a),a6 (kg g)]) (ns1:=[0]) (N:=1) (ob:=KI o) ?_ (by rw[xi (B:=o)];rfl) rfl za tR td rfl;cases o<;>exact kh.xH c (az [83,84]) _ (E:=[]) (b:=60) [.eb 21 (De b),.er 37 (nat (y6 a.ms)),yu i,yu h,.eq 39 e,.Js func84 d,z3 f]
def ak4(d:aa G)(b:y6 a.ms<y6 gs)(n:y7 gs (y6 a.ms) bc=g)(p:g.kind=0->g.dr<y6 xs)(h:xf G 83 [lM l,nat (y6 a.ms),J5 (rM xs g),qx a] (J_ (a6 ss)))
  (k:aI zZq G 85 1 (.loop (ae f35 0)) (wL l xs gs a g (y6 a.ms) ss o 0) (y5 0) (wE l xs gs [] o')):GH G l xs gs a o xc o':=by
 have j:=ay dK za b;have i:=aq dK za b;have e:=fO dK b bc;rw[n]at e;have f:=Hy (d:=l) (c:=gs) d p (Zl 1 o);cases o' with
 |nil=>
  refine kh.pick (Bo:=[a6 (wC l xs gs (wO 1 []))]) (ns1:=[0]) (N:=1) (ob:=KI []) ?_ (by rw[xi (B:=[])];rfl) rfl za tR td rfl;cases o<;>exact kh.xH d (az [83,84]) _ (E:=[]) (b:=60) [.eb 21 (De b),.er 37 (nat (y6 a.ms)),yu j,yu i,.eq 39 e,.Js func84 f,z3 h,.code (aI.wg [(1,2),(2,3)] zv k)]
 |cons z c=>
  refine kh.pick (Bo:=[a6 (wC l xs gs (wO 3 (z::c))),bk,bk,KI (z::c)]) (ns1:=[0]) (N:=3) (ob:=KI (z::c)) ?_ (by rw[xi (B:=z::c)];rfl) rfl za tR td rfl;cases o<;>exact kh.xH d (az [83,84]) _ (E:=[]) (b:=60) [.eb 21 (De b),.er 37 (nat (y6 a.ms)),yu j,yu i,.eq 39 e,.Js func84 f,z3 h,.code (aI.wg [(1,2),(2,3)] zv k)]
def ah'(d:aa G)(b:y6 a.ms<y6 gs)(n:y7 gs (y6 a.ms) bc=g)(p:g.kind=0->g.dr<y6 xs)(h:xf G 83 [lM l,nat (y6 a.ms),J5 (rM xs g),qx a] (J_ (a6 ss)))
  (k:aI zZq G 85 1 (.loop (ae f35 0)) (wL l xs gs a g (y6 a.ms) ss o 0) .ret (wE l xs gs [(4,lY 15)] o')):GH G l xs gs a o (lY 15) o':=by
 have j:=ay dK za b;have i:=aq dK za b;have e:=fO dK b bc;rw[n]at e;have f:=Hy (d:=l) (c:=gs) d p (Zl 1 o);cases o' with
 |nil=>
  refine kh.pick (Bo:=[a6 (wC l xs gs (wO 1 []))]) (ns1:=[0]) (N:=1) (ob:=KI []) ?_ (by rw[xi (B:=[])];rfl) rfl za tR td rfl;cases o<;>exact kh.xH d (az [83,84]) _ (E:=[]) (b:=60) [.eb 21 (De b),.er 37 (nat (y6 a.ms)),yu j,yu i,.eq 39 e,.Js func84 f,z3 h,.code (aI.wg [(1,2),(2,3)] zv k)]
 |cons z c=>
  refine kh.pick (Bo:=[a6 (wC l xs gs (wO 3 (z::c))),bk,bk,KI (z::c)]) (ns1:=[0]) (N:=3) (ob:=KI (z::c)) ?_ (by rw[xi (B:=z::c)];rfl) rfl za tR td rfl;cases o<;>exact kh.xH d (az [83,84]) _ (E:=[]) (b:=60) [.eb 21 (De b),.er 37 (nat (y6 a.ms)),yu j,yu i,.eq 39 e,.Js func84 f,z3 h,.code (aI.wg [(1,2),(2,3)] zv k)]
end
structure Road(G:bn->Prop)(l:Lk)(xs:ai Tn)(gs:ai Gp)(Q:aw->As->Prop):Prop where
 len:∀k a,Q k a->a.ms.length=k/\k<=gs.length
 leaf:∀a,Q gs.length a->Spec zZq G 82 [qx a] (qx a)
 dr:∀k<gs.length,(gs.getD k bc).kind=0->(gs.getD k bc).dr<xs.length
 sol:∀k a,Q k a->k<gs.length->Spec zZq G 83 [lM l,nat k,J5 (rM xs (gs.getD k bc)),qx a] (J_ (iX l a (gs.getD k bc) (rM xs (gs.getD k bc))))
 two:∀k a,Q k a->k<gs.length->∀ss,iX l a (gs.getD k bc) (rM xs (gs.getD k bc))=a6 ss->ss.length<=2
 next:∀k a,Q k a->k<gs.length->∀ss,iX l a (gs.getD k bc) (rM xs (gs.getD k bc))=a6 ss->∀s∈ss,Spec zZq G 85 [qx a,GpD (gs.getD k bc),Q6 s] (qx (a.put (gs.getD k bc) s))/\Q (k+1) (a.put (gs.getD k bc) s)
def KH{f:As->ai As->ai As×b5}{a:As}{g:Gp}{M B:aw}:∀{ss:ai uU}{o:ai As},(∀s∈ss,∀o,y6 o+M<=B->(f (a.put g s) o).1.length<=y6 o+M)->y6 o+y6 ss*M<=B->(qv f a g ss o).1.length<=y6 o+y6 ss*M
 |[],o,_,_=>by simp[qv]
 |s::ss,o,h,j=>by
  rw[aqO,aqk]at j⊢;have c:=h s (apw ..) o za;simp only[qv];cases i:f (a.put g s) o with
  |mk o1 b=>
   rw[i]at c;simp only at c;cases b with
   |true=>
    have:=KH (ss:=ss) (o:=o1) (λd e=>h d (apX _ e)) za;simp only;omega
   |false=>simp only;omega
def Ox(e:aa G){l:Lk}{xs:ai Tn}{gs:ai Gp}{Q:aw->As->Prop}(R:Road G l xs gs Q):∀(n k:aw)(a:As),Q k a->y6 gs-k=n->∀o:ai As,y6 o+2^n<=1000->
  GH G l xs gs a o (O6 (pG l xs (gs.drop k) a o).2) (pG l xs (gs.drop k) a o).1/\(pG l xs (gs.drop k) a o).1.length<=y6 o+2^n
 |0,k,a,q,y,o,A=>by
  obtain⟨j,C⟩:=R.len k a q;obtain rfl:k=y6 gs:=za
  rw[ar1];refine⟨V3 e o za j (R.leaf a q),?_⟩
  simp[pG]
 |n+1,k,a,q,y,o,A=>by
  obtain⟨j,C⟩:=R.len k a q;have d:k<y6 gs:=za
  have F:2^(n+1)=2*2^n:=by rw[apK];omega
  have D:gs.drop k=y7 gs k bc::gs.drop (k+1):=AI d bc;have c:=R.sol k a q d;have w:=R.two k a q d;have i:=R.next k a q d
  have p:=R.dr k d;rw[D];generalize z:y7 gs k bc=g at c w i p⊢;have u:y6 a.ms<y6 gs:=by rw[j];exact d
  have v:y7 gs (y6 a.ms) bc=g:=by rw[j];exact z
  rw[<-j]at c;simp only[pG];cases m:iX l a g (rM xs g)with
  |none=>
   rw[m]at c;exact⟨ah_ e u v p c,ar3 _ _⟩
  |some ss=>
   rw[m]at c;have t2:=w ss m;have i:=i ss m;have sub:∀s∈ss,xf G 85 [qx a,GpD g,Q6 s] (qx (a.put g s))/\∀o,y6 o+2^n<=1000->GH G l xs gs (a.put g s) o (O6 (pG l xs (gs.drop (k+1)) (a.put g s) o).2) (pG l xs (gs.drop (k+1)) (a.put g s) o).1/\(pG l xs (gs.drop (k+1)) (a.put g s) o).1.length<=y6 o+2^n:=
    λs h=>⟨(i s h).1,λo t=>Ox e R n (k+1) _ (i s h).2 za o t⟩
   have hm:y6 ss*2^n<=2*2^n:=apB _ t2;have r:=V0 (b:=y6 a.ms) e za sub o (z:=1000) (f:=2^n) za
   have x:=KH (f:=pG l xs (gs.drop (k+1))) (a:=a) (g:=g) (B:=1000) (M:=2^n) (ss:=ss) (o:=o) (λs h o t=>((sub s h).2 o t).2) za
   simp only;cases hw:qv (pG l xs (gs.drop (k+1))) a g ss o with
   |mk E b=>
    rw[hw]at r x;simp only at x⊢;cases b with
    |true=>exact⟨ak4 e u v p c r,by omega⟩
    |false=>exact⟨ah' e u v p c r,by omega⟩
end Tw
open Go Go.RowKit Go.Proofs
def kh.bu{P:cp}{Good:bn->Prop}{fn:kf}{mx:aw}{args:ai D}{blks blks':ai (bF (ai D))}{ns ns':ai aw}{d:D}(h:kh P Good fn mx args blks ns d blks' ns')(t:∀b cs,blks.getD b bk=a6 cs->∀x∈cs,x.ref=bk):kh P Good fn mx args blks [] d blks' ns':=by intro f r c w β X vals p o n m l k a j i e;refine h f r c w β X vals p o n m l k ⟨a.defers,a.size,a.tmp,a.nd,a.blk,λb cs s x q u g=>?_,a.inj,a.F,a.uZ,a.oH,a.below,a.gh,a.i_,⟨a.kp.obj,a.kp.x,a.kp.lt,a.kp.off⟩⟩ j i e;rw[t b cs s x q]at g;cases g
namespace Tw
open fb
variable {G:bn->Prop}
def pl0:Pl:=⟨[],[],[],[]⟩
def iT(n:aw):As:=⟨[],⟨iq ((1:cA):cl),[],[],[]⟩::cd (n-1) pl0,[]⟩
def J':ai c7:=[47,38,36,35,28,86]
def roY:c7->ai aw:=λf=>if f=34 then [997,41]else []
variable {I:ai cA} (a:aa G) {c:ai Gp} {d:Lk} {e:ai Tn} {g:Pl} {h:cB} {k:Type} {r:ai Jt} {s:ai Dr}
def aeN{b:Bd}:iy zZq G f36 [y0 0 0] (wC ⟨h,[b],r,s⟩ e c (yI 0 bj [])) (qx (iT 1)) (wC ⟨h,[b],r,s⟩ e c (yI 0 bj [])):=
 iy.bK a (az J' roY) _ (ro:=[998]) (m:=60) [z3 (dM a (i:=1) za za),z3 (dL a u6)]
def aeM{gs b:Bd}:iy zZq G f36 [y0 0 0] (wC ⟨h,[gs,b],r,s⟩ e c (yI 0 bj [])) (qx (iT 2)) (wC ⟨h,[gs,b],r,s⟩ e c (yI 0 bj [])):=
 iy.bK a (az J' roY) _ (ro:=[998]) (m:=60) [z3 (dM a (i:=1) za za),z3 (dL a u6)]
def aeL{d gs b:Bd}:iy zZq G f36 [y0 0 0] (wC ⟨h,[d,gs,b],r,s⟩ e c (yI 0 bj [])) (qx (iT 3)) (wC ⟨h,[d,gs,b],r,s⟩ e c (yI 0 bj [])):=
 iy.bK a (az J' roY) _ (ro:=[998]) (m:=60) [z3 (dM a (i:=1) za za),z3 (dL a u6)]
def aeK{xs d gs b:Bd}:iy zZq G f36 [y0 0 0] (wC ⟨h,[xs,d,gs,b],r,s⟩ e c (yI 0 bj [])) (qx (iT 4)) (wC ⟨h,[xs,d,gs,b],r,s⟩ e c (yI 0 bj [])):=
 iy.bK a (az J' roY) _ (ro:=[998]) (m:=60) [z3 (dM a (i:=1) za za),z3 (dL a u6)]
def aeJ{f xs d gs b:Bd}:iy zZq G f36 [y0 0 0] (wC ⟨h,[f,xs,d,gs,b],r,s⟩ e c (yI 0 bj [])) (qx (iT 5)) (wC ⟨h,[f,xs,d,gs,b],r,s⟩ e c (yI 0 bj [])):=
 iy.bK a (az J' roY) _ (ro:=[998]) (m:=60) [z3 (dM a (i:=1) za za),z3 (dL a u6)]
def aeI{g f xs d gs b:Bd}:iy zZq G f36 [y0 0 0] (wC ⟨h,[g,f,xs,d,gs,b],r,s⟩ e c (yI 0 bj [])) (qx (iT 6)) (wC ⟨h,[g,f,xs,d,gs,b],r,s⟩ e c (yI 0 bj [])):=
 iy.bK a (az J' roY) _ (ro:=[998]) (m:=60) [z3 (dM a (i:=1) za za),z3 (dL a u6)]
def ajF{l:ai k}(d:1<=y6 l)(c:y6 l<=6):(∃a,l=[a])\/2<=y6 l:=by
 match l,d,c with
 |[a],_,_=>exact y1 ⟨a,rfl⟩
 |a::b::l,_,_=>exact y2 zb
def aeH(h:1<=y6 d.bs)(xs:y6 d.bs<=6):iy zZq G f36 [y0 0 0] (wC d e c (yI 0 bj [])) (qx (iT (y6 d.bs))) (wC d e c (yI 0 bj [])):=by
 obtain⟨j,n,k,m⟩:=d;rcases ajF h xs with⟨b,rfl⟩|g
 exact aeN a;rcases BX g xs with⟨b,l,rfl⟩|⟨b,l,gs,rfl⟩|⟨b,l,gs,f,rfl⟩|⟨b,l,gs,f,i,rfl⟩|⟨b,l,gs,f,i,o,rfl⟩
 exact aeM a;exact aeL a;exact aeK a;exact aeJ a;exact aeI a
def Yb(d:y6 I<=1000)(b:CnP G g):xf G 82 [qx ⟨[],[g],I⟩] (qx ⟨[],[g],I⟩):=
 Spec.abE (n:=0) (xs:=[]) (rest:=[aQ Hg [g],sZ I]) (show xf G 82 [qx ⟨[],[g],I⟩] (y4 (yI 0 bj []::[aQ Hg [g],sZ I]))from
 Spec.y a (az [146,147]) func82 [11] [z3 (Jm a I d),z3 b.1,z3 b.2.1,z3 b.2.2.1,z3 b.2.2.2])
def adW:ai As×b5->D
 |(o,bj)=>.aP [aQ Bm o,xc]
 |(_,aj)=>.aP [yI 0 aj [],lY 15]
def TnC(G:bn->Prop)(x:Tn):Prop:=xf G 38 [J5 x] xc
def ahD{l:ai k}(h:y6 l<=2):l=[]\/(∃a,l=[a])\/∃a b,l=[a,b]:=by
 match l,h with
 |[],_=>exact y1 rfl
 |[a],_=>exact y2 (y1 ⟨a,rfl⟩)
 |[a,b],_=>exact y2 (y2 ⟨a,b,rfl⟩)
def adU(b:y6 e<=2)(sp:xf G 47 [lM d] (.aP [yI 0 aj [],lY 7])):xf G 9 [lM d,aQ Y9 e] (.aP [yI 0 aj [],lY 7]):=by obtain rfl|⟨x0,rfl⟩|⟨x0,c,rfl⟩:=ahD b<;>exact Spec.y a (az J' roY) func9 [2] [z3 sp]
def am3:ai As->b5->D
 |[],bj=>.aP [yI 0 aj [],xc]
 |z::a,bj=>.aP [yI (z::a).length aj (((z::a).flatMap Bm).take (y6 (z::a)*3)),xc]
 |[],aj=>.aP [yI 0 aj [],lY 15]
 |_::_,aj=>.aP [yI 0 aj [],lY 15]
def agP(o:ai As)(b:b5):adW (o,b)=am3 o b:=by
 have key:(o.flatMap Bm).take (y6 o*3)=o.flatMap Bm:=by rw[apA];rw[dq vu];omega
 cases o<;>cases b<;>first|rfl|(simp only[am3];rw[key];rfl)
def am2(d:aa G){l:Lk}{xs:ai Tn}{gs:ai Gp}{r:ai As×b5}(sp:Spec zZq G 47 [lM l] (.aP [aQ kg gs,.lit .nilIface]))(c:xs.length=l.ds.length)(p:xs.length<=2)(e:∀x∈xs,TnC G x)(q:1<=l.bs.length)(n:l.bs.length<=6)
  (W:GH G l xs gs (iT l.bs.length) [] (O6 r.2) r.1):Spec zZq G 9 [lM l,aQ Y9 xs] (adW r):=by
 have st:=aeH (e:=xs) (c:=gs) d q n;obtain⟨a,b⟩:=r;have f:kh zZq G f35 1 [.ptr 0 0,qx (iT l.bs.length)] [a6 (wC l xs gs (.row 0 bj []))] [] (O6 b) [a6 (wC l xs gs (wO 1 a)),KI a] [0]:=by
  have j:kh zZq G f35 1 [.ptr 0 0,qx (iT l.bs.length)] [a6 (wC l xs gs (.row 0 bj []))] [0] (O6 b) [a6 (wC l xs gs (wO 1 a)),KI a] [0]:=
   kh.same W (λb=>(JL [a6 (wC l xs gs (.row 0 bj []))] b).symm) (λ_=>rfl)
  refine j.bu λb cs h x c=>?_
  have m:b=0:=by
   cases b with
   |zero=>rfl
   |succ b=>simp at h
  subst m;obtain rfl:=ap0 h;cases g:x.ref with
  |none=>rfl
  |some k=>
   exfalso;have:=tR (B:=[]) (N:=1) x c k g;have:=tR (B:=[]) (N:=2) x c k g;omega
 rw[agP];obtain rfl|⟨x0,rfl⟩|⟨x0,i,rfl⟩:=ahD p
 cases a<;>cases b<;>exact Spec.y d (az J' roY) func9 [2] [.call sp,.eb 24 (BY c),.a9 func36 st,.vr func35 f];cases a<;>cases b<;>exact Spec.y d (az J' roY) func9 [2] [.call sp,.eb 24 (BY c),.call (e x0 zb),.a9 func36 st,.vr func35 f];cases a<;>cases b<;>exact Spec.y d (az J' roY) func9 [2] [.call sp,.eb 24 (BY c),.call (e x0 zb),.call (e i zb),.a9 func36 st,.vr func35 f]
def Gn(l:Lk)(gs:ai Gp)(k:aw):Fn:=(gs.take k).foldl Fn.add (vU l)
structure Path(l:Lk)(gs:ai Gp):Prop where
 step:∀k<gs.length,tC l (Gn l gs k) (gs.getD k bc)
variable {Z:Jt} {i:Gp} {m n:Pt} {o:Fn} {z:aw}
def vR.list{t:Fn}(h:vR d o t):∃new,t.gs=o.gs++new/\t=new.foldl Fn.add o/\∀k<y6 new,tC d ((new.take k).foldl Fn.add o) (y7 new k bc):=by
 induction h with
 |stop h=>exact⟨[],by simp,rfl,λk a=>by simp at a⟩
 |step h r b=>
  rename_i o t g;obtain⟨new,e,l,c⟩:=b;refine⟨g::new,?_,l,λk a=>?_⟩;rw[e];show(o.gs++[g])++new=_;simp;cases k with
  |zero=>exact Dd h
  |succ k=>exact c k (by simpa using a)
def vR.path(h:vR d (vU d) o):Path d o.gs/\o=Gn d o.gs (y6 o.gs):=by
 obtain⟨new,c,b,a⟩:=h.list;have e:o.gs=new:=by rw[c];rfl
 rw[e];exact⟨⟨a⟩,by rw[Gn,aqM];exact b⟩
def vX(h:b<y6 c):Gn d c (b+1)=(Gn d c b).add (y7 c b bc):=by
 unfold Gn;have e:c.take (b+1)=c.take b++[y7 c b bc]:=by rw[aq6,apf,apj h];rfl
 rw[e,aqK];rfl
def yM(l:Lk)(gs:ai Gp):∀k≤y6 gs,qt l (Gn l gs k)
 |0,_=>by rw[Gn,aqY];exact xY l
 |k+1,h=>by rw[vX za];exact(yM l gs k za).add _
def CO(m:ai b5)(i j:aw):(m.set i bj).getD j aj=if i=j/\i<y6 m then bj else y7 m j aj:=by rw[apf,apf,asP];by_cases h:i=j;subst h;by_cases a:i<y6 m;simp[a];simp[a];simp[h]
def Di:∀(c:ai aw)(m:ai b5)(j:aw),(ei m c).getD j aj=bj↔y7 m j aj=bj\/(j∈c/\j<y6 m)
 |[],m,j=>by simp[ei]
 |i::c,m,j=>by show(ei (m.set i bj) c).getD j aj=bj↔_;rw[Di c,CO,apY,apo];by_cases h:i=j/\i<y6 m;obtain⟨rfl,b⟩:=h;simp[b];rw[ape h];constructor;rintro(a|⟨a,b⟩);exact y1 a;exact y2 ⟨y2 a,b⟩;rintro(a|⟨rfl|a,b⟩);exact y1 a;exact api ⟨rfl,b⟩ h;exact y2 ⟨a,b⟩
def Ge:∀(a:ai aw)(m:ai b5),a.Nodup->(∀i∈a,i<y6 m/\y7 m i aj=aj)->(ei m a).count aj+y6 a<=m.count aj
 |[],m,_,_=>apc _
 |i::a,m,b,h=>by
  obtain⟨k,g⟩:=h i (apw ..);have n:=(count_set m i).2 k g;rw[List.nodup_cons]at b;have l:=Ge a (m.set i bj) b.2 λj c=>by obtain⟨f,d⟩:=h j (apX _ c);refine⟨by rw[apY];exact f,?_⟩;rw[CO,ape (λe:i=j/\i<y6 m=>b.1 (e.1▸c))];exact d
  show(ei (m.set i bj) a).count aj+(y6 a+1)<=_;omega
def zV(l:Lk)(s:Fn):Prop:=∀j,y7 s.used j aj=bj->y7 s.known (y7 l.js j bc).a aj=bj/\y7 s.known (y7 l.js j bc).b aj=bj
def pP(h:ud Z b=a6 f):(Z.a=b/\Z.b=f)\/(Z.a=f/\Z.b=b):=by unfold ud at h;split at h;rename_i a;cases h;exact y1 ⟨a.symm,rfl⟩;split at h;rename_i a;cases h;exact y2 ⟨rfl,a.symm⟩;cases h
def unused(hu:zV d o)(h:ud (y7 d.js f bc) b=a6 z)(c:y7 o.known b aj=aj):y7 o.used f aj=aj:=by
 cases j:y7 o.used f aj with
 |false=>rfl
 |true=>
  obtain⟨e,s⟩:=hu f j;rcases pP h with⟨a,-⟩|⟨-,a⟩
  rw[a,c]at e;cases e;rw[a,c]at s;cases s
def YM.Si(h:YM d o b f z):∃s,ud (y7 d.js z bc) f=a6 s/\y7 o.known s aj=bj:=h.2.2
def tC.ajJ(hu:zV d o)(h:tC d o i):i.js.Nodup/\∀j∈i.js,j<y6 d.js/\y7 o.used j aj=aj:=by
 cases h with
 |sO g body o8 Q n H f=>
  obtain⟨s,m,-⟩:=f.Si;exact⟨by simp,λj D=>by rw[apg]at D;subst D;exact⟨f.1,unused hu m H⟩⟩
 |pair l j a b c L D E J q n I O A=>
  obtain⟨s,m,y⟩:=q.Si;obtain⟨p,f,w⟩:=n.Si;have k:=fQ E;have C:=fQ J;have N:s≠l:=λe=>by rw[e,k]at y;cases y
  have M:s≠j:=λe=>by rw[e,C]at y;cases y
  have pi:p≠l:=λe=>by rw[e,k]at w;cases w
  have K:p≠j:=λe=>by rw[e,C]at w;cases w
  have B:a≠b:=λe=>by
   subst e;rcases pP m with⟨v,u⟩|⟨v,u⟩<;>rcases pP f with⟨t,r⟩|⟨t,r⟩<;>omega
  have G:a≠c:=λe=>by
   subst e;rcases pP m with⟨v,u⟩|⟨v,u⟩<;>rcases pP A with⟨t,r⟩|⟨t,r⟩<;>omega
  have F:b≠c:=λe=>by
   subst e;rcases pP f with⟨v,u⟩|⟨v,u⟩<;>rcases pP A with⟨t,r⟩|⟨t,r⟩<;>omega
  refine⟨by simp[B,G,F],λx z=>?_⟩
  simp only[b4,bI,or_false]at z;obtain rfl|rfl|rfl:=z
  ·exact⟨q.1,unused hu m k⟩
  ·exact⟨n.1,unused hu f C⟩
  ·exact⟨I,unused hu A k⟩
 |single l a b P E q n=>
  obtain⟨s,m,y⟩:=q.Si;obtain⟨p,f,w⟩:=n.Si;have k:=fQ E;have B:a≠b:=λe=>by
   subst e;have S:=q.2.1;have R:=n.2.1;omega
  refine⟨by simp[B],λx z=>?_⟩
  simp only[b4,bI,or_false]at z;obtain rfl|rfl:=z
  ·exact⟨q.1,unused hu m k⟩
  ·exact⟨n.1,unused hu f k⟩
def tC.adF(n:g7 d)(h:tC d o i):i.bs.Nodup/\∀b∈i.bs,b<y6 d.bs/\y7 o.known b aj=aj:=by
 cases h with
 |sO g body o8 q f m y=>exact⟨by simp,λx e=>by rw[apg]at e;subst e;exact⟨by rw[<-f];exact n.body _ (aA q _),m⟩⟩
 |pair l j a b c u s k t r f z w v=>
  refine⟨by simp;omega,λx e=>?_⟩;simp only[b4,bI,or_false]at e;obtain rfl|rfl:=e
  exact⟨by omega,fQ k⟩;exact⟨s,fQ t⟩
 |single l a b p k r f=>exact⟨by simp,λx e=>by rw[apg]at e;subst e;exact⟨p,fQ k⟩⟩
def tC.ends(h:tC d o i):∀j∈i.js,(y7 o.known (y7 d.js j bc).a aj=bj\/(y7 d.js j bc).a∈i.bs)/\(y7 o.known (y7 d.js j bc).b aj=bj\/(y7 d.js j bc).b∈i.bs):=by
 have key:∀{j b:aw}{q:ai aw},b∈q->(∃s,ud (y7 d.js j bc) b=a6 s/\y7 o.known s aj=bj)->(y7 o.known (y7 d.js j bc).a aj=bj\/(y7 d.js j bc).a∈q)/\(y7 o.known (y7 d.js j bc).b aj=bj\/(y7 d.js j bc).b∈q):=λt ⟨s,w,r⟩=>by
  rcases pP w with⟨f,e⟩|⟨f,e⟩
  exact⟨y2 (f▸t),y1 (e▸r)⟩;exact⟨y1 (f▸r),y2 (e▸t)⟩
 cases h with
 |sO g body o8 D m B v=>exact λj n=>by rw[apg]at n;subst n;exact key zb v.Si
 |pair l j a b c z n y F p m E A u=>
  intro x k;simp only[b4,bI,or_false]at k;obtain rfl|rfl|rfl:=k
  exact key zb p.Si;exact key zb m.Si;rcases pP u with⟨f,e⟩|⟨f,e⟩
  exact⟨y2 (by rw[f];simp),y2 (by rw[e];simp)⟩;exact⟨y2 (by rw[f];simp),y2 (by rw[e];simp)⟩
 |single l a b C y p m=>
  intro x k;simp only[b4,bI,or_false]at k;obtain rfl|rfl:=k
  exact key zb p.Si;exact key zb m.Si
def m9(hs:qt d o)(g:Gp)(i:aw):(o.add g).known.getD i aj=bj↔y7 o.known i aj=bj\/(i∈g.bs/\i<y6 d.bs):=by rw[<-hs.k];exact Di g.bs o.known i
def zV.add{l:Lk}{s:Fn}{g:Gp}(d:g7 l)(hs:qt l s)(hu:zV l s)(h:tC l s g):zV l (s.add g):=λj f=>by
 rcases(Di g.js s.used j).1 f with c|⟨c,e⟩
 obtain⟨a,b⟩:=hu j c;exact⟨(m9 hs g _).2 (y1 a),(m9 hs g _).2 (y1 b)⟩;obtain⟨a,b⟩:=h.ends j c;rw[hs.u]at e;have hm:=aA e (bc:Jt);exact⟨(m9 hs g _).2 (a.imp id λq=>⟨q,d.a _ hm⟩),(m9 hs g _).2 (b.imp id λq=>⟨q,d.b _ hm⟩)⟩
def Qr(l:Lk):zV l (vU l):=λj a=>by
 have:(vU l).used.getD j aj=aj:=by show(cd (y6 l.js) aj).getD j aj=aj;rw[apf,aqy];split<;>rfl
 rw[this]at a;cases a
def Path.used{l:Lk}{gs:ai Gp}(a:g7 l)(P:Path l gs):∀k≤y6 gs,zV l (Gn l gs k)
 |0,_=>by rw[Gn,aqY];exact Qr l
 |k+1,h=>by rw[vX za];exact(P.used a k za).add a (yM l gs k za) (P.step k za)
def isD(g:Gp):b5:=g.kind==0
def isP(g:Gp):b5:=g.kind==1
def wt(g:Gp):aw:=if g.kind=0 then 1 else if g.kind=1 then 3 else 2
def Uq:eO d f b=2\/eO d f b=3:=by unfold eO;split<;>simp
def tC.wt{l:Lk}{s:Fn}{g:Gp}(h:tC l s g):y6 g.js=wt g:=by
 cases h with
 |sO=>rfl
 |pair=>rfl
 |single i a b c f e d=>
  rcases Uq (d:=l) (f:=i) (b:=b)with h|h<;>rw[h]<;>rfl
def Ze:∀gs:ai Gp,(gs.map wt).sum=gs.countP isD+2*gs.countP (λg=>!isD g)+gs.countP isP
 |[]=>rfl
 |g::gs=>by have c:=Ze gs;rw[are,List.sum_cons,ark,ark,ark,c];unfold isD isP wt;by_cases b:g.kind=0;simp[b];omega;by_cases a:g.kind=1;simp[a];omega;simp[b,a];omega
def LZ{α:Type}{p q:α->b5}:∀{l:ai α},(∀x∈l,q x=bj->p x=bj)->(∃x∈l,p x=bj/\q x=aj)->l.countP q+1<=l.countP p
 |[],_,⟨_,h,_⟩=>by cases h
 |y::l,d,⟨x,g,f,e⟩=>by
  have mono:l.countP q<=l.countP p:=aso λz b=>d z (apX _ b)
  rw[ark,ark];by_cases a:p y=bj/\q y=aj;rw[a.1,a.2];simp;omega;have c:x∈l:=by
   obtain rfl|h:=apo.1 g
   exact api ⟨f,e⟩ a;exact h
  have j:=LZ (l:=l) (λz b=>d z (apX _ b)) ⟨x,c,f,e⟩;have:=d y (apw ..);cases i:q y;simp;split<;>omega;rw[i]at this;rw[this rfl];simp;omega
def Lj(l:Lk)(s:Fn):aw:=l.ds.countP λd=>!s.known.getD d.body aj
def WW{l:Lk}{s:Fn}{g:Gp}(hs:qt l s):Lj l (s.add g)<=Lj l s:=
 aso λd _ h=>by
  cases a:s.known.getD d.body aj with
  |false=>rfl
  |true=>
   have:=(m9 hs g d.body).2 (.inl a);rw[this]at h;cases h
def WV(k:g7 d)(hs:qt d o)(h:tC d o i)(c:i.kind=0):Lj d (o.add i)+1<=Lj d o:=by
 cases h with
 |sO g body o8 m e j s=>
  have hm:=aA m (bc:Dr);refine LZ (λx n f=>?_) ⟨_,hm,by rw[e,j];rfl,?_⟩;cases c:y7 o.known x.body aj with
  |false=>rfl
  |true=>
   have:=(m9 hs ⟨0,[body],[o8],g⟩ x.body).2 (y1 c);rw[this]at f;cases f
  have:=(m9 hs ⟨0,[body],[o8],g⟩ body).2 (y2 ⟨by simp,by rw[<-e];exact k.body _ hm⟩);rw[e,this];rfl
 |pair=>cases c
 |single l a b p r q e=>
  have c:eO d l b=0:=c;rcases Uq (d:=d) (f:=l) (b:=b)with h|h<;>omega
def HJ[ka k]{gs:ai k}(h:b<y6 gs):gs.take (b+1)=gs.take b++[y7 gs b bc]:=by rw[aq6,apf,apj h];rfl
def Path.Vw{l:Lk}{gs:ai Gp}(a:g7 l)(P:Path l gs):∀k≤y6 gs,((gs.take k).map wt).sum+(Gn l gs k).used.count aj<=y6 l.js/\(gs.take k).countP isD+Lj l (Gn l gs k)<=y6 l.ds/\k+(Gn l gs k).known.count aj+1<=y6 l.bs
 |0,_=>by
  rw[Gn,aqY];refine⟨?_,?_,?_⟩
  ·have:(vU l).used.count aj<=(vU l).used.length:=asA
   rw[(xY l).u]at this;simpa using this
  ·have:Lj l (vU l)<=y6 l.ds:=List.countP_le_length
   simpa using this
  ·have p:=(count_set (cd (y6 l.bs) aj) 0).2 (by simpa using a.b0) (by rw[apf,aqy];split<;>rfl)
   have o:(cd (y6 l.bs) aj).count aj<=y6 l.bs:=apm asA zb
   show 0+((cd (y6 l.bs) aj).set 0 bj).count aj+1<=_;omega
 |k+1,h=>by
  have d:k<y6 gs:=za
  obtain⟨p,o,r⟩:=P.Vw a k za
  have b:=yM l gs k za
  have c:=P.step k d;have hu:=P.used a k za
  obtain⟨n,i⟩:=c.ajJ hu;have q:=Ge _ _ n λj m=>⟨by rw[b.u];exact(i j m).1,(i j m).2⟩
  have hw:=c.wt;have s:=c.less a b;rw[vX d,HJ d,aqp,List.sum_append,asd];generalize y7 gs k bc=g at*;refine⟨?_,?_,by omega⟩
  ·show((gs.take k).map Tw.wt).sum+([g].map Tw.wt).sum+(ei (Gn l gs k).used g.js).count aj<=_
   simp only[eZ,fB,List.sum_cons,List.sum_nil];omega
  ·rw[ark,List.countP_nil]
   by_cases f:g.kind=0
   ·have:=WV a b c f
    have e:isD g=bj:=by unfold isD;rw[f];rfl
    rw[e];simp;omega
   ·have:=WW (g:=g) b
    have e:isD g=aj:=by unfold isD;simpa using f
    rw[e];simp;omega
def mS(gs:ai Gp)(k:aw):aw:=(gs.take k).countP λg=>!isD g
def Cv(gs:ai Gp)(k:aw):aw:=(gs.take k).countP isD
def prN(gs:ai Gp)(k:aw):aw:=(gs.take k).countP isP
def Path.counts(a:g7 d)(P:Path d c):Cv c (y6 c)+2*mS c (y6 c)+prN c (y6 c)<=y6 d.js/\Cv c (y6 c)<=y6 d.ds/\y6 c+1<=y6 d.bs:=by obtain⟨b,gs,l⟩:=P.Vw a (y6 c) (apc _);rw[Ze]at b;exact⟨by unfold Cv mS prN;omega,by unfold Cv;omega,by omega⟩
def abn(h:b<=f):mS c b<=mS c f:=(ar0 h).countP_le
def ac1(h:b<=f):Cv c b<=Cv c f:=(ar0 h).countP_le
def aay(h:b<=f):prN c b<=prN c f:=(ar0 h).countP_le
def FA(h:b<y6 c):mS c (b+1)=mS c b+(if(y7 c b bc).kind=0 then 0 else 1)/\Cv c (b+1)=Cv c b+(if(y7 c b bc).kind=0 then 1 else 0)/\prN c (b+1)=prN c b+(if(y7 c b bc).kind=1 then 1 else 0):=by unfold mS Cv prN;rw[HJ h,asd,asd,asd];unfold isD isP;refine⟨?_,?_,?_⟩;by_cases a:(y7 c b bc).kind=0<;>simp[a];by_cases a:(y7 c b bc).kind=0<;>simp[a];by_cases a:(y7 c b bc).kind=1<;>simp[a]
def nA:aw->aw
 |0=>1
 |1=>80658
 |2=>10981814
 |3=>3338818642
 |_+4=>0
def eA:aw->aw
 |0=>1
 |1=>22967
 |2=>1151631
 |3=>153685747
 |_+4=>0
def nS:aw->aw
 |0=>1
 |1=>9371
 |2=>1016587
 |3=>255475801
 |4=>135756973018
 |_+5=>0
def eS:aw->aw
 |0=>1
 |1=>2100
 |2=>127149
 |3=>14235545
 |4=>3578191389
 |_+5=>0
def acQ:ig 64 1567 1 0 80658 22967 bj:=by refine⟨⟨1697,6791,20891,6791,60464,62162,63455,?_⟩,⟨1697,6791,8343,6791,39137,14099,40430,15392,?_⟩,λ_=>⟨1697,6791,7827,22966,6793,6793,14620,19713,29762,75840,77538,78831,?_⟩⟩<;>constructor<;>decide+kernel
def acP:ig 64 82224 22967 0 10981814 1151631 bj:=by refine⟨⟨82354,329419,988775,329419,2929391,3011746,3013039,?_⟩,⟨82354,329419,330971,329419,1721175,659355,1722468,660648,?_⟩,λ_=>⟨82354,329419,330455,990850,329421,329421,659876,906940,1343240,3428709,3511064,3512357,?_⟩⟩<;>constructor<;>decide+kernel
def acO:ig 64 82224 22967 1 10981814 1151631 bj:=by refine⟨⟨82354,352388,1103620,1455490,8814477,8896832,8898125,?_⟩,⟨82354,352388,399878,1455490,5591049,1854333,5592342,1855626,?_⟩,λ_=>⟨82354,352388,353424,1128664,375359,1547374,1923767,2193800,5002273,10815682,10898037,10899330,?_⟩⟩<;>constructor<;>decide+kernel
def acN:ig 64 10983380 1151631 0 3338818642 153685747 bj:=by refine⟨⟨10983510,43934043,131802647,43934043,386727179,397710690,397711983,?_⟩,⟨10983510,43934043,43935595,43934043,223130287,87868603,223131580,87869896,?_⟩,λ_=>⟨10983510,43934043,43935079,131804722,43934045,43934045,87869124,120819656,176890400,452633433,463616944,463618237,?_⟩⟩<;>constructor<;>decide+kernel
def acM:ig 64 10983380 1151631 1 3338818642 153685747 bj:=by refine⟨⟨10983510,45085676,137560812,182645970,1092956849,1103940360,1103941653,?_⟩,⟨10983510,45085676,47390494,182645970,663459673,230035429,663460966,230036722,?_⟩,λ_=>⟨10983510,45085676,45086712,138714520,46237311,187252510,233490855,267593020,606850969,1316009470,1326992981,1326994274,?_⟩⟩<;>constructor<;>decide+kernel
def acL:ig 64 10983380 1151631 2 3338818642 153685747 bj:=by refine⟨⟨10983510,47388942,149077142,493467181,2677009506,2687993017,2687994310,?_⟩,⟨10983510,47388942,54300292,493467181,1701892166,547766438,1701893459,547767731,?_⟩,λ_=>⟨10983510,47388942,47389978,152534116,50843843,528016191,578861068,615266499,1603816434,3316850198,3327833709,3327835002,?_⟩⟩<;>constructor<;>decide+kernel
def acK:ig 64 1 1 0 9371 2100 aj:=by refine⟨⟨131,527,2099,527,5654,5786,7079,?_⟩,⟨131,527,2079,527,7817,1571,9110,2864,?_⟩,λh=>by cases h⟩<;>constructor<;>decide+kernel
def acJ:ig 64 9371 2100 0 1016587 127149 aj:=by refine⟨⟨9501,38007,114539,38007,337802,347304,348597,?_⟩,⟨9501,38007,39559,38007,201514,76531,202807,77824,?_⟩,λh=>by cases h⟩<;>constructor<;>decide+kernel
def acI:ig 64 9371 2100 1 1016587 127149 aj:=by refine⟨⟨9501,40109,125049,164640,996161,1005663,1006956,?_⟩,⟨9501,40109,45865,164640,634867,209470,636160,210763,?_⟩,λh=>by cases h⟩<;>constructor<;>decide+kernel
def acH:ig 64 1016587 127149 0 255475801 14235545 aj:=by refine⟨⟨1016717,4066871,12201131,4066871,35840460,36857178,36858471,?_⟩,⟨1016717,4066871,4068423,4066871,20720981,8134259,20722274,8135552,?_⟩,λh=>by cases h⟩<;>constructor<;>decide+kernel
def acG:ig 64 1016587 127149 1 255475801 14235545 aj:=by refine⟨⟨1016717,4194022,12836886,17030390,102058788,103075506,103076799,?_⟩,⟨1016717,4194022,4449876,17030390,62291021,21479231,62292314,21480524,?_⟩,λh=>by cases h⟩<;>constructor<;>decide+kernel
def acF:ig 64 1016587 127149 2 255475801 14235545 aj:=by refine⟨⟨1016717,4448324,14108396,46644807,253440943,254457661,254458954,?_⟩,⟨1016717,4448324,5212782,46644807,162850788,51856554,162852081,51857847,?_⟩,λh=>by cases h⟩<;>constructor<;>decide+kernel
def acE:ig 64 255475801 14235545 0 135756973018 3578191389 aj:=by refine⟨⟨255475931,1021903727,3065711699,1021903727,8970129742,9225605674,9225606967,?_⟩,⟨255475931,1021903727,1021905279,1021903727,5152230449,2043807971,5152231742,2043809264,?_⟩,λh=>by cases h⟩<;>constructor<;>decide+kernel
def acD:ig 64 255475801 14235545 1 135756973018 3578191389 aj:=by refine⟨⟨255475931,1036139274,3136889434,4173028190,24882345146,25137821078,25137822371,?_⟩,⟨255475931,1036139274,1064611920,4173028190,14904559637,5237639075,14904560930,5237640368,?_⟩,λh=>by cases h⟩<;>constructor<;>decide+kernel
def acC:ig 64 255475801 14235545 2 135756973018 3578191389 aj:=by refine⟨⟨255475931,1064610368,3279244904,10888107979,58827872457,59083348389,59083349682,?_⟩,⟨255475931,1064610368,1150025202,10888107979,36359487952,12038132146,36359489245,12038133439,?_⟩,λh=>by cases h⟩<;>constructor<;>decide+kernel
def acB:ig 64 255475801 14235545 3 135756973018 3578191389 aj:=by refine⟨⟨255475931,1121552556,3563955844,26012297650,135246019732,135501495664,135501496957,?_⟩,⟨255475931,1121552556,1320851766,26012297650,87113130979,27333148381,87113132272,27333149674,?_⟩,λh=>by cases h⟩<;>constructor<;>decide+kernel
def aov:∀m k:aw,m<3->k<=m->ig 64 (nA m+1566) (eA m) k (nA (m+1)) (eA (m+1)) bj
 |0,0,_,_=>acQ
 |1,0,_,_=>acP
 |1,1,_,_=>acO
 |2,0,_,_=>acN
 |2,1,_,_=>acM
 |2,2,_,_=>acL
 |0,k+1,_,h=>api h za
 |1,k+2,_,h=>api h za
 |2,k+3,_,h=>api h za
 |m+3,_,h,_=>api h za
def aou:∀m k:aw,m<4->k<=m->ig 64 (nS m) (eS m) k (nS (m+1)) (eS (m+1)) aj
 |0,0,_,_=>acK
 |1,0,_,_=>acJ
 |1,1,_,_=>acI
 |2,0,_,_=>acH
 |2,1,_,_=>acG
 |2,2,_,_=>acF
 |3,0,_,_=>acE
 |3,1,_,_=>acD
 |3,2,_,_=>acC
 |3,3,_,_=>acB
 |0,k+1,_,h=>api h za
 |1,k+2,_,h=>api h za
 |2,k+3,_,h=>api h za
 |3,k+4,_,h=>api h za
 |m+4,_,h,_=>api h za
def JP(δ k:aw):Prop:=sb δ k δ<=NB/\tb δ k<=MB/\sb δ k 1<=NB/\ib δ k 1<=MB
instance(δ k:aw):vp (JP δ k):=by unfold JP;infer_instance
def ann:∀m≤3,∀k≤m,JP (eA m) k:=z2
def anm:∀m≤4,∀k≤m,JP (eS m) k:=z2
def JZ(n δ k:aw):Prop:=8*n+2000<=MB/\sb δ k (16*n+4*tb δ k+4000)<=NB/\8*n+2*tb δ k+4000<=MB
instance(n δ k:aw):vp (JZ n δ k):=by unfold JZ;infer_instance
def aoB:∀m≤3,∀k≤m,JZ (nA m+1566) (eA m) k:=z2
def aoA:∀m≤4,∀k≤m,JZ (nS m) (eS m) k:=z2
def ag_:∀m<3,nA m+1566<=nA (m+1)/\eA m<=eA (m+1):=z2
def ag9:∀m<4,nS m<=nS (m+1)/\eS m<=eS (m+1):=z2
def aoD:∀m≤3,∀d<2,nA m+783*(d+1)<=MB:=z2
open fb zY dH
set_option synthInstance.maxSize 100000
set_option synthInstance.maxHeartbeats 2000000
def fx(k:aw)(p:Pt):Prop:=Sh k p.1/\Sh k p.2
def fx.mono{k m:aw}{p:Pt}(h:fx k p)(a:k<=m):fx m p:=⟨h.1.mono a,h.2.mono a⟩
def fx.sub{k:aw}{p q:Pt}(h:fx k p)(a:fx k q):fx k (kv p q):=⟨h.1.sub a.1,h.2.sub a.2⟩
def fx.of(k:aw)(x y:cl):fx k (yC x y):=⟨Sh.l7 _ _,Sh.l7 _ _⟩
def fx.along{t:aM}(c:eJ (y6 t) t){a:ai cl}(h:fx (y6 t) m)(b:Sh (y6 t) a)(d:fx (y6 t) n):fx (y6 t) (cM t m a n):=⟨h.1.add (Sh.mul c b d.1),h.2.add (Sh.mul c b d.2)⟩
section
variable {K:Type} [dH K] (ι:pD cl K) (s:aw->K) {t:aM}
def tS(c:eJ (y6 t) t)(d:Model ι s t (y6 t))(b:fx (y6 t) m)(a:fx (y6 t) n):vl ι s t (vP t m n)=vl ι s t m.1*vl ι s t n.1+vl ι s t m.2*vl ι s t n.2:=by unfold vP;rw[qD ι s (Sh.mul c b.1 a.1) (Sh.mul c b.2 a.2),cZ ι s c d b.1 a.1,cZ ι s c d b.2 a.2]
def Cz(c:eJ (y6 t) t)(d:Model ι s t (y6 t))(b:fx (y6 t) m)(a:fx (y6 t) n):vl ι s t (qZ t m n)=vl ι s t m.1*vl ι s t n.2-vl ι s t m.2*vl ι s t n.1:=by unfold qZ;rw[dU ι s (Sh.mul c b.1 a.2) (Sh.mul c b.2 a.1),cZ ι s c d b.1 a.2,cZ ι s c d b.2 a.1]
def Sh.dot(c:eJ (y6 t) t)(b:fx (y6 t) m)(a:fx (y6 t) n):Sh (y6 t) (vP t m n):=Sh.add (Sh.mul c b.1 a.1) (Sh.mul c b.2 a.2)
def Sh.qw(c:eJ (y6 t) t)(b:fx (y6 t) m)(a:fx (y6 t) n):Sh (y6 t) (qZ t m n):=Sh.sub (Sh.mul c b.1 a.2) (Sh.mul c b.2 a.1)
def qC(c:eJ (y6 t) t)(f:Model ι s t (y6 t)){a:ai cl}(h:fx (y6 t) m)(b:Sh (y6 t) a)(d:fx (y6 t) n):vl ι s t (cM t m a n).1=vl ι s t m.1+vl ι s t a*vl ι s t n.1:=by
 have e:(cM t m a n).1=oX m.1 (mulL t a n.1):=by simp only[cM]
 rw[e,qD ι s h.1 (Sh.mul c b d.1),cZ ι s c f b d.1]
def qB(c:eJ (y6 t) t)(f:Model ι s t (y6 t)){a:ai cl}(h:fx (y6 t) m)(b:Sh (y6 t) a)(d:fx (y6 t) n):vl ι s t (cM t m a n).2=vl ι s t m.2+vl ι s t a*vl ι s t n.2:=by
 have e:(cM t m a n).2=oX m.2 (mulL t a n.2):=by simp only[cM]
 rw[e,qD ι s h.2 (Sh.mul c b d.2),cZ ι s c f b d.2]
def xG{q:cl}(h:q≠0):ι.φ q≠0:=λe=>by have:=Nm ι h;rw[e,bB]at this;exact ub j_ this.symm
def aaK(u:V2):ι.φ u.sq=ι.φ u.x*ι.φ u.x+ι.φ u.y*ι.φ u.y:=by unfold V2.sq;rw[ι.add,ι.mul,ι.mul]
structure vB(t:aM)(b:Pl)(u:V2)(w1 w2:K)(p:V2)(o1 o2:K):Prop where
 hc:vl ι s t b.c*ι.φ u.sq=ι.φ u.x*w1+ι.φ u.y*w2
 hs:vl ι s t b.s*ι.φ u.sq=ι.φ u.x*w2-ι.φ u.y*w1
 hx:vl ι s t b.x=o1-(vl ι s t b.c*ι.φ p.x-vl ι s t b.s*ι.φ p.y)
 hy:vl ι s t b.y=o2-(vl ι s t b.s*ι.φ p.x+vl ι s t b.c*ι.φ p.y)
structure Cj(k:aw)(b:Pl):Prop where
 c:Sh k b.c
 s:Sh k b.s
 x:Sh k b.x
 y:Sh k b.y
variable {R S:V2}
def N6(a:eJ (y6 t) t)(hw:fx (y6 t) m)(c:fx (y6 t) n):Cj (y6 t) (s_ t R m S n):=by have b:Sh (y6 t) (D3 t R m):=Sh.div a (Sh.dot a (fx.of _ _ _) hw) (Sh.l7 _ _);have s1:Sh (y6 t) (D2 t R m):=Sh.div a (Sh.qw a (fx.of _ _ _) hw) (Sh.l7 _ _);exact⟨b,s1,c.1.sub ((Sh.mul a b (Sh.l7 _ _)).sub (Sh.mul a s1 (Sh.l7 _ _))),c.2.sub ((Sh.mul a s1 (Sh.l7 _ _)).add (Sh.mul a b (Sh.l7 _ _)))⟩
def tx(a:eJ (y6 t) t)(b:Model ι s t (y6 t))(hw:fx (y6 t) m)(e:fx (y6 t) n)(hu:R.sq≠0):vB ι s t (s_ t R m S n) R (vl ι s t m.1) (vl ι s t m.2) S (vl ι s t n.1) (vl ι s t n.2):=by
 have d1:Sh (y6 t) (vP t (mQ R) m):=Sh.dot a (fx.of _ _ _) hw;have d2:Sh (y6 t) (qZ t (mQ R) m):=Sh.qw a (fx.of _ _ _) hw;have c:Sh (y6 t) (D3 t R m):=Sh.div a d1 (Sh.l7 _ _);have s1:Sh (y6 t) (D2 t R m):=Sh.div a d2 (Sh.l7 _ _);have d:vl ι s t (iq R.sq)≠0:=by rw[gV];exact xG ι hu
 refine⟨?_,?_,?_,?_⟩
 ·have:=lD ι s a b d1 (Sh.l7 (y6 t) R.sq) d
  rw[tS ι s a b (m:=mQ R) (fx.of _ _ _) hw,gV]at this;simp only[mQ,yC,gV]at this;exact this
 ·have:=lD ι s a b d2 (Sh.l7 (y6 t) R.sq) d
  rw[Cz ι s a b (m:=mQ R) (fx.of _ _ _) hw,gV]at this;simp only[mQ,yC,gV]at this;exact this
 ·show vl ι s t (g8 n.1 (g8 (mulL t (D3 t R m) (iq S.x)) (mulL t (D2 t R m) (iq S.y))))=_
  rw[dU ι s e.1 ((Sh.mul a c (Sh.l7 _ _)).sub (Sh.mul a s1 (Sh.l7 _ _))),dU ι s (Sh.mul a c (Sh.l7 _ _)) (Sh.mul a s1 (Sh.l7 _ _)),cZ ι s a b c (Sh.l7 _ _),cZ ι s a b s1 (Sh.l7 _ _),gV,gV];rfl
 ·show vl ι s t (g8 n.2 (oX (mulL t (D2 t R m) (iq S.x)) (mulL t (D3 t R m) (iq S.y))))=_
  rw[dU ι s e.2 ((Sh.mul a s1 (Sh.l7 _ _)).add (Sh.mul a c (Sh.l7 _ _))),qD ι s (Sh.mul a s1 (Sh.l7 _ _)) (Sh.mul a c (Sh.l7 _ _)),cZ ι s a b c (Sh.l7 _ _),cZ ι s a b s1 (Sh.l7 _ _),gV,gV];rfl
def vV(b:Pl)(t:aM)(m:V2):K×K:=(vl ι s t b.c*ι.φ m.x-vl ι s t b.s*ι.φ m.y+vl ι s t b.x,vl ι s t b.s*ι.φ m.x+vl ι s t b.c*ι.φ m.y+vl ι s t b.y)
def adO(a:eJ (y6 t) t)(c:Model ι s t (y6 t))(h:Cj (y6 t) g)(m:V2):(vl ι s t (J4 t g m.x m.y).1,vl ι s t (J4 t g m.x m.y).2)=vV ι s g t m:=by unfold vV;rw[Zn ι s a c h.c h.s h.x,Zm ι s a c h.c h.s h.y]
def vB.unit{c a o1 o2:K}(h:vB ι s t g R c a S o1 o2)(hu:R.sq≠0)(hw:c*c+a*a=ι.φ R.sq):vl ι s t g.c*vl ι s t g.c+vl ι s t g.s*vl ι s t g.s=1/\vl ι s t g.c*ι.φ R.x-vl ι s t g.s*ι.φ R.y=c/\vl ι s t g.s*ι.φ R.x+vl ι s t g.c*ι.φ R.y=a:=
 aiF (aaK ι R) (xG ι hu) h.hc h.hs hw
def vB.o8{d a o1 o2:K}(h:vB ι s t g R d a S o1 o2):vV ι s g t S=(o1,o2):=by unfold vV;rw[h.hx,h.hy];generalize vl ι s t g.c=c;generalize vl ι s t g.s=σ;generalize ι.φ S.x=x;generalize ι.φ S.y=y;exact Prod.ext (rg [c,σ,x,y,o1]) (rg [c,σ,x,y,o2])
def vB.far{q:V2}{d a o1 o2:K}(h:vB ι s t g R d a S o1 o2)(hu:R.sq≠0)(hw:d*d+a*a=ι.φ R.sq)(j:R=q.sub S):vV ι s g t q=(o1+d,o2+a):=by obtain⟨-,f,e⟩:=h.unit ι s hu hw;subst j;unfold vV;rw[h.hx,h.hy];simp only[V2.sub]at f e;rw[ι.sub,ι.sub]at f e;rw[<-f,<-e];generalize vl ι s t g.c=c;generalize vl ι s t g.s=σ;generalize ι.φ S.x=x;generalize ι.φ S.y=y;generalize ι.φ q.x=i;generalize ι.φ q.y=p;exact Prod.ext (rg [c,σ,x,y,i,p,o1]) (rg [c,σ,x,y,i,p,o2])
def Model.base{d:ai cl}(a:Model ι s (mK t d) (mK t d).length):Model ι s t (y6 t)/\s (y6 t)*s (y6 t)=vl ι s t d:=by have c:y6 (mK t d)=y6 t+1:=bW d;rw[c]at a;refine⟨⟨λk b=>a.nn k za,λk b=>?_⟩,?_⟩;have:=a.sq k za;rw[mK,apf,aqe b,<-apf]at this;exact this;have:=a.sq (y6 t) za;rw[mK,apf,apS (apc _),asw]at this;rw[this];show lv ι s (y6 t) (aZ d (2^y6 t))=_;rw[Ao];rfl
def te(d:ai cl):vl ι s (mK t d) (cg (y6 t))=s (y6 t):=by
 unfold vl cg;rw[bW,Lu ι s (fy [] _),Ao,BV,iD];have e:lv ι s (y6 t) ((1:cl)::aZ [] (2^y6 t-1))=1:=by
  have:lv ι s (y6 t) ((1:cl)::aZ [] (2^y6 t-1))=lv ι s (y6 t) [1]:=ahv ι s λi=>by
   cases i with
   |zero=>rfl
   |succ i=>
    rw[aru,lh];simp
  rw[this];have a:=gV ι s (t:=t) 1;unfold vl iq at a;rw[n9 ι s (Sh.single 0 1)]at a;rw[a,ι.one]
 rw[e,yY]
def iE(d:ai cl){a:ai cl}(h:Sh (y6 t) a):vl ι s (mK t d) a=vl ι s t a:=aeq ι s h
def oN(b:eJ (y6 t) t)(d:ai cl):eJ (mK t d).length (mK t d):=λj a=>by
 rw[bW]at a;obtain h|h:=apy j (y6 t)
 rw[mK,apf,aqe h,<-apf];exact b j h;obtain rfl:j=y6 t:=za
 rw[mK,apf,apS h,asw];show y6 (aZ d (2^y6 t))=_;rw[fy]
end
structure zX(k:aw)(c:Cr):Prop where
 o:fx k c.o
 r:Sh k c.r
section
variable {K:Type} [dH K] (ι:pD cl K) (s:aw->K) {t:aM}
def aaM:ι.φ 4=1+1+1+1:=by
 have e:(4:cl)=1+1+1+1:=z2
 rw[e,ι.add,ι.add,ι.add,ι.one]
def aaN:ι.φ 2=1+1:=by
 have e:(2:cl)=1+1:=z2
 rw[e,ι.add,ι.one]
def aaL:ι.φ (-1)= -1:=by rw[ι.neg,ι.one]
def Mg(T:aM)(c:Cr)(P:Pt):Prop:=(vl ι s T P.1-vl ι s T c.o.1)*(vl ι s T P.1-vl ι s T c.o.1)+(vl ι s T P.2-vl ι s T c.o.2)*(vl ι s T P.2-vl ι s T c.o.2)=vl ι s T c.r
variable {C v:Cr}
def Mg.up{d:ai cl}(a:zX (y6 t) v)(h:(vl ι s (mK t d) m.1-vl ι s t v.o.1)*(vl ι s (mK t d) m.1-vl ι s t v.o.1)+(vl ι s (mK t d) m.2-vl ι s t v.o.2)*(vl ι s (mK t d) m.2-vl ι s t v.o.2)=vl ι s t v.r):Mg ι s (mK t d) v m:=by unfold Mg;rw[iE ι s d a.o.1,iE ι s d a.o.2,iE ι s d a.r];exact h
structure ang(t:aM)(a b:Cr)(v1 v2:K):Prop where
 h1:v1=vl ι s t b.o.1-vl ι s t a.o.1
 h2:v2=vl ι s t b.o.2-vl ι s t a.o.2
 hd:vl ι s t (cD t a b)=v1*v1+v2*v2
 hS:vl ι s t (cS t a b)=vl ι s t a.r+vl ι s t (cD t a b)-vl ι s t b.r
 hW:vl ι s t (Bl t a b)=vl ι s t (cD t a b)+vl ι s t (cD t a b)
 hX:vl ι s t (cX t a b)=(1+1+1+1)*(vl ι s t a.r*vl ι s t (cD t a b))-vl ι s t (cS t a b)*vl ι s t (cS t a b)
structure ah5(t:aM)(a b:Cr):Prop where
 hv:fx t.length (cV a b)
 hd:Sh t.length (cD t a b)
 hS:Sh t.length (cS t a b)
 hW:Sh t.length (Bl t a b)
 hX:Sh t.length (cX t a b)
 hG:Sh t.length (cG t a b)
 hF:fx t.length (Eh t a b)
def p7(c:eJ (y6 t) t)(e:zX (y6 t) v)(f:zX (y6 t) C):ah5 t v C:=by have a:fx (y6 t) (cV v C):=f.o.sub e.o;have d:Sh (y6 t) (cD t v C):=Sh.dot c a a;have S:Sh (y6 t) (cS t v C):=(e.r.add d).sub f.r;have W:Sh (y6 t) (Bl t v C):=Sh.mul c (Sh.l7 _ _) d;have X:Sh (y6 t) (cX t v C):=(Sh.mul c (Sh.l7 _ _) (Sh.mul c e.r d)).sub (Sh.mul c S S);have g:Sh (y6 t) (cG t v C):=Sh.div c S W;exact⟨a,d,S,W,X,g,e.o.along c g a⟩
def yc(c:eJ (y6 t) t)(f:Model ι s t (y6 t))(e:zX (y6 t) v)(h:zX (y6 t) C):ang ι s t v C (vl ι s t (cV v C).1) (vl ι s t (cV v C).2):=by obtain⟨a,d,S,W,X,g,-⟩:=p7 c e h;have j:(cV v C).1=g8 C.o.1 v.o.1:=rfl;have i:(cV v C).2=g8 C.o.2 v.o.2:=rfl;refine⟨?_,?_,?_,?_,?_,?_⟩;rw[j,dU ι s h.o.1 e.o.1];rw[i,dU ι s h.o.2 e.o.2];exact tS ι s c f a a;show vl ι s t (g8 (oX v.r (cD t v C)) C.r)=_;rw[dU ι s (e.r.add d) h.r,qD ι s e.r d];show vl ι s t (mulL t (iq 2) (cD t v C))=_;rw[cZ ι s c f (Sh.l7 _ _) d,gV,aaN];generalize vl ι s t (cD t v C)=x;exact rg [x];show vl ι s t (g8 (mulL t (iq 4) (mulL t v.r (cD t v C))) (mulL t (cS t v C) (cS t v C)))=_;rw[dU ι s (Sh.mul c (Sh.l7 _ _) (Sh.mul c e.r d)) (Sh.mul c S S),cZ ι s c f (Sh.l7 _ _) (Sh.mul c e.r d),cZ ι s c f e.r d,cZ ι s c f S S,gV,aaM]
def NU(d:eJ (y6 t) t)(g:Model ι s t (y6 t))(f:zX (y6 t) v)(e:zX (y6 t) C)(d0:vl ι s t (cD t v C)≠0):vl ι s t (cG t v C)*vl ι s t (Bl t v C)=vl ι s t (cS t v C):=by have c:=p7 d f e;exact lD ι s d g c.hS c.hW (by rw[(yc ι s d g f e).hW];exact Jl d0)
def Tu(e:eJ (y6 t) t)(f:Model ι s t (y6 t))(d:zX (y6 t) v)(h:zX (y6 t) C)(d0:vl ι s t (cD t v C)≠0)(x0:vl ι s t (cX t v C)=0):Mg ι s t v (Eh t v C)/\Mg ι s t C (Eh t v C):=by have c:=p7 e d h;have a:=yc ι s e f d h;have g:=NU ι s e f d h d0;have p:=VB (H:=(0:K)) (r:=0) a.hd a.hS a.hW d0 g (jE _) (by rw[jE,<-a.hX,x0]);have f1:=qC ι s e f d.o c.hG c.hv;have f2:=qB ι s e f d.o c.hG c.hv;have m:=a.h1;have l:=a.h2;unfold Mg;rw[show Eh t v C=cM t v.o (cG t v C) (cV v C)from rfl,f1,f2,<-p.1,<-p.2,m,l];generalize vl ι s t (cG t v C)=γ;generalize vl ι s t v.o.1=a1;generalize vl ι s t v.o.2=k;generalize vl ι s t C.o.1=j;generalize vl ι s t C.o.2=i;exact⟨rg [γ,a1,k,j,i],rg [γ,a1,k,j,i]⟩
def Tt(i:eJ (y6 t) t)(j:Model ι s (cT t v C) (cT t v C).length)(f:zX (y6 t) v)(l:zX (y6 t) C)(d0:vl ι s t (cD t v C)≠0):
  (Mg ι s (cT t v C) v (Za t v C)/\Mg ι s (cT t v C) C (Za t v C))/\(Mg ι s (cT t v C) v (Y_ t v C)/\Mg ι s (cT t v C) C (Y_ t v C)):=by
 have c:=p7 i f l;have e:cT t v C=mK t (cX t v C):=rfl;have d:eJ (cT t v C).length (cT t v C):=oN i _;have le:y6 t<=y6 (cT t v C):=by rw[e,bW];omega
 obtain⟨k,D⟩:=Model.base ι s j;have b:=yc ι s i k f l;have g:=NU ι s i k f l d0;have E:Sh (cT t v C).length (cg (y6 t)):=(iO (t:=t) (cX t v C)).sh;have u:Sh (cT t v C).length (cH t v C):=Sh.div d E (c.hW.mono le);have I:vl ι s (cT t v C) (Bl t v C)≠0:=by rw[e,iE ι s _ c.hW,b.hW];exact Jl d0
 have a:vl ι s (cT t v C) (cH t v C)*vl ι s t (Bl t v C)=s (y6 t):=by
  have:=lD ι s d j E (c.hW.mono le) I;rw[e,iE ι s _ c.hW,te]at this;exact this
 have m:=c.hv.mono le;have o:Sh (cT t v C).length (mulL (cT t v C) (iq (-1)) (cV v C).2):=Sh.mul d (Sh.l7 _ _) m.2;have F:fx (cT t v C).length (cN t v C):=⟨o,m.1⟩;have M:vl ι s (cT t v C) (cN t v C).1= -1*vl ι s t (cV v C).2:=by
  show vl ι s (cT t v C) (mulL (cT t v C) (iq (-1)) (cV v C).2)=_;rw[cZ ι s d j (Sh.l7 _ _) m.2,gV,aaL,e,iE ι s _ c.hv.2]
 have L:vl ι s (cT t v C) (cN t v C).2=vl ι s t (cV v C).1:=by
  show vl ι s (cT t v C) (cV v C).1=_;rw[e,iE ι s _ c.hv.1]
 have q:Sh (cT t v C).length (Yo t v C):=Sh.mul d (Sh.l7 _ _) u;have n:vl ι s (cT t v C) (Yo t v C)= -1*vl ι s (cT t v C) (cH t v C):=by
  show vl ι s (cT t v C) (mulL (cT t v C) (iq (-1)) (cH t v C))=_;rw[cZ ι s d j (Sh.l7 _ _) u,gV,aaL]
 have f1:=qC ι s i k f.o c.hG c.hv;have f2:=qB ι s i k f.o c.hG c.hv;have S:vl ι s (cT t v C) (Eh t v C).1=vl ι s t v.o.1+vl ι s t (cG t v C)*vl ι s t (cV v C).1:=by rw[e,iE ι s _ c.hF.1];exact f1
 have R:vl ι s (cT t v C) (Eh t v C).2=vl ι s t v.o.2+vl ι s t (cG t v C)*vl ι s t (cV v C).2:=by rw[e,iE ι s _ c.hF.2];exact f2
 have key:∀(H:ai cl)(h r:K),Sh (cT t v C).length H->vl ι s (cT t v C) H=h->h*vl ι s t (Bl t v C)=r->r*r=vl ι s t (cX t v C)->Mg ι s (cT t v C) v (cM (cT t v C) (Eh t v C) H (cN t v C))/\Mg ι s (cT t v C) C (cM (cT t v C) (Eh t v C) H (cN t v C)):=by
  intro H h r B G qr J;have p:=VB (H:=h) (r:=r) b.hd b.hS b.hW d0 g qr (by rw[J,b.hX])
  have z:=qC ι s d j (c.hF.mono le) B F;have y:=qB ι s d j (c.hF.mono le) B F;rw[S,G,M]at z;rw[R,G,L]at y;have O:=b.h1;have N:=b.h2;constructor
  ·refine Mg.up ι s f ?_
   show(vl ι s (cT t v C) _-_)*(vl ι s (cT t v C) _-_)+(vl ι s (cT t v C) _-_)*(vl ι s (cT t v C) _-_)=_;rw[z,y,<-p.1];generalize vl ι s t (cG t v C)=γ;generalize vl ι s t v.o.1=a1;generalize vl ι s t v.o.2=A;generalize vl ι s t (cV v C).1=v1;generalize vl ι s t (cV v C).2=v2;exact rg [γ,a1,A,v1,v2,h]
  ·refine Mg.up ι s l ?_
   show(vl ι s (cT t v C) _-_)*(vl ι s (cT t v C) _-_)+(vl ι s (cT t v C) _-_)*(vl ι s (cT t v C) _-_)=_;rw[z,y,<-p.2,O,N];generalize vl ι s t (cG t v C)=γ;generalize vl ι s t v.o.1=a1;generalize vl ι s t v.o.2=A;generalize vl ι s t C.o.1=Q;generalize vl ι s t C.o.2=P;exact rg [γ,a1,A,Q,P,h]
 refine⟨key _ _ _ u rfl a D,key _ _ (-1*s (y6 t)) q n ?_ ?_⟩
 ·rw[<-a]
  generalize vl ι s (cT t v C) (cH t v C)=h;generalize vl ι s t (Bl t v C)=w;exact rg [h,w]
 ·rw[<-D]
  generalize s (y6 t)=x;exact rg [x]
end
section
variable {K:Type} [dH K] (ι:pD cl K) (s:aw->K) {t:aM}
def OnL(T:aM)(p q P:Pt):Prop:=(vl ι s T q.1-vl ι s T p.1)*(vl ι s T P.2-vl ι s T p.2)-(vl ι s T q.2-vl ι s T p.2)*(vl ι s T P.1-vl ι s T p.1)=0
structure ah1(t:aM)(c:Cr)(p q:Pt):Prop where
 hv:fx t.length (lV p q)
 hw:fx t.length (lW c p)
 hQ:Sh t.length (lQ t p q)
 hE:Sh t.length (lE t c p q)
 hC:Sh t.length (lC t c p q)
 hX:Sh t.length (lX t c p q)
variable {v:Cr}
def m8(a:eJ (y6 t) t)(d:zX (y6 t) v)(b:fx (y6 t) m)(e:fx (y6 t) n):ah1 t v m n:=by have p:fx (y6 t) (lV m n):=e.sub b;have w:fx (y6 t) (lW v m):=d.o.sub b;have Q:Sh (y6 t) (lQ t m n):=Sh.dot a p p;have E:Sh (y6 t) (lE t v m n):=Sh.dot a p w;have C:Sh (y6 t) (lC t v m n):=Sh.qw a p w;exact⟨p,w,Q,E,C,(Sh.mul a Q d.r).sub (Sh.mul a C C)⟩
def SO(a:eJ (y6 t) t)(d:Model ι s t (y6 t))(b:zX (y6 t) v)(f:fx (y6 t) m)(e:fx (y6 t) n):vl ι s t (lX t v m n)=vl ι s t (lQ t m n)*vl ι s t v.r-vl ι s t (lC t v m n)*vl ι s t (lC t v m n):=by have h:=m8 a b f e;show vl ι s t (g8 (mulL t (lQ t m n) v.r) (mulL t (lC t v m n) (lC t v m n)))=_;rw[dU ι s (Sh.mul a h.hQ b.r) (Sh.mul a h.hC h.hC),cZ ι s a d h.hQ b.r,cZ ι s a d h.hC h.hC]
def PR(b:eJ (y6 t) t)(j:Model ι s t (y6 t))(i:zX (y6 t) v)(a:fx (y6 t) m)(f:fx (y6 t) n)(D:vl ι s t (lQ t m n)≠0){g r e d:K}(x:g*vl ι s t (lQ t m n)=vl ι s t (lE t v m n)+r)(w:r*r=vl ι s t (lX t v m n))
  (z:e=vl ι s t m.1+g*vl ι s t (lV m n).1) (y:d=vl ι s t m.2+g*vl ι s t (lV m n).2):
  (e-vl ι s t v.o.1)*(e-vl ι s t v.o.1)+(d-vl ι s t v.o.2)*(d-vl ι s t v.o.2)=vl ι s t v.r/\(vl ι s t n.1-vl ι s t m.1)*(d-vl ι s t m.2)-(vl ι s t n.2-vl ι s t m.2)*(e-vl ι s t m.1)=0:=by
 have h:=m8 b i a f;have A:vl ι s t (lQ t m n)=vl ι s t (lV m n).1*vl ι s t (lV m n).1+vl ι s t (lV m n).2*vl ι s t (lV m n).2:=tS ι s b j h.hv h.hv;have B:vl ι s t (lE t v m n)=vl ι s t (lV m n).1*vl ι s t (lW v m).1+vl ι s t (lV m n).2*vl ι s t (lW v m).2:=tS ι s b j h.hv h.hw;have C:vl ι s t (lC t v m n)=vl ι s t (lV m n).1*vl ι s t (lW v m).2-vl ι s t (lV m n).2*vl ι s t (lW v m).1:=Cz ι s b j h.hv h.hw;have k:=afV A D B C x (by rw[w,SO ι s b j i a f]);have p:vl ι s t (lW v m).1=vl ι s t v.o.1-vl ι s t m.1:=dU ι s i.o.1 a.1;have l:vl ι s t (lW v m).2=vl ι s t v.o.2-vl ι s t m.2:=dU ι s i.o.2 a.2;have v1:vl ι s t (lV m n).1=vl ι s t n.1-vl ι s t m.1:=dU ι s f.1 a.1;have v2:vl ι s t (lV m n).2=vl ι s t n.2-vl ι s t m.2:=dU ι s f.2 a.2;rw[<-k,z,y,p,l,v1,v2];clear k z y p l v1 v2 C B A x w D;generalize vl ι s t n.1=o;generalize vl ι s t n.2=c;generalize vl ι s t m.1=q;generalize vl ι s t m.2=u;generalize vl ι s t v.o.1=o1;generalize vl ι s t v.o.2=o2;exact⟨rg [g,o,c,q,u,o1,o2],rg [g,o,c,q,u]⟩
def SN(a:eJ (y6 t) t)(d:Model ι s t (y6 t))(i:zX (y6 t) v)(b:fx (y6 t) m)(f:fx (y6 t) n)(j:vl ι s t (lQ t m n)≠0)(x0:vl ι s t (lX t v m n)=0):Mg ι s t v (cM t m (lF t v m n) (lV m n))/\OnL ι s t m n (cM t m (lF t v m n) (lV m n)):=by
 have h:=m8 a i b f;have e:Sh (y6 t) (lF t v m n):=Sh.div a h.hE h.hQ;have g:vl ι s t (lF t v m n)*vl ι s t (lQ t m n)=vl ι s t (lE t v m n)+0:=by rw[add_zero'];exact lD ι s a d h.hE h.hQ j
 exact PR ι s a d i b f j g (by rw[x0,bB]) (qC ι s a d b e h.hv) (qB ι s a d b e h.hv)
def SM(k:eJ (y6 t) t)(d:Model ι s (lT t v m n) (lT t v m n).length)(j:zX (y6 t) v)(b:fx (y6 t) m)(f:fx (y6 t) n)(y:vl ι s t (lQ t m n)≠0):
  (Mg ι s (lT t v m n) v (cM (lT t v m n) m (lG t v m n) (lV m n))/\OnL ι s (lT t v m n) m n (cM (lT t v m n) m (lG t v m n) (lV m n)))/\(Mg ι s (lT t v m n) v (cM (lT t v m n) m (lH t v m n) (lV m n))/\OnL ι s (lT t v m n) m n (cM (lT t v m n) m (lH t v m n) (lV m n))):=by
 have h:=m8 k j b f;have I:lT t v m n=mK t (lX t v m n):=rfl;have a:eJ (lT t v m n).length (lT t v m n):=oN k _;have le:y6 t<=y6 (lT t v m n):=by rw[I,bW];omega
 obtain⟨D,c⟩:=Model.base ι s d;have i:Sh (lT t v m n).length (cg (y6 t)):=(iO (t:=t) (lX t v m n)).sh;have q:vl ι s (lT t v m n) (cg (y6 t))=s (y6 t):=te ι s _;have u:Sh (lT t v m n).length (lA t v m n):=(h.hE.mono le).add i;have o:Sh (lT t v m n).length (lB t v m n):=(h.hE.mono le).sub i;have F:Sh (lT t v m n).length (lG t v m n):=Sh.div a u (h.hQ.mono le);have E:Sh (lT t v m n).length (lH t v m n):=Sh.div a o (h.hQ.mono le);have p:vl ι s (lT t v m n) (lQ t m n)=vl ι s t (lQ t m n):=iE ι s _ h.hQ;have B:vl ι s (lT t v m n) (lE t v m n)=vl ι s t (lE t v m n):=iE ι s _ h.hE;have e:vl ι s (lT t v m n) (lQ t m n)≠0:=by rw[p];exact y
 have H:vl ι s (lT t v m n) (lG t v m n)*vl ι s t (lQ t m n)=vl ι s t (lE t v m n)+s (y6 t):=by
  have:=lD ι s a d u (h.hQ.mono le) e;rw[p]at this;refine this.trans ?_;show vl ι s (lT t v m n) (oX (lE t v m n) (cg (y6 t)))=_;rw[qD ι s (h.hE.mono le) i,q,B]
 have G:vl ι s (lT t v m n) (lH t v m n)*vl ι s t (lQ t m n)=vl ι s t (lE t v m n)+ -s (y6 t):=by
  have:=lD ι s a d o (h.hQ.mono le) e;rw[p]at this;refine this.trans ?_;show vl ι s (lT t v m n) (g8 (lE t v m n) (cg (y6 t)))=_;rw[dU ι s (h.hE.mono le) i,q,B,sub_def']
 have key:∀(g:ai cl)(r:K),Sh (lT t v m n).length g->vl ι s (lT t v m n) g*vl ι s t (lQ t m n)=vl ι s t (lE t v m n)+r->r*r=vl ι s t (lX t v m n)->Mg ι s (lT t v m n) v (cM (lT t v m n) m g (lV m n))/\OnL ι s (lT t v m n) m n (cM (lT t v m n) m g (lV m n)):=by
  intro g r sg C qr;have a1:=qC ι s a d (b.mono le) sg (h.hv.mono le);have w:=qB ι s a d (b.mono le) sg (h.hv.mono le);have A:vl ι s (lT t v m n) m.1=vl ι s t m.1:=iE ι s _ b.1;have z:vl ι s (lT t v m n) m.2=vl ι s t m.2:=iE ι s _ b.2;have J:vl ι s (lT t v m n) (lV m n).1=vl ι s t (lV m n).1:=iE ι s _ h.hv.1;have l:vl ι s (lT t v m n) (lV m n).2=vl ι s t (lV m n).2:=iE ι s _ h.hv.2;rw[A,J]at a1;rw[z,l]at w;obtain⟨k1,k2⟩:=PR ι s k D j b f y C qr a1 w;refine⟨Mg.up ι s j k1,?_⟩;unfold OnL;rw[A,z,show vl ι s (lT t v m n) n.1=vl ι s t n.1 from iE ι s _ f.1,show vl ι s (lT t v m n) n.2=vl ι s t n.2 from iE ι s _ f.2]
  exact k2
 refine⟨key _ _ F H c,key _ _ E G ?_⟩;rw[<-c];generalize s (y6 t)=x;exact rg [x]
structure Zb(k:aw)(x:Rp):Prop where
 o:fx k x.o
 q:fx k x.q
structure RpS(t:aM)(x:Rp):Prop where
 hy:fx t.length x.mc
 hd:Sh t.length (x.d t)
 hh:Sh t.length x.h
 hr:Sh t.length (x.r t)
def CT(b:eJ (y6 t) t){x:Rp}(h:Zb (y6 t) x):RpS t x:=by have y:fx (y6 t) x.mc:=h.q.sub h.o;have d:Sh (y6 t) (x.d t):=Sh.dot b y y;have a:Sh (y6 t) x.h:=Sh.l7 _ _;exact⟨y,d,a,(Sh.mul b (Sh.l7 _ _) d).sub (Sh.mul b a a)⟩
def Z_(a:eJ (y6 t) t)(b:Model ι s t (y6 t)){x:Rp}(h:Zb (y6 t) x):vl ι s t (x.r t)=ι.φ x.v.sq*vl ι s t (x.d t)-vl ι s t x.h*vl ι s t x.h:=by have S:=CT a h;show vl ι s t (g8 (mulL t (iq x.v.sq) (x.d t)) (mulL t x.h x.h))=_;rw[dU ι s (Sh.mul a (Sh.l7 _ _) S.hd) (Sh.mul a S.hh S.hh),cZ ι s a b (Sh.l7 _ _) S.hd,cZ ι s a b S.hh S.hh,gV]
def alA(x:Rp):vl ι s t x.h=ι.φ x.v.x*ι.φ x.u.y-ι.φ x.v.y*ι.φ x.u.x:=by show vl ι s t (iq (x.v.qw x.u))=_;rw[gV];unfold V2.qw;rw[ι.sub,ι.mul,ι.mul]
def anI{T:aM}(n:eJ (y6 t) t)(p:Model ι s t (y6 t))(b:eJ (y6 T) T)(d:Model ι s T (y6 T))(le:y6 t<=y6 T)(up:∀{a:ai cl},Sh (y6 t) a->vl ι s T a=vl ι s t a){x:Rp}(h:Zb (y6 t) x)(d0:vl ι s t (x.d t)≠0){root:ai cl}(l:Sh (y6 T) root)(w:vl ι s T root*vl ι s T root=vl ι s t (x.r t)):
  fx (y6 T) (x.z t T root)/\vl ι s T (x.z t T root).1*vl ι s T (x.z t T root).1+vl ι s T (x.z t T root).2*vl ι s T (x.z t T root).2=ι.φ x.v.sq/\vl ι s T (x.z t T root).1*vl ι s t x.mc.2-vl ι s T (x.z t T root).2*vl ι s t x.mc.1=vl ι s t x.h:=by
 have S:=CT n h;have c:=S.hy.mono le;have o:Sh (y6 T) (wH x.mc.2):=c.2.neg;have f:Sh (y6 T) (mulL T x.h (wH x.mc.2)):=Sh.mul b (S.hh.mono le) o;have e:Sh (y6 T) (mulL T x.h x.mc.1):=Sh.mul b (S.hh.mono le) c.1;have i:Sh (y6 T) (mulL T root x.mc.1):=Sh.mul b l c.1;have g:Sh (y6 T) (mulL T root x.mc.2):=Sh.mul b l c.2;have r:Sh (y6 T) (x.w T root).1:=i.sub f;have q:Sh (y6 T) (x.w T root).2:=g.sub e;have m:Sh (y6 T) (x.d t):=S.hd.mono le;have j:vl ι s T (x.d t)≠0:=by rw[up S.hd];exact d0
 have v:vl ι s T (x.z t T root).1*vl ι s t (x.d t)=vl ι s T root*vl ι s t x.mc.1-vl ι s t x.h* -vl ι s t x.mc.2:=by
  have:=lD ι s b d r m j;rw[up S.hd]at this;refine this.trans ?_;show vl ι s T (g8 (mulL T root x.mc.1) (mulL T x.h (wH x.mc.2)))=_;rw[dU ι s i f,cZ ι s b d l c.1,cZ ι s b d (S.hh.mono le) o,Hu ι s c.2,up S.hh,up S.hy.1,up S.hy.2]
 have u:vl ι s T (x.z t T root).2*vl ι s t (x.d t)=vl ι s T root*vl ι s t x.mc.2-vl ι s t x.h*vl ι s t x.mc.1:=by
  have:=lD ι s b d q m j;rw[up S.hd]at this;refine this.trans ?_;show vl ι s T (g8 (mulL T root x.mc.2) (mulL T x.h x.mc.1))=_;rw[dU ι s g e,cZ ι s b d l c.2,cZ ι s b d (S.hh.mono le) c.1,up S.hh,up S.hy.1,up S.hy.2]
 have y:vl ι s t (x.d t)=vl ι s t x.mc.1*vl ι s t x.mc.1+vl ι s t x.mc.2*vl ι s t x.mc.2:=tS ι s n p S.hy S.hy;have k:=aeD (aaK ι x.v) y d0 (alA ι s (t:=t) x) (by rw[w,Z_ ι s n p h]) v u
 exact⟨⟨Sh.div b r m,Sh.div b q m⟩,k⟩
end
section
variable {K:Type} [dH K] (ι:pD cl K) (s:aw->K) {t T:aM}
def Ia(T:aM)(P:Pt):K×K:=(vl ι s T P.1,vl ι s T P.2)
def zW(T:aM)(b:Pl):Prop:=vl ι s T b.c*vl ι s T b.c+vl ι s T b.s*vl ι s T b.s=1
def OnV(q r p:K×K):Prop:=(r.1-q.1)*(p.2-q.2)-(r.2-q.2)*(p.1-q.1)=0
variable {Q:Hd}
def CZ(g:eJ (y6 T) T)(h:Model ι s T (y6 T))(a:fx (y6 T) Q.o)(d:fx (y6 T) m)(b:Q.v.sq≠0)(on:Mg ι s T Q.cr m):
  Cj (y6 T) (oO T m Q)/\zW ι s T (oO T m Q)/\vV ι s (oO T m Q) T Q.p=Ia ι s T Q.o/\vV ι s (oO T m Q) T Q.c=Ia ι s T m:=by
 have w:fx (y6 T) (kv m Q.o):=d.sub a;have f:vl ι s T (kv m Q.o).1=vl ι s T m.1-vl ι s T Q.o.1:=dU ι s d.1 a.1;have e:vl ι s T (kv m Q.o).2=vl ι s T m.2-vl ι s T Q.o.2:=dU ι s d.2 a.2;have bv:=tx ι s g h (R:=Q.v) (S:=Q.p) w a b;have hw:vl ι s T (kv m Q.o).1*vl ι s T (kv m Q.o).1+vl ι s T (kv m Q.o).2*vl ι s T (kv m Q.o).2=ι.φ Q.v.sq:=by rw[f,e];have:_=vl ι s T (iq Q.v.sq):=on;rw[gV]at this;exact this
 refine⟨N6 g w a,(bv.unit ι s b hw).1,bv.o8 ι s,?_⟩;refine(bv.far ι s b hw rfl).trans ?_;rw[f,e];unfold Ia;generalize vl ι s T m.1=j;generalize vl ι s T m.2=i;generalize vl ι s T Q.o.1=o1;generalize vl ι s T Q.o.2=o2;exact Prod.ext (rg [j,o1]) (rg [i,o2])
def u9{a:ai cl}(c:eJ (y6 t) t)(d:Model ι s t (y6 t))(b:Sh (y6 t) a)(h:aL t a≠0):vl ι s t a≠0:=λe=>h (by rw[ku ι s c d b,e,iU])
def GP{a:ai cl}(c:eJ (y6 t) t)(d:Model ι s t (y6 t))(b:Sh (y6 t) a)(h:aL t a=0):vl ι s t a=0:=oL.1 (by rw[<-ku ι s c d b];exact h)
def ah0(T:aM)(A B:Hd)(a:ai Pl):Prop:=∃b c,a=[b,c]/\(Cj (y6 T) b/\Cj (y6 T) c)/\(zW ι s T b/\zW ι s T c)/\vV ι s b T A.p=Ia ι s T A.o/\vV ι s c T B.p=Ia ι s T B.o/\vV ι s b T A.c=vV ι s c T B.c
def DO{k:aw}(h:fx k Q.o):zX k Q.cr:=⟨h,Sh.l7 _ _⟩
def aly(c:eJ (y6 t) t){B:Hd}(p:fx (y6 t) Q.o)(o:fx (y6 t) B.o){ss:ai uU}(h:yB t Q B=a6 ss):∀z∈ss,Model ι s z.T (y6 z.T)->ah0 ι s z.T Q B z.ps:=by
 intro z d a;have ca:=DO p;have cb:=DO o;have C:=p7 c ca cb;unfold yB at h;split at h
 ·cases h
 ·rename_i u
  have nA:Q.v.sq≠0:=λe=>u (y1 e)
  have q:B.v.sq≠0:=λe=>u (y2 e)
  split at h
  ·split at h
   ·cases h
   ·cases h;cases d
  ·rename_i v
   split at h
   ·rename_i w
    cases h;have le:y6 t<=y6 (cT t Q.cr B.cr):=by show y6 t<=y6 (mK t (cX t Q.cr B.cr));rw[bW];omega
    have b:eJ (cT t Q.cr B.cr).length (cT t Q.cr B.cr):=oN c _;have D:z.T=cT t Q.cr B.cr:=by
     simp only[b4,bI,or_false]at d;obtain rfl|rfl:=d<;>rfl
    rw[D]at a⊢;obtain⟨E,-⟩:=Model.base ι s a;have two:=Tt ι s c a ca cb (u9 ι s c E C.hd v);have F:Sh (cT t Q.cr B.cr).length (cg (y6 t)):=(iO (t:=t) (cX t Q.cr B.cr)).sh;have y:Sh (cT t Q.cr B.cr).length (cH t Q.cr B.cr):=Sh.div b F (C.hW.mono le);have r:Sh (cT t Q.cr B.cr).length (Yo t Q.cr B.cr):=Sh.mul b (Sh.l7 _ _) y;have x:fx (cT t Q.cr B.cr).length (cN t Q.cr B.cr):=⟨Sh.mul b (Sh.l7 _ _) (C.hv.mono le).2,(C.hv.mono le).1⟩;have s1:fx (cT t Q.cr B.cr).length (Za t Q.cr B.cr):=(C.hF.mono le).along b y x;have s2:fx (cT t Q.cr B.cr).length (Y_ t Q.cr B.cr):=(C.hF.mono le).along b r x;simp only[b4,bI,or_false]at d;obtain rfl|rfl:=d
    ·obtain⟨n,m,l,k⟩:=CZ ι s b a (p.mono le) s1 nA two.1.1
     obtain⟨j,i,g,f⟩:=CZ ι s b a (o.mono le) s1 q two.1.2;exact⟨_,_,rfl,⟨n,j⟩,⟨m,i⟩,l,g,by rw[k,f]⟩
    ·obtain⟨n,m,l,k⟩:=CZ ι s b a (p.mono le) s2 nA two.2.1
     obtain⟨j,i,g,f⟩:=CZ ι s b a (o.mono le) s2 q two.2.2;exact⟨_,_,rfl,⟨n,j⟩,⟨m,i⟩,l,g,by rw[k,f]⟩
   ·split at h
    ·rename_i w
     cases h;simp only[b4,bI,or_false]at d;subst d;have one:=Tu ι s c a ca cb (u9 ι s c a C.hd v) (GP ι s c a C.hX w);obtain⟨n,m,l,k⟩:=CZ ι s c a p C.hF nA one.1;obtain⟨j,i,g,f⟩:=CZ ι s c a o C.hF q one.2;exact⟨_,_,rfl,⟨n,j⟩,⟨m,i⟩,l,g,by rw[k,f]⟩
    ·cases h;cases d
def akK(T:aM)(A:Hd)(p q:Pt)(a:ai Pl):Prop:=∃b,a=[b]/\Cj (y6 T) b/\zW ι s T b/\vV ι s b T A.p=Ia ι s T A.o/\OnV (Ia ι s T p) (Ia ι s T q) (vV ι s b T A.c)
def anL(a:eJ (y6 t) t)(k:fx (y6 t) Q.o)(e:fx (y6 t) m)(l:fx (y6 t) n)(q:aL t (lQ t m n)≠0){ss:ai uU}(h:MR t Q m n=a6 ss):∀z∈ss,Model ι s z.T (y6 z.T)->akK ι s z.T Q m n z.ps:=by
 intro z c b;have ca:=DO k;have L:=m8 a ca e l;unfold MR at h;split at h
 ·cases h
 ·rename_i nA
  split at h
  ·cases h
   have le:y6 t<=y6 (lT t Q.cr m n):=by show y6 t<=y6 (mK t (lX t Q.cr m n));rw[bW];omega
   have d:eJ (lT t Q.cr m n).length (lT t Q.cr m n):=oN a _;have o:z.T=lT t Q.cr m n:=by
    simp only[b4,bI,or_false]at c;obtain rfl|rfl:=c<;>rfl
   rw[o]at b⊢;obtain⟨u,-⟩:=Model.base ι s b;have two:=SM ι s a b ca e l (u9 ι s a u L.hQ q);have p:Sh (lT t Q.cr m n).length (cg (y6 t)):=(iO (t:=t) (lX t Q.cr m n)).sh;have x:Sh (lT t Q.cr m n).length (lG t Q.cr m n):=Sh.div d ((L.hE.mono le).add p) (L.hQ.mono le);have w:Sh (lT t Q.cr m n).length (lH t Q.cr m n):=Sh.div d ((L.hE.mono le).sub p) (L.hQ.mono le);have s1:=(e.mono le).along d x (L.hv.mono le);have s2:=(e.mono le).along d w (L.hv.mono le);simp only[b4,bI,or_false]at c;obtain rfl|rfl:=c
   ·obtain⟨j,i,g,f⟩:=CZ ι s d b (k.mono le) s1 nA two.1.1
    exact⟨_,rfl,j,i,g,by rw[f];exact two.1.2⟩
   ·obtain⟨j,i,g,f⟩:=CZ ι s d b (k.mono le) s2 nA two.2.1
    exact⟨_,rfl,j,i,g,by rw[f];exact two.2.2⟩
  ·split at h
   ·rename_i v
    cases h;simp only[b4,bI,or_false]at c;subst c;have one:=SN ι s a b ca e l (u9 ι s a b L.hQ q) (GP ι s a b L.hX v);have r:Sh (y6 t) (lF t Q.cr m n):=Sh.div a L.hE L.hQ;obtain⟨j,i,g,f⟩:=CZ ι s a b k (e.along a r L.hv) nA one.1;exact⟨_,rfl,j,i,g,by rw[f];exact one.2⟩
   ·cases h;cases c
def ahX(T:aM)(x:Rp)(a:ai Pl):Prop:=∃b,a=[b]/\Cj (y6 T) b/\zW ι s T b/\vV ι s b T x.p=Ia ι s T x.o/\∀g:V2,x.v=g.sub x.f->OnV (vV ι s b T x.f) (vV ι s b T g) (Ia ι s T x.q)
def Ry{T:aM}(w:eJ (y6 t) t)(L:Model ι s t (y6 t))(f:eJ (y6 T) T)(A:Model ι s T (y6 T))(le:y6 t<=y6 T)(up:∀{a:ai cl},Sh (y6 t) a->vl ι s T a=vl ι s t a){x:Rp}(h:Zb (y6 t) x)(d0:vl ι s t (x.d t)≠0){root:ai cl}(J:Sh (y6 T) root)(I:vl ι s T root*vl ι s T root=vl ι s t (x.r t))(n:x.v.sq≠0):ahX ι s T x [x.pl t T root]:=by
 obtain⟨i,B,b⟩:=anI ι s w L f A le up h d0 J I;have oT:=h.o.mono le;have bv:=tx ι s f A (R:=x.v) (S:=x.p) i oT n;obtain⟨e,k,j⟩:=bv.unit ι s n B;refine⟨_,rfl,N6 f i oT,e,bv.o8 ι s,λg v=>?_⟩
 have q:=bv.hx;have o:=bv.hy;have S:=CT w h;have D:vl ι s t x.mc.1=vl ι s t x.q.1-vl ι s t x.o.1:=dU ι s h.q.1 h.o.1;have C:vl ι s t x.mc.2=vl ι s t x.q.2-vl ι s t x.o.2:=dU ι s h.q.2 h.o.2;have r:=alA ι s (t:=t) x;rw[r,D,C]at b;rw[<-k,<-j]at b;unfold OnV Ia vV;rw[show x.pl t T root=s_ T x.v (x.z t T root) x.p x.o from rfl,q,o,up h.q.1,up h.q.2,up h.o.1,up h.o.2]
 have N:ι.φ x.v.x=ι.φ g.x-ι.φ x.f.x:=by rw[v];exact ι.sub _ _
 have M:ι.φ x.v.y=ι.φ g.y-ι.φ x.f.y:=by rw[v];exact ι.sub _ _
 have F:ι.φ x.u.x=ι.φ x.f.x-ι.φ x.p.x:=ι.sub _ _;have E:ι.φ x.u.y=ι.φ x.f.y-ι.φ x.p.y:=ι.sub _ _;rw[N,M,F,E]at b;have d:vl ι s T (s_ T x.v (x.z t T root) x.p x.o).c*vl ι s T (s_ T x.v (x.z t T root) x.p x.o).c+vl ι s T (s_ T x.v (x.z t T root) x.p x.o).s*vl ι s T (s_ T x.v (x.z t T root) x.p x.o).s=1:=e;simp only;clear e k j q o bv r;generalize vl ι s T (s_ T x.v (x.z t T root) x.p x.o).c=c at b d⊢;generalize vl ι s T (s_ T x.v (x.z t T root) x.p x.o).s=σ at b d⊢;generalize ι.φ g.x=z at b⊢;generalize ι.φ g.y=y at b⊢;generalize ι.φ x.f.x=f1 at b⊢;generalize ι.φ x.f.y=f2 at b⊢;generalize ι.φ x.p.x=m at b⊢;generalize ι.φ x.p.y=l at b⊢;generalize vl ι s t x.q.1=H at b⊢;generalize vl ι s t x.q.2=G at b⊢;generalize vl ι s t x.o.1=o1 at b⊢;generalize vl ι s t x.o.2=o2 at b⊢;exact rg2 [c,σ,z,y,f1,f2,m,l,H,G,o1,o2] (-((z-f1)*(f2-l)-(y-f2)*(f1-m))) 1 d b
def anJ(a:eJ (y6 t) t){x:Rp}(f:Zb (y6 t) x)(j:x.v.sq≠0){ss:ai uU}(h:MI t x=a6 ss):∀z∈ss,Model ι s z.T (y6 z.T)->ahX ι s z.T x z.ps:=by
 intro z d c;have S:=CT a f;unfold MI at h;split at h
 ·cases h
 ·rename_i q
  have d0:Model ι s t (y6 t)->dH.nn (vl ι s t (x.r t))->vl ι s t (x.d t)≠0:=λb i e=>by
   have g:=Z_ ι s a b f;rw[e,bB]at g;have r:vl ι s t x.h*vl ι s t x.h=0:=Nd (rN _) (by
    have u: -(vl ι s t x.h*vl ι s t x.h)=vl ι s t (x.r t):=by
     rw[g];generalize vl ι s t x.h=y;exact rg [y]
    rw[u];exact i)
   refine q ⟨?_,?_⟩
   ·rw[ku ι s a b S.hd,e,iU]
   ·rw[ku ι s a b S.hh,qI r,iU]
  split at h
  ·rename_i k
   cases h;have le:y6 t<=y6 (x.T t):=by show y6 t<=y6 (mK t (x.r t));rw[bW];omega
   have n:eJ (x.T t).length (x.T t):=oN a _;have p:z.T=x.T t:=by
    simp only[b4,bI,or_false]at d;obtain rfl|rfl:=d<;>rfl
   rw[p]at c⊢;obtain⟨b,g⟩:=Model.base ι s c;have i:dH.nn (vl ι s t (x.r t)):=ZQ.1 (by rw[<-ku ι s a b S.hr,k];decide)
   have l:Sh (x.T t).length (cg (y6 t)):=(iO (t:=t) (x.r t)).sh;have o:vl ι s (x.T t) (cg (y6 t))=s (y6 t):=te ι s _;simp only[b4,bI,or_false]at d;obtain rfl|rfl:=d
   ·exact Ry ι s a b n c le (λh=>iE ι s _ h) f (d0 b i) l (by rw[o];exact g) j
   ·refine Ry ι s a b n c le (λh=>iE ι s _ h) f (d0 b i) l.neg ?_ j
    rw[Hu ι s l,o,<-g];generalize s (y6 t)=y;exact rg [y]
  ·split at h
   ·rename_i k
    cases h;simp only[b4,bI,or_false]at d;subst d;have m:=GP ι s a c S.hr k;exact Ry ι s a c a c (apc _) (λh=>rfl) f (d0 c (by rw[m];exact UO)) (.nil _) (by rw[Ht,m,bB]) j
   ·cases h;cases d
end
section
variable {K:Type} [dH K] (ι:pD cl K) (s:aw->K) {t T:aM}
def JK(a:eJ (y6 t) t)(h:Cj (y6 t) g)(x y:cl):fx (y6 t) (J4 t g x y):=by
 have d:(J4 t g x y).1=oX (g8 (mulL t g.c (iq x)) (mulL t g.s (iq y))) g.x:=by simp only[J4,A5,u5,yC]
 have c:(J4 t g x y).2=oX (oX (mulL t g.s (iq x)) (mulL t g.c (iq y))) g.y:=by simp only[J4,A5,u5,yC]
 have f:=Sh.mul a h.c (Sh.l7 (y6 t) x);have e:=Sh.mul a h.c (Sh.l7 (y6 t) y);have s1:=Sh.mul a h.s (Sh.l7 (y6 t) x);have s2:=Sh.mul a h.s (Sh.l7 (y6 t) y);exact⟨by rw[d];exact(f.sub s2).add h.x,by rw[c];exact(s1.add e).add h.y⟩
def Up(t T:aM):Prop:=T=t\/∃d,T=mK t d
def Up.len(h:Up t T):y6 t<=y6 T/\y6 T<=y6 t+1:=by
 obtain rfl|⟨d,rfl⟩:=h
 omega;rw[bW];omega
def Up.model(h:Up t T)(a:Model ι s T (y6 T)):Model ι s t (y6 t):=by
 obtain rfl|⟨d,rfl⟩:=h
 exact a;exact(Model.base ι s a).1
def Up.vl(h:Up t T){a:ai cl}(b:Sh (y6 t) a):vl ι s T a=vl ι s t a:=by
 obtain rfl|⟨d,rfl⟩:=h
 rfl;exact iE ι s d b
def Up.at(h:Up t T)(a:Cj (y6 t) g)(m:V2):vV ι s g T m=vV ι s g t m:=by unfold vV;rw[h.vl ι s a.c,h.vl ι s a.s,h.vl ι s a.x,h.vl ι s a.y]
def Up.place(h:Up t T)(d:eJ (y6 t) t)(e:Model ι s T (y6 T))(a:Cj (y6 t) g)(m:V2):Ia ι s T (J4 t g m.x m.y)=vV ι s g T m:=by have c:=JK d a m.x m.y;unfold Ia;rw[h.vl ι s c.1,h.vl ι s c.2,h.at ι s a];exact adO ι s d (h.model ι s e) a m
def Cj.mono{k m:aw}{b:Pl}(h:Cj k b)(a:k<=m):Cj m b:=⟨h.c.mono a,h.s.mono a,h.x.mono a,h.y.mono a⟩
def Up.unit(h:Up t T)(a:Cj (y6 t) g)(u:zW ι s t g):zW ι s T g:=by unfold zW;rw[h.vl ι s a.c,h.vl ι s a.s];exact u
def JtV(l:Lk)(a:As)(j:Jt):Prop:=
 (j.kind=0->vV ι s (dt a j.a) a.t (n8 (dQ l j.a j.p))=vV ι s (dt a j.b) a.t (n8 (dQ l j.b j.on)))/\
 (j.kind=1->OnV (vV ι s (dt a j.b) a.t (n8 (dQ l j.b j.on))) (vV ι s (dt a j.b) a.t (n8 (dQ l j.b j.to))) (vV ι s (dt a j.a) a.t (n8 (dQ l j.a j.p))))
variable {j:As}
def MT{g:As}{k b o:aw}(hw:((fc d i k).a=b/\(fc d i k).b=o)\/((fc d i k).a=o/\(fc d i k).b=b))(f:o≠b)(l:(fc d i k).kind=0)
  (h:vV ι s (dt g b) g.t (n8 (jX d i k b))=Ia ι s g.t (il d i j k b)) (a:∀m,Ia ι s g.t (kS d j o m)=vV ι s (dt g o) g.t (n8 (dQ d o m))):JtV ι s d g (fc d i k):=by
 refine⟨λ_=>?_,λc=>by rw[l]at c;cases c⟩;unfold jX il at h;rcases hw with⟨c,e⟩|⟨c,e⟩
 rw[aph c,aph c,e,a]at h;rw[c,e];exact h;rw[ape (by rw[c];exact f),ape (by rw[c];exact f),c,a]at h;rw[c,e];exact h.symm
def ai1{k b o:aw}(hw:((fc d i k).a=b/\(fc d i k).b=o)\/((fc d i k).a=o/\(fc d i k).b=b))(e:o≠b)(f:(fc d i k).kind=0)
  (h:vV ι s (dt j b) j.t (n8 (jX d i k b))=vV ι s (dt j o) j.t (n8 (jX d i k o))):JtV ι s d j (fc d i k):=by
 refine⟨λ_=>?_,λa=>by rw[f]at a;cases a⟩;unfold jX at h;rcases hw with⟨a,g⟩|⟨a,g⟩
 rw[aph a,ape (by rw[a];exact aqZ e)]at h;rw[a,g];exact h;rw[ape (by rw[a];exact e),aph a]at h;rw[a,g];exact h.symm
def af0{b:As}(hu:Up j.t b.t)(c:Cj (y6 j.t) (dt j Z.a))(sb:Cj (y6 j.t) (dt j Z.b))(a:dt b Z.a=dt j Z.a)(eb:dt b Z.b=dt j Z.b)(h:JtV ι s d j Z):JtV ι s d b Z:=by unfold JtV;rw[a,eb,hu.at ι s c,hu.at ι s sb,hu.at ι s sb];exact h
end
variable {L:Pl} {j:As} {u:aM}
def Ag{b:aw}{T:aM}{m:cA}(c:b<y6 j.bs)(i:aw):dt (j.BK b g T m) i=if i=b then g else dt j i:=by show(j.bs.set b g).getD i _=_;rw[apf,asP];by_cases h:b=i;subst h;simp[c];rw[ape h,ape (λe=>h e.symm)];rfl
def GX{b c:aw}{T:aM}{m:cA}(f:b<y6 j.bs)(d:c<y6 j.bs)(i:aw):dt (j.xC b c g L T m) i=if i=c then L else if i=b then g else dt j i:=by show((j.bs.set b g).set c L).getD i _=_;rw[apf,asP];by_cases h:c=i;subst h;simp[d];rw[ape h,ape (λe=>h e.symm)];have:=Ag (g:=g) (T:=T) (m:=m) f i;unfold dt As.BK at this;rw[apf]at this;exact this
def agt(x:Tn):x.cos*x.cos+x.sin*x.sin=1:=by
 have a:=x.Ff;unfold Tn.cos Tn.sin;cases c:x.half with
 |true=>
  simp only[gn];decide+kernel
 |false=>
  simp only[cy,jv];have e:x.den=((1:cA):cl)+x.t*x.t:=rfl;generalize x.den=d at a e;have b:((1:cA):cl)=1:=rfl;rw[b]at e⊢;generalize x.t=y at e
  grind
def z5.shB{n:aw}(h:z5 n u g):Cj (y6 u) g:=⟨gP.sh h _ zb,gP.sh h _ zb,gP.sh h _ zb,gP.sh h _ zb⟩
def JtH(l:Lk)(a:As)(j:Jt):Prop:=∀(K:Type)[dH K](ι:pD cl K)(s:aw->K),Model ι s a.t (y6 a.t)->JtV ι s l a j
def TnH(t:aM)(b:Pl)(x:Tn):Prop:=∀(K:Type)[dH K](ι:pD cl K)(s:aw->K),Model ι s t (y6 t)->vl ι s t b.c=ι.φ x.cos/\vl ι s t b.s=ι.φ x.sin
def aeg(l:Lk)(s:Fn):Prop:=∀d<y6 l.ds,y7 s.nR (y7 l.ds d bc).body aj=bj
def akY(l:Lk):Prop:=∀i j,i<y6 l.ds->j<y6 l.ds->(y7 l.ds i bc).body=(y7 l.ds j bc).body->i=j
def LU{l:Lk}(b:g7 l):∀n≤y6 l.ds,∀d<n,(A0 l n).getD (y7 l.ds d bc).body aj=bj
 |0,_,d,c=>by omega
 |n+1,e,d,c=>by
  rw[LS l za,CO,Ji];by_cases h:d<n;have:=LU b n za d h;rw[this];simp;obtain rfl:d=n:=za
  rw[aph ⟨rfl,b.body _ (aA za _)⟩]
def HN{l:Lk}{gs:ai Gp}:∀k≤y6 gs,(Gn l gs k).nR=A0 l (y6 l.ds)
 |0,_=>by rw[Gn,aqY];rfl
 |k+1,h=>by rw[vX za];exact HN k za
def aeO{l:Lk}(b:g7 l){gs:ai Gp}{k:aw}(h:k<=y6 gs):aeg l (Gn l gs k):=λd c=>by rw[HN k h];exact LU b _ (apc _) d c
def zz{s:Fn}{i:aw}(h:r6 s i=bj):y7 s.nR i aj=aj:=by unfold r6 at h;rw[dT]at h;simpa using h.2
structure VSt(l:Lk)(xs:ai Tn)(s:Fn)(a:As):Prop where
 sh:∀i,Cj a.t.length (dt a i)
 un:∀i,s.known.getD i aj=bj->JO a.t (dt a i)
 jo:∀j<l.js.length,s.used.getD j aj=bj->JtH l a (l.js.getD j bc)
 dv:∀d<l.ds.length,s.known.getD (l.ds.getD d bc).body aj=bj->TnH a.t (dt a (l.ds.getD d bc).body) (xs.getD d ⟨0,aj⟩)
 fr:dt a 0=⟨iq ((1:cA):cl),[],[],[]⟩
structure YJ(l:Lk)(xs:ai Tn)(s:Fn)(a a':As)(g:Gp):Prop where
 up:Up a.t a'.t
 FX:∀i,i∉g.bs->dt a' i=dt a i
 sh:∀i∈g.bs,Cj a'.t.length (dt a' i)
 un:∀i∈g.bs,JO a'.t (dt a' i)
 jo:∀j∈g.js,JtH l a' (l.js.getD j bc)
 dv:∀d<l.ds.length,(l.ds.getD d bc).body∈g.bs->TnH a'.t (dt a' (l.ds.getD d bc).body) (xs.getD d ⟨0,aj⟩)
def YJ.step{l:Lk}{xs:ai Tn}{s:Fn}{a q:As}{g:Gp}(v:g7 l)(hs:qt l s)(hu:zV l s)(t:s.known.getD 0 aj=bj)(y:tC l s g)(st:VSt l xs s a)(n:YJ l xs s a q g):VSt l xs (s.add g) q:=by
 obtain⟨-,z⟩:=y.adF v;have c:∀i,s.known.getD i aj=bj->i∉g.bs:=λi b u=>by rw[(z i u).2]at b;cases b
 have o:∀i,(s.add g).known.getD i aj=bj->i∈g.bs\/s.known.getD i aj=bj:=λi b=>((m9 hs g i).1 b).elim .inr λh=>.inl h.1
 refine⟨λi=>?_,λi b=>?_,λj x f=>?_,λd p w=>?_,?_⟩
 ·by_cases h:i∈g.bs
  ·exact n.sh i h
  ·rw[n.FX i h];exact(st.sh i).mono n.up.len.1
 ·obtain h|h:=o i b
  ·exact n.un i h
  ·rw[n.FX i (c i h)]
   intro K _ ι σ e;exact n.up.unit ι σ (st.sh i) (st.un i h K ι σ (n.up.model ι σ e))
 ·rcases(Di g.js s.used j).1 f with h|⟨h,-⟩
  ·obtain⟨m,k⟩:=hu j h
   intro K _ ι σ e;exact af0 ι σ n.up (st.sh _) (st.sh _) (n.FX _ (c _ m)) (n.FX _ (c _ k)) (st.jo j x h K ι σ (n.up.model ι σ e))
  ·exact n.jo j h
 ·obtain h|h:=o _ w
  ·exact n.dv d p h
  ·rw[n.FX _ (c _ h)]
   intro K _ ι σ e;obtain⟨m,k⟩:=st.dv d p h K ι σ (n.up.model ι σ e);exact⟨by rw[n.up.vl ι σ (st.sh _).c];exact m,by rw[n.up.vl ι σ (st.sh _).s];exact k⟩
 ·rw[n.FX 0 (c 0 t)];exact st.fr
section
variable {l:Lk} {xs:ai Tn} {s:Fn} {a:As} {r n N D δ:aw}
def Pe(c:eJ (y6 a.t) a.t)(st:VSt l xs s a){k b:aw}:fx (y6 a.t) (il l i a k b):=by unfold il;split<;>exact JK c (st.sh _) _ _
def agn(A:j7 a.t)(V:g7 l)(lb:y6 a.bs=y6 l.bs)(Dx:akY l)(st:VSt l xs s a){d body o8:aw}(I:d<y6 l.ds)(J:(y7 l.ds d bc).body=body)(Q:y7 s.known body aj=aj)(S:YM l s 0 body o8){ss:ai uU}(h:iX l a ⟨0,[body],[o8],d⟩ (rM xs ⟨0,[body],[o8],d⟩)=a6 ss):
  ∀z∈ss,YJ l xs s a (a.put ⟨0,[body],[o8],d⟩ z) ⟨0,[body],[o8],d⟩:=by
 have e:Kv l a ⟨0,[body],[o8],d⟩ body (y7 xs d ⟨0,aj⟩)=a6 ss:=h;intro z F;simp only[Kv,eE]at e;subst e;rw[apg]at F;subst F;generalize R:y7 xs d ⟨0,aj⟩=x;generalize H:(⟨0,[body],[o8],d⟩:Gp)=g;have v:g.bs=[body]:=by rw[<-H]
 have L:g.js=[o8]:=by rw[<-H]
 have Z:body<y6 a.bs:=by rw[lb,<-J];exact V.body _ (aA I _)
 have X:a.put g ⟨a.t,[E9 l a g body x.cos x.sin],1⟩=a.BK body (E9 l a g body x.cos x.sin) a.t 1:=by unfold As.put;rw[v]
 rw[X];have pt:fx (y6 a.t) (il l g a 0 body):=Pe A.sh st;have E:V2.sq ⟨((1:cA):cl),0⟩=1:=z2
 have P:V2.sq ⟨((1:cA):cl),0⟩≠0:=by rw[E];decide
 have q:=Ag (g:=E9 l a g body x.cos x.sin) (T:=a.t) (m:=1) Z;have Y:Cj (y6 a.t) (E9 l a g body x.cos x.sin):=N6 A.sh (fx.of _ _ _) pt;obtain⟨Xw,t,o,U,O⟩:=S;have B:o≠body:=λe=>by rw[e,Q]at O;cases O
 have bv:∀(K:Type)[dH K](ι:pD cl K)(σ:aw->K),Model ι σ a.t (y6 a.t)->vB ι σ a.t (E9 l a g body x.cos x.sin) ⟨((1:cA):cl),0⟩ (ι.φ x.cos) (ι.φ x.sin) (n8 (jX l g 0 body)) (vl ι σ a.t (il l g a 0 body).1) (vl ι σ a.t (il l g a 0 body).2):=λK _ ι σ c=>by
  have:=tx ι σ A.sh c (R:=⟨((1:cA):cl),0⟩) (S:=n8 (jX l g 0 body)) (m:=yC x.cos x.sin) (fx.of _ _ _) pt P;simp only[yC,gV]at this;exact this
 have i1:∀(K:Type)[dH K](ι:pD cl K),ι.φ ((1:cA):cl)=1:=λK _ ι=>ι.one
 have cs:∀(K:Type)[dH K](ι:pD cl K)(σ:aw->K),Model ι σ a.t (y6 a.t)->vl ι σ a.t (E9 l a g body x.cos x.sin).c=ι.φ x.cos/\vl ι σ a.t (E9 l a g body x.cos x.sin).s=ι.φ x.sin:=λK _ ι σ c=>by
  have h:=bv K ι σ c;have k:=h.hc;have f:=h.hs;rw[E,ι.one,pU]at k f;simp only at k f;rw[i1,ι.zero]at k f;refine⟨k.trans ?_,f.trans ?_⟩
  ·generalize ι.φ x.cos=y
   generalize ι.φ x.sin=z;exact rg [y,z]
  ·generalize ι.φ x.cos=y
   generalize ι.φ x.sin=z;exact rg [y,z]
 refine⟨y1 rfl,λi b=>?_,λi b=>?_,λi b=>?_,λj G=>?_,λM Ax C=>?_⟩
 ·rw[v,apg]at b
  rw[q,ape b]
 ·rw[v,apg]at b
  rw[q,aph b];exact Y
 ·rw[v,apg]at b
  rw[q,aph b];intro K _ ι σ c;obtain⟨k,f⟩:=cs K ι σ c;show vl ι σ a.t _*vl ι σ a.t _+vl ι σ a.t _*vl ι σ a.t _=1;rw[k,f,<-ι.mul,<-ι.mul,<-ι.add,agt,ι.one]
 ·rw[L,apg]at G
  subst G;intro K _ ι σ c;have W:y7 l.js j bc=fc l g 0:=by unfold fc;rw[L];rfl
  have hw:=mZ U B;rw[W]at hw t⊢;refine MT (j:=a) ι σ hw B t ?_ λm=>?_
  ·rw[q,aph rfl]
   exact(bv K ι σ c).o8 ι σ
  ·rw[q,ape B]
   exact Up.place ι σ (y1 rfl) A.sh c (st.sh o) (n8 (dQ l o m))
 ·rw[v,apg]at C
  have:M=d:=Dx M d Ax I (C.trans J.symm);subst this;rw[q,aph C,R];exact cs
end
section
variable {l:Lk} {xs:ai Tn} {s:Fn} {a:As} {r n N D δ:aw}
def aaR(R:j7 a.t)(lb:y6 a.bs=y6 l.bs)(Q:aeg l s)(st:VSt l xs s a){i j y w u:aw}(pC:i<j)(hj:j<y6 l.bs)(fi:r6 s i=bj)(fj:r6 s j=bj)(ha:YM l s 0 i y)(hb:YM l s 0 j w)(Y:(y7 l.js u bc).kind=0)(oc:ud (y7 l.js u bc) i=a6 j){x:Tn}{ss:ai uU}(h:iX l a ⟨1,[i,j],[y,w,u],0⟩ x=a6 ss):
  ∀z∈ss,Q7 N D a.t z->(∃b c,z.ps=[b,c])/\YJ l xs s a (a.put ⟨1,[i,j],[y,w,u],0⟩ z) ⟨1,[i,j],[y,w,u],0⟩:=by
 intro z hz V;have e:yB a.t (AX l ⟨1,[i,j],[y,w,u],0⟩ a 0 i) (AX l ⟨1,[i,j],[y,w,u],0⟩ a 1 j)=a6 ss:=h;clear h;generalize Z:(⟨1,[i,j],[y,w,u],0⟩:Gp)=g at e⊢;have I:g.bs=[i,j]:=by rw[<-Z]
 have L:g.js=[y,w,u]:=by rw[<-Z]
 have pt:∀k b,fx (y6 a.t) (il l g a k b):=λk b=>Pe R.sh st
 have X:∀(K:Type)[dH K](ι:pD cl K)(σ:aw->K),Model ι σ z.T (y6 z.T)->ah0 ι σ z.T (AX l g a 0 i) (AX l g a 1 j) z.ps:=λK _ ι σ t=>aly ι σ R.sh (pt 0 i) (pt 1 j) e z hz t
 obtain⟨K0,_,ι0,σ0,S⟩:=V.ok.model (y6 z.T) (apc _);obtain⟨b,c,U,⟨sb,sc⟩,-⟩:=X K0 ι0 σ0 S;refine⟨⟨b,c,U⟩,?_⟩;have ea:a.put g z=a.xC i j b c z.T z.mode:=by unfold As.put;rw[I,U]
 rw[ea];have ki:=fQ fi;have kj:=fQ fj;have v:=GX (g:=b) (L:=c) (T:=z.T) (m:=z.mode) (j:=a) (b:=i) (c:=j) (by rw[lb];omega) (by rw[lb];exact hj)
 have B:i≠j:=za
 have O:dt (a.xC i j b c z.T z.mode) i=b:=by rw[v,ape B,aph rfl]
 have M:dt (a.xC i j b c z.T z.mode) j=c:=by rw[v,aph rfl]
 have A:∀(K:Type)[dH K](ι:pD cl K)(σ:aw->K),Model ι σ z.T (y6 z.T)->(zW ι σ z.T b/\zW ι σ z.T c)/\vV ι σ b z.T (n8 (jX l g 0 i))=Ia ι σ z.T (il l g a 0 i)/\vV ι σ c z.T (n8 (jX l g 1 j))=Ia ι σ z.T (il l g a 1 j)/\vV ι σ b z.T (n8 (jX l g 2 i))=vV ι σ c z.T (n8 (jX l g 2 j)):=λK _ ι σ t=>by
  obtain⟨b',c',W,-,k2,k3,k4,k5⟩:=X K ι σ t;rw[U]at W;simp only[en,and_true]at W;obtain⟨rfl,rfl⟩:=W;exact⟨k2,k3,k4,k5⟩
 have F:∀{o:aw},y7 s.known o aj=bj->o≠i/\o≠j:=λf=>⟨λe=>(by rw[e,ki]at f;cases f),λe=>(by rw[e,kj]at f;cases f)⟩
 have FX:∀o,y7 s.known o aj=bj->dt (a.xC i j b c z.T z.mode) o=dt a o:=λo f=>by
  rw[v,ape (F f).2,ape (F f).1]
 have G:∀(K:Type)[dH K](ι:pD cl K)(σ:aw->K),Model ι σ z.T (y6 z.T)->∀o,y7 s.known o aj=bj->∀m,Ia ι σ z.T (kS l a o m)=vV ι σ (dt (a.xC i j b c z.T z.mode) o) z.T (n8 (dQ l o m)):=λK _ ι σ t o f m=>by
  rw[FX o f];exact Up.place ι σ V.tow R.sh t (st.sh o) (n8 (dQ l o m))
 refine⟨V.tow,λk f=>?_,λk f=>?_,λk f=>?_,λk f=>?_,λd hd C=>?_⟩
 ·rw[I]at f
  simp only[b4,bI,or_false,not_or]at f;rw[v,ape f.2,ape f.1]
 ·rw[I]at f
  simp only[b4,bI,or_false]at f;obtain rfl|rfl:=f
  ·rw[O];exact sb
  ·rw[M];exact sc
 ·rw[I]at f
  simp only[b4,bI,or_false]at f;obtain rfl|rfl:=f
  ·rw[O];exact λK _ ι σ t=>(A K ι σ t).1.1
  ·rw[M];exact λK _ ι σ t=>(A K ι σ t).1.2
 ·rw[L]at f
  simp only[b4,bI,or_false]at f;intro K _ ι σ t;obtain⟨-,k3,k4,k5⟩:=A K ι σ t;obtain rfl|rfl|rfl:=f
  ·obtain⟨h1,H,o,P,E⟩:=ha
   have J:y7 l.js k bc=fc l g 0:=by unfold fc;rw[L];rfl
   have hw:=mZ P (F E).1;rw[J]at hw H⊢;exact MT (j:=a) ι σ hw (F E).1 H (by rw[O];exact k3) (G K ι σ t o E)
  ·obtain⟨h1,H,o,P,E⟩:=hb
   have J:y7 l.js k bc=fc l g 1:=by unfold fc;rw[L];rfl
   have hw:=mZ P (F E).2;rw[J]at hw H⊢;exact MT (j:=a) ι σ hw (F E).2 H (by rw[M];exact k4) (G K ι σ t o E)
  ·have J:y7 l.js k bc=fc l g 2:=by unfold fc;rw[L];rfl
   have hw:=mZ oc (aqZ B);rw[J]at hw Y⊢;exact ai1 ι σ hw (aqZ B) Y (by rw[O,M];exact k5)
 ·exfalso
  rw[I]at C;simp only[b4,bI,or_false]at C;have:=Q d hd;obtain C|C:=C
  ·rw[C,zz fi]at this;cases this
  ·rw[C,zz fj]at this;cases this
def RG(hT:dn δ a.t)(hl:g7 l)(hB:LkB r l)(pl:∀i,z5 n a.t (dt a i))(lb:y6 a.bs=y6 l.bs)(Q:aeg l s)(st:VSt l xs s a){i F c:aw}(hi:i<y6 l.bs)(fi:r6 s i=bj)(ha:YM l s 0 i F)(hb:YM l s 1 i c){x:Tn}{ss:ai uU}(h:iX l a ⟨eO l i c,[i],[F,c],0⟩ x=a6 ss):
    ∀z∈ss,Q7 N D a.t z->(∃b,z.ps=[b])/\YJ l xs s a (a.put ⟨eO l i c,[i],[F,c],0⟩ z) ⟨eO l i c,[i],[F,c],0⟩:=by
  intro z hz P5;have j:=hT.b.ok;have ki:=fQ fi;have E:∀{o:aw},y7 s.known o aj=bj->o≠i:=λf e=>by rw[e,ki]at f;cases f
  obtain⟨TD,w,p,hp,y⟩:=hb;have L:=mZ hp (E y);obtain⟨q1,q2,q3,q4,P⟩:=hl.at TD;have P:=P w;have jm:=aA TD (bc:Jt);have Y:=hl.ne _ jm w;generalize M:(⟨eO l i c,[i],[F,c],0⟩:Gp)=g at h⊢;have I:g.bs=[i]:=by rw[<-M]
  have gj:g.js=[F,c]:=by rw[<-M]
  have pt:∀k b,fx (y6 a.t) (il l g a k b):=λk b=>Pe j.sh st
  have H:∃C:V2,True/\∀(K:Type)[dH K](ι:pD cl K)(σ:aw->K),Model ι σ z.T (y6 z.T)->∃b,z.ps=[b]/\Cj (y6 z.T) b/\zW ι σ z.T b/\vV ι σ b z.T (n8 (jX l g 0 i))=Ia ι σ z.T (il l g a 0 i)/\
      (((y7 l.js c bc).a=i/\OnV (Ia ι σ z.T (kS l a (y7 l.js c bc).b (y7 l.js c bc).on)) (Ia ι σ z.T (kS l a (y7 l.js c bc).b (y7 l.js c bc).to)) (vV ι σ b z.T (n8 (dQ l i (y7 l.js c bc).p))))\/
       ((y7 l.js c bc).a≠i/\OnV (vV ι σ b z.T (n8 (dQ l i (y7 l.js c bc).on))) (vV ι σ b z.T (n8 (dQ l i (y7 l.js c bc).to))) (Ia ι σ z.T (kS l a (y7 l.js c bc).a (y7 l.js c bc).p)))):=by
    refine⟨⟨0,0⟩,trivial,λK _ ι σ q=>?_⟩
    by_cases f:(y7 l.js c bc).a=i
    · have W:eO l i c=2:=by unfold eO;rw[aph f]
      have u:(y7 l.js c bc).b=p:=(L.resolve_right λh=>(E y) (h.1.symm.trans f)).2
      have e:MR a.t (Ku l a (i:=i) g (y7 l.js c bc)) (kS l a (y7 l.js c bc).b (y7 l.js c bc).on) (kS l a (y7 l.js c bc).b (y7 l.js c bc).to)=a6 ss:=by
        rw[<-M]at h⊢;rw[W]at h⊢;exact h
      have un:JO a.t (dt a (y7 l.js c bc).b):=by rw[u];exact st.un _ y
      have ll:=IM hT hB pl q4 P un Y;obtain⟨b,v,G,V,U,S⟩:=anL ι σ j.sh (Q:=Ku l a (i:=i) g (y7 l.js c bc)) (pt 0 i) (JK j.sh (st.sh _) _ _) (JK j.sh (st.sh _) _ _) (λe0=>api (ll.symm.trans e0) zv) e z hz q
      exact⟨b,v,G,V,U,y1 ⟨f,S⟩⟩
    · have W:eO l i c=3:=by unfold eO;rw[ape f]
      have hw:=L.resolve_left λh=>f h.1
      have e:MI a.t (H0 l g a i (y7 l.js c bc))=a6 ss:=by
        rw[<-M]at h⊢;rw[W]at h⊢;exact h
      rw[hw.2]at Y;have nz:(H0 l g a i (y7 l.js c bc)).v.sq≠0:=V2.RD Y;obtain⟨b,v,G,V,U,S⟩:=anJ ι σ j.sh (x:=H0 l g a i (y7 l.js c bc)) ⟨pt 0 i,JK j.sh (st.sh _) _ _⟩ nz e z hz q;exact⟨b,v,G,V,U,y2 ⟨f,S (n8 (dQ l i (y7 l.js c bc).to)) rfl⟩⟩
  obtain⟨-,-,H⟩:=H;obtain⟨K0,_,ι0,σ0,R⟩:=P5.ok.model (y6 z.T) (apc _);obtain⟨b,O,sb,-⟩:=H K0 ι0 σ0 R;refine⟨⟨b,O⟩,?_⟩;have ea:a.put g z=a.BK i b z.T z.mode:=by unfold As.put;rw[I,O]
  rw[ea];have X:=Ag (g:=b) (T:=z.T) (m:=z.mode) (j:=a) (b:=i) (by rw[lb];exact hi)
  have J:dt (a.BK i b z.T z.mode) i=b:=by rw[X,aph rfl]
  have FX:∀o,y7 s.known o aj=bj->dt (a.BK i b z.T z.mode) o=dt a o:=λo f=>by rw[X,ape (E f)]
  have t:∀(K:Type)[dH K](ι:pD cl K)(σ:aw->K),Model ι σ z.T (y6 z.T)->∀o,y7 s.known o aj=bj->∀m,Ia ι σ z.T (kS l a o m)=vV ι σ (dt (a.BK i b z.T z.mode) o) z.T (n8 (dQ l o m)):=λK _ ι σ q o f m=>by
    rw[FX o f];exact Up.place ι σ P5.tow j.sh q (st.sh o) (n8 (dQ l o m))
  refine⟨P5.tow,λk f=>?_,λk f=>?_,λk f=>?_,λk f=>?_,λd hd hm=>?_⟩
  · rw[I,apg]at f
    rw[X,ape f]
  · rw[I,apg]at f
    subst f;rw[J];exact sb
  · rw[I,apg]at f
    subst f;rw[J];intro K _ ι σ q;obtain⟨b',B,-,k2,-⟩:=H K ι σ q;rw[O]at B;simp only[en,and_true]at B;subst B;exact k2
  · rw[gj]at f
    simp only[b4,bI,or_false]at f;intro K _ ι σ q;obtain⟨b',B,-,-,k3,k4⟩:=H K ι σ q;rw[O]at B;simp only[en,and_true]at B;subst B;obtain rfl|rfl:=f
    · obtain⟨v,G,o,ho,Z⟩:=ha
      have ej:y7 l.js k bc=fc l g 0:=by unfold fc;rw[gj];rfl
      have hw:=mZ ho (E Z);rw[ej]at hw G⊢;exact MT (j:=a) ι σ hw (E Z) G (by rw[J];exact k3) (t K ι σ q o Z)
    · refine⟨λv=>(by rw[w]at v;cases v),λ_=>?_⟩
      rcases k4 with⟨f,k4⟩|⟨f,k4⟩
      · have u:(y7 l.js k bc).b=p:=(L.resolve_right λh=>(E y) (h.1.symm.trans f)).2
        rw[u]at k4⊢;rw[t K ι σ q p y,t K ι σ q p y]at k4;rw[f,J];exact k4
      · have hw:=L.resolve_left λh=>f h.1
        rw[hw.1]at k4⊢;rw[t K ι σ q p y]at k4;rw[hw.2,J];exact k4
  · exfalso
    rw[I,apg]at hm;have:=Q d hd;rw[hm,zz fi]at this;cases this
end
structure Chn(gs:ai Gp)(nn ee up:aw->aw)(rr:b5):Prop where
 c0:1<=nn 0/\1<=ee 0
 top:∀k≤gs.length,nn (mS gs k)+783*Cv gs k<=up (mS gs k)
 nd:∀k≤gs.length,mS gs k<=4
 st:∀k<gs.length,(gs.getD k bc).kind≠0->mS gs k<=3/\up (mS gs k)<=nn (mS gs k+1)/\ee (mS gs k)<=ee (mS gs k+1)/\∀j≤mS gs k,ig 64 (up (mS gs k)) (ee (mS gs k)) j (nn (mS gs k+1)) (ee (mS gs k+1)) rr
 r3:∀k<gs.length,(gs.getD k bc).kind=1->rr=bj
 dr:∀k<gs.length,(gs.getD k bc).kind=0->nn (mS gs k)+783*Cv gs k+783<=MB
 tw:∀k≤gs.length,∀j≤mS gs k,JP (ee (mS gs k)) j/\JZ (up (mS gs k)) (ee (mS gs k)) j
def adt(g:g7 d)(P:Path d c)(u:y6 d.js<=8)(x:y6 d.ds<=2):∃nn o up f,Chn c nn o up f:=by
 obtain⟨r,q,p⟩:=P.counts g;have l:∀{k},k<=y6 c->mS c k<=mS c (y6 c):=λh=>abn h
 have md:∀{k},k<=y6 c->Cv c k<=Cv c (y6 c):=λh=>ac1 h
 have mp:∀{k},k<=y6 c->prN c k<=prN c (y6 c):=λh=>aay h
 by_cases w:mS c (y6 c)<=3
 ·refine⟨nA,eA,λm=>nA m+1566,bj,?_⟩
  refine⟨⟨by decide,by decide⟩,λk a=>?_,λk a=>?_,λk a gs=>?_,λ_ _ _=>rfl,λk a e=>?_,λk a j b=>?_⟩
  ·have:=md a
   omega
  ·have:=l a;omega
  ·have h:=(FA a).1
   rw[ape gs]at h;have:=l (k:=k+1) za
   have hm:mS c k<3:=za
   exact⟨by omega,(ag_ _ hm).1,(ag_ _ hm).2,λj b=>aov _ j hm b⟩
  ·have h:=(FA a).2.1
   rw[aph e]at h;have:=md (k:=k+1) za
   have i:=aoD (mS c k) (by have:=l (k:=k) za;omega) (Cv c k) za
   refine apm (Nat.le_of_eq ?_) i;rw[asq,arf]
  ·have hm:mS c k<=3:=by have:=l a;omega
   exact⟨ann _ hm j b,aoB _ hm j b⟩
 ·have t:Cv c (y6 c)=0:=za
  have s:prN c (y6 c)=0:=za
  have v:mS c (y6 c)<=4:=za
  refine⟨nS,eS,nS,aj,?_⟩;refine⟨⟨by decide,by decide⟩,λk a=>?_,λk a=>?_,λk a gs=>?_,λk a n=>?_,λk a e=>?_,λk a j b=>?_⟩
  ·have:=md a;omega
  ·have:=l a;omega
  ·have h:=(FA a).1
   rw[ape gs]at h;have:=l (k:=k+1) za
   have hm:mS c k<4:=za
   exact⟨by omega,(ag9 _ hm).1,(ag9 _ hm).2,λj b=>aou _ j hm b⟩
  ·have h:=(FA a).2.2
   rw[aph n]at h;have:=mp (k:=k+1) za
   omega
  ·have h:=(FA a).2.1
   rw[aph e]at h;have:=md (k:=k+1) za
   omega
  ·have hm:mS c k<=4:=by have:=l a;omega
   exact⟨anm _ hm j b,aoA _ hm j b⟩
structure Rl(l:Lk)(xs:ai Tn):Prop where
 ok:g7 l
 sz:LkB 64 l
 b6:l.bs.length<=6
 j8:l.js.length<=8
 d2:l.ds.length<=2
 nd:akY l
 len:xs.length=l.ds.length
 tr:∀x∈xs,iC 64 x.t/\(x.half=bj->x.t=0)
def Rl.V5{l:Lk}{xs:ai Tn}(h:Rl l xs)(i:aw):iC 64 (y7 xs i ⟨0,aj⟩).t/\((y7 xs i ⟨0,aj⟩).half=bj->(y7 xs i ⟨0,aj⟩).t=0):=by
 obtain b|b:=apy i (y6 xs)
 exact h.tr _ (aA b _);rw[apf,apL b];exact⟨iC.zero 64,λh=>by cases h⟩
def Rl.rM{l:Lk}{xs:ai Tn}(h:Rl l xs)(g:Gp):iC 64 (rM xs g).t/\((rM xs g).half=bj->(rM xs g).t=0):=by unfold Tw.rM;split;exact h.V5 _;exact⟨iC.zero 64,λh=>by cases h⟩
structure Hl(l:Lk)(xs:ai Tn)(gs:ai Gp)(nn ee:aw->aw)(k:aw)(a:As):Prop where
 hk:k<=gs.length
 ms:a.ms.length=k
 lb:a.bs.length=l.bs.length
 tl:a.t.length<=mS gs k
 ok:j7 a.t
 bt:yx (ee (mS gs k)) a.t
 pl:∀i,z5 (nn (mS gs k)+783*Cv gs k) a.t (dt a i)
 v:VSt l xs (Gn l gs k) a
section
variable {l:Lk} {xs:ai Tn} {gs:ai Gp} {nn ee up:aw->aw} {rr:b5} {k:aw} {a:As}
def Hl.tow(c:Chn gs nn ee up rr)(w:Hl l xs gs nn ee k a):dn (ee (mS gs k)) a.t:=by obtain⟨⟨d,b,-,-⟩,-⟩:=c.tw k w.hk (y6 a.t) w.tl;exact⟨⟨w.ok,w.bt,d⟩,b⟩
def aha(l:Lk)(gs:ai Gp):Gn l gs 0=vU l:=by rw[Gn,aqY];rfl
def E2{l:Lk}{i:aw}:(vU l).known.getD i aj=bj↔i=0/\0<y6 l.bs:=by
 show((cd (y6 l.bs) aj).set 0 bj).getD i aj=bj↔_;rw[CO,aqb];have:(cd (y6 l.bs) aj).getD i aj=aj:=by rw[apf,aqy];split<;>rfl
 rw[this];by_cases h:0=i/\0<y6 l.bs;rw[aph h];exact⟨λ_=>⟨h.1.symm,h.2⟩,λ_=>rfl⟩;rw[ape h];exact⟨λe=>(by cases e),λe=>api ⟨e.1.symm,e.2⟩ h⟩
def abQ{l:Lk}(b:g7 l){gs:ai Gp}:∀k≤y6 gs,(Gn l gs k).known.getD 0 aj=bj
 |0,_=>by rw[aha];exact E2.2 ⟨rfl,b.b0⟩
 |k+1,h=>by rw[vX za];exact(m9 (yM l gs k za) _ 0).2 (y1 (abQ b k za))
def HM(n i:aw):dt (iT n) i=if i=0 then⟨iq ((1:cA):cl),[],[],[]⟩else pl0:=by
 cases i with
 |zero=>rfl
 |succ i=>
  rw[ape za];show((_::cd (n-1) pl0).getD (i+1) pl0)=_;rw[aru,apf,aqy];split<;>rfl
def Hl.start(c:Chn gs nn ee up rr)(S:Rl l xs):Hl l xs gs nn ee 0 (iT (y6 l.bs)):=by
 have r:mS gs 0=0:=by unfold mS;rw[aqY];rfl
 have d0:Cv gs 0=0:=by unfold Cv;rw[aqY];rfl
 have z:∀n,z5 n [] pl0:=λn=>⟨λx b=>by
  simp only[pl0,b4,bI,or_false,or_self]at b;subst b;exact .nil _,1,1,by omega,ase,ase,λx b=>by
  simp only[pl0,b4,bI,or_false,or_self]at b;subst b;obtain⟨D,B,h,g,u,t⟩:=Bt.nil 0;exact Ms.nil _ _⟩
 have f:z5 1 [] ⟨iq ((1:cA):cl),[],[],[]⟩:=by
  have h:=gP.one (iC.num (iC.int (m:=0) 1 zv) [])
  have g:=gP.both h (z 1);exact gP.sub g λx b=>by
   simp only[b4,bI,or_false]at b;simp only[pl0,p5,b4,bI,or_false];obtain rfl|rfl|rfl|rfl:=b
   ·exact y1 rfl
   ·exact y2 (y1 rfl)
   ·exact y2 (y1 rfl)
   ·exact y2 (y1 rfl)
 have pl:∀i,z5 1 [] (dt (iT (y6 l.bs)) i):=λi=>by
  rw[HM];split
  ·exact f
  ·exact z 1
 have v:=S.ok.b0;refine⟨apJ _,rfl,?_,apJ _,⟨apJ _,λj e=>by simp[iT]at e,λj e=>by simp[iT]at e⟩,⟨1,1,by omega,ase,ase,λj=>by
  show Ms 1 1 (([]:ai (ai cl)).getD j []);rw[List.getD_nil];exact Ms.nil _ _⟩,λi=>?_,?_⟩
 ·show y6 (_::cd _ _)=_
  rw[aqO,aqb];omega
 ·rw[r,d0]
  exact z5.mono (pl i) (by have:=c.c0.1;omega)
 ·rw[aha]
  refine⟨λi=>(pl i).shB,λi p=>?_,λj e hu=>?_,λd q o=>?_,rfl⟩
  ·obtain⟨rfl,-⟩:=E2.1 p
   intro K _ ι σ s;rw[HM,aph rfl];change vl ι σ ([]:aM) (iq ((1:cA):cl))*vl ι σ ([]:aM) (iq ((1:cA):cl))+vl ι σ ([]:aM) ([]:ai cl)*vl ι σ ([]:aM) ([]:ai cl)=1;rw[gV,Ht,show ι.φ ((1:cA):cl)=1 from ι.one,zY.pU,zY.bB,zY.add_zero']
  ·have:=Qr l j hu
   have g:(vU l).used.getD j aj=aj:=by
    show(cd (y6 l.js) aj).getD j aj=aj;rw[apf,aqy];split<;>rfl
   rw[g]at hu;cases hu
  ·exact api (E2.1 o).1 (S.ok.amZ _ (aA q _))
end
variable {Q:Hd}
def afc{B:Hd}{ss:ai uU}(h:yB u Q B=a6 ss):y6 ss<=2:=by
 unfold yB at h
 repeat' split at h
 all_goals first
  |cases h;done
  |(simp only[zIq]at h;subst h;simp only[ey,fl];omega)
def aiN{ss:ai uU}(h:MR u Q m n=a6 ss):y6 ss<=2:=by
 unfold MR at h
 repeat' split at h
 all_goals first
  |cases h;done
  |(simp only[zIq]at h;subst h;simp only[ey,fl];omega)
def afe{x:Rp}{ss:ai uU}(h:MI u x=a6 ss):y6 ss<=2:=by
 unfold MI at h
 repeat' split at h
 all_goals first
  |cases h;done
  |(simp only[zIq]at h;subst h;simp only[ey,fl];omega)
def aj4{l:Lk}{a:As}{g:Gp}{x:Tn}{ss:ai uU}(h:iX l a g x=a6 ss):y6 ss<=2:=by unfold iX at h;split at h;simp only[Kv,zIq]at h;subst h;simp;exact afc h;exact aiN h;exact afe h;cases h
def D8(a:As)(g:Gp)(z:uU):Prop:=(∃b p,g.bs=[b]/\z.ps=[p]/\b<y6 a.bs)\/∃b c p q,g.bs=[b,c]/\z.ps=[p,q]/\b<y6 a.bs/\c<y6 a.bs
def MN{a:As}{g:Gp}{z:uU}(h:D8 a g z):(∀i,i∉g.bs->dt (a.put g z) i=dt a i)/\(∀i∈g.bs,dt (a.put g z) i∈z.ps)/\(a.put g z).t=z.T/\(a.put g z).ms=a.ms++[z.mode]/\(a.put g z).bs.length=y6 a.bs:=by
 rcases h with⟨b,p,j,f,o⟩|⟨b,c,p,q,j,f,o,t⟩
 ·have e:a.put g z=a.BK b p z.T z.mode:=by unfold As.put;rw[j,f]
  have r:=Ag (g:=p) (T:=z.T) (m:=z.mode) o;rw[e,j,f];refine⟨λi d=>?_,λi d=>?_,rfl,rfl,by simp[As.BK]⟩
  ·rw[apg]at d;rw[r,ape d]
  ·rw[apg]at d;rw[r,aph d];simp
 ·have e:a.put g z=a.xC b c p q z.T z.mode:=by unfold As.put;rw[j,f]
  have n:=GX (g:=p) (L:=q) (T:=z.T) (m:=z.mode) o t;rw[e,j,f];refine⟨λi d=>?_,λi d=>?_,rfl,rfl,by simp[As.xC]⟩
  ·simp only[b4,bI,or_false,not_or]at d
   rw[n,ape d.2,ape d.1]
  ·rw[n]
   split
   ·simp
   ·rename_i s
    simp only[b4,bI,or_false]at d;rw[aph (d.resolve_right s)];simp
def TG(n:aa G){a:As}{g:Gp}{z:uU}(h:D8 a g z)(s:2<=y6 a.bs)(o:y6 a.bs<=6)(r:y6 a.ms<=4):xf G 85 [qx a,GpD g,Q6 z] (qx (a.put g z)):=by
 obtain⟨v,t,w,d⟩:=g;obtain⟨T,j,m⟩:=z;rcases h with⟨b,p,f,e,i⟩|⟨b,c,p,q,f,e,i,u⟩
 have f:t=[b]:=f;have e:j=[p]:=e;subst f e;exact Yt n s o r i;have f:t=[b,c]:=f;have e:j=[p,q]:=e;subst f e;exact Ys n s o r i u
section
variable {l:Lk} {xs:ai Tn} {gs:ai Gp} {nn ee up:aw->aw} {rr:b5} {k:aw} {a:As}
def Hl.put(S:Rl l xs)(P:Path l gs)(w:Hl l xs gs nn ee k a)(f:k<y6 gs){z:uU}{N D:aw}(c:Q7 N D a.t z)(t:D8 a (y7 gs k bc) z)(p:YJ l xs (Gn l gs k) a (a.put (y7 gs k bc) z) (y7 gs k bc))(r:y6 z.T<=mS gs (k+1))(h:nn (mS gs k)+783*Cv gs k<=nn (mS gs (k+1))+783*Cv gs (k+1))(v:N<=nn (mS gs (k+1))+783*Cv gs (k+1))(u:D<=ee (mS gs (k+1))):Hl l xs gs nn ee (k+1) (a.put (y7 gs k bc) z):=by
 have s:=P.step k f;have q:=yM l gs k za;obtain⟨o,n,b,m,j⟩:=MN t;refine⟨f,by rw[m,ap4,w.ms];rfl,by rw[j,w.lb],by rw[b];exact r,by rw[b];exact c.ok,by rw[b];exact yx.mono c.bt u,λi=>?_,?_⟩;rw[b];by_cases g:i∈(y7 gs k bc).bs;exact z5.mono (c.ps _ (n i g)) v;rw[o i g];obtain e|⟨d,e⟩:=c.tow
 rw[e];exact z5.mono (w.pl i) h;rw[e];exact z5.mono ((w.pl i).up d) h;rw[vX f];exact p.step S.ok q (P.used S.ok k za) (abQ S.ok k za) s w.v
def Hl.solve(hG:aa G)(c:Chn gs nn ee up rr)(S:Rl l xs)(P:Path l gs)(HP:xf G 47 [lM l] (.aP [aQ kg gs,xc]))(ck:xf G 37 [lM l] xc)(w:Hl l xs gs nn ee k a)(p:k<y6 gs):
  xf G 83 [lM l,nat k,J5 (rM xs (y7 gs k bc)),qx a] (J_ (iX l a (y7 gs k bc) (rM xs (y7 gs k bc))))/\
   ∀ss,iX l a (y7 gs k bc) (rM xs (y7 gs k bc))=a6 ss->∀z∈ss,D8 a (y7 gs k bc) z/\Hl l xs gs nn ee (k+1) (a.put (y7 gs k bc) z):=by
 have K:=P.step k p;have hs:=yM l gs k za
 have X:=w.tow c;have T:=S.rM (y7 gs k bc);have nd4:=c.nd k za
 have top:=c.top k za
 obtain⟨⟨-,-,t3,t4⟩,e1,-,-⟩:=c.tw k za (y6 a.t) w.tl
 have C:=w.tl;obtain⟨s1,s2,-⟩:=FA p;have B:=aeO S.ok (gs:=gs) (k:=k) za
 have op:Fx G l a gs k (y7 gs k bc) (ee (mS gs k)):=⟨HP,ck,p,rfl,X,w.lb,λi=>(w.pl i).ok za⟩
 have gb:=K.adF S.ok;have run:∀(n N D:aw),nn (mS gs k)+783*Cv gs k<=n->n<=up (mS gs k)->((y7 gs k bc).kind≠0->ig 64 n (ee (mS gs k)) (y6 a.t) N D rr)->((y7 gs k bc).kind=0->aeh 64 n (ee (mS gs k)) (y6 a.t) N/\ee (mS gs k)<=D)->_:=
  λn N D J Y1 F Fd=>acp hG S.ok S.sz op hs K ⟨λi=>z5.mono (w.pl i) J,w.v.un⟩ (by
   by_cases Y:(y7 gs k bc).kind=0
   ·exact y2 Y
   ·exact y1 (apm C (c.st k p Y).1)) za za F (c.r3 k p) Fd T.1 T.2
 generalize o:y7 gs k bc=g at*;cases K with
 |sO d body o8 W v kb hp=>
  have L:=c.dr k p (by rw[o])
  obtain⟨y,x⟩:=run (nn (mS gs k)+783*Cv gs k) (nn (mS gs k)+783*Cv gs k+783) (ee (mS gs k)) (apc _) top (λh=>api rfl h) λ_=>⟨⟨t3,t4,by omega,L⟩,apc _⟩
  refine⟨y,λss f z q=>?_⟩
  have r:=x ss f z q;have A:=agn w.ok S.ok w.lb S.nd w.v W v kb hp f z q;have Z:z=⟨a.t,[E9 l a ⟨0,[body],[o8],d⟩ body (y7 xs d ⟨0,aj⟩).cos (y7 xs d ⟨0,aj⟩).sin],1⟩:=by
   have e:Kv l a ⟨0,[body],[o8],d⟩ body (y7 xs d ⟨0,aj⟩)=a6 ss:=f;simp only[Kv,zIq]at e;subst e
   rwa [apg]at q
  have t:D8 a ⟨0,[body],[o8],d⟩ z:=y1 ⟨body,_,rfl,by rw[Z],by rw[w.lb,<-v];exact S.ok.body _ (aA W _)⟩
  refine⟨t,?_⟩;have m:mS gs (k+1)=mS gs k:=s1;have u:Cv gs (k+1)=Cv gs k+1:=s2;have:=Hl.put S P w p r (by rw[o];exact t) (by rw[o];exact A) (by rw[m,Z];exact C) (by rw[m,u];omega) (by rw[m,u];omega) (by rw[m];exact apc _)
  rw[o]at this;exact this
 |pair i j H s jc pC U O fj M v hc kc oc=>
  obtain⟨r1,r2,r3,I⟩:=c.st k p (by rw[o];intro e;cases e)
  obtain⟨y,x⟩:=run (up (mS gs k)) (nn (mS gs k+1)) (ee (mS gs k+1)) top (apc _) (λ_=>I _ C) λh=>by cases h
  refine⟨y,λss f z q=>?_⟩
  have r:=x ss f z q;obtain⟨⟨Q,c1,R⟩,A⟩:=aaR w.ok w.lb B w.v pC U O fj M v kc oc f z q r;have t:D8 a ⟨1,[i,j],[H,s,jc],0⟩ z:=y2 ⟨i,j,Q,c1,rfl,R,by rw[w.lb];omega,by rw[w.lb];exact U⟩
  refine⟨t,?_⟩;have m:mS gs (k+1)=mS gs k+1:=s1;have u:Cv gs (k+1)=Cv gs k:=s2;have lT:y6 z.T<=y6 a.t+1:=(Up.len r.tow).2;have:=Hl.put S P w p r (by rw[o];exact t) (by rw[o];exact A) (by rw[m];omega) (by rw[m,u];omega) (by rw[m,u];omega) (by rw[m];exact apc _)
  rw[o]at this;exact this
 |single i H s V O M v=>
  have E:(⟨eO l i s,[i],[H,s],0⟩:Gp).kind≠0:=λh=>by
   have h:eO l i s=0:=h;rcases Uq (d:=l) (f:=i) (b:=s)with h'|h'<;>omega
  obtain⟨r1,r2,r3,I⟩:=c.st k p (by rw[o];exact E)
  obtain⟨y,x⟩:=run (up (mS gs k)) (nn (mS gs k+1)) (ee (mS gs k+1)) top (apc _) (λ_=>I _ C) λh=>api h E
  refine⟨y,λss f z q=>?_⟩
  have r:=x ss f z q;obtain⟨⟨Q,R⟩,A⟩:=RG X S.ok S.sz w.pl w.lb B w.v V O M v f z q r;have t:D8 a ⟨eO l i s,[i],[H,s],0⟩ z:=y1 ⟨i,Q,rfl,R,by rw[w.lb];exact V⟩
  refine⟨t,?_⟩;have m:mS gs (k+1)=mS gs k+1:=by rw[s1,ape E]
  have u:Cv gs (k+1)=Cv gs k:=by rw[s2,ape E];rfl
  have lT:y6 z.T<=y6 a.t+1:=(Up.len r.tow).2;have:=Hl.put S P w p r (by rw[o];exact t) (by rw[o];exact A) (by rw[m];omega) (by rw[m,u];omega) (by rw[m,u];omega) (by rw[m];exact apc _)
  rw[o]at this;exact this
end
def Wj{l:Lk}{g:Gp}{x:Tn}{ss:ai uU}(h:iX l j g x=a6 ss):(ss.map (·.mode)).Nodup:=by
 have r:∀{t A B ss},yB t A B=a6 ss->(ss.map (·.mode)).Nodup:=λ{t A B ss} h=>by
  unfold yB at h
  repeat' split at h
  all_goals first
   |cases h;done
   |(simp only[zIq]at h;subst h;simp)
 have p:∀{t A q b ss},MR t A q b=a6 ss->(ss.map (·.mode)).Nodup:=λ{t A q b ss} h=>by
  unfold MR at h
  repeat' split at h
  all_goals first
   |cases h;done
   |(simp only[zIq]at h;subst h;simp)
 have q:∀{t x ss},MI t x=a6 ss->(ss.map (·.mode)).Nodup:=λ{t x ss} h=>by
  unfold MI at h
  repeat' split at h
  all_goals first
   |cases h;done
   |(simp only[zIq]at h;subst h;simp)
 unfold iX at h;split at h;simp only[Kv,zIq]at h;subst h;simp;exact r h;exact p h;exact q h;cases h
structure Found(Q:As->Prop)(pre:ai cA)(new:ai As):Prop where
 q:∀x∈new,Q x
 pre:∀x∈new,pre<+:x.ms
 ne:new.Pairwise λx y=>x.ms≠y.ms
def Found.nil{Q:As->Prop}{pre:ai cA}:Found Q pre []:=⟨λ_ h=>(by cases h),λ_ h=>(by cases h),.nil⟩
variable {t:cA}
def aiL{pre:ai cA}{n:cA}{u v:ai cA}(a:t≠n)(c:pre++[t]<+:u)(b:pre++[n]<+:v):u≠v:=by obtain⟨f,rfl⟩:=c;obtain⟨d,rfl⟩:=b;intro e;simp only[ra,List.append_cancel_left_eq,pa,en]at e;exact a e.1
def FJ{f:As->ai As->ai As×b5}{a:As}{g:Gp}{Q:As->Prop}:∀{ss:ai uU}{o:ai As},(ss.map (·.mode)).Nodup->(∀s∈ss,∀o,∃new,(f (a.put g s) o).1=o++new/\Found Q (a.ms++[s.mode]) new)->∃new,(qv f a g ss o).1=o++new/\(∀x∈new,∃s∈ss,(a.ms++[s.mode])<+:x.ms)/\Found Q a.ms new
 |[],o,_,_=>⟨[],by simp[qv],λ_ h=>(by cases h),.nil⟩
 |s::ss,o,q,h=>by
  obtain⟨k,r,d⟩:=h s (apw ..) o;have pr1:∀x∈k,a.ms<+:x.ms:=λx c=>(List.prefix_append _ _).trans (d.pre x c)
  rw[are,List.nodup_cons]at q;simp only[qv];cases A:f (a.put g s) o with
  |mk o1 b=>
   rw[A]at r;simp only at r;subst r;cases b with
   |false=>exact⟨k,rfl,λx c=>⟨s,apw ..,d.pre x c⟩,⟨d.q,pr1,d.ne⟩⟩
   |true=>
    obtain⟨v,B,u,t⟩:=FJ (ss:=ss) (o:=o++k) q.2 λj z=>h j (apX _ z)
    simp only;refine⟨k++v,by rw[B,aqV],λx c=>?_,⟨λx c=>?_,λx c=>?_,List.pairwise_append.2 ⟨d.ne,t.ne,λx c y w=>?_⟩⟩⟩;obtain c|c:=aps.1 c
    exact⟨s,apw ..,d.pre x c⟩;obtain⟨j,i,p⟩:=u x c;exact⟨j,apX _ i,p⟩;exact(aps.1 c).elim (d.q x) (t.q x);exact(aps.1 c).elim (pr1 x) (t.pre x);obtain⟨j,i,p⟩:=u y w;exact aiL (t:=s.mode) (n:=j.mode) (λe=>q.1 (by rw[e];exact ard i)) (d.pre x c) p
section
variable {l:Lk} {xs:ai Tn} {gs:ai Gp} {nn ee up:aw->aw} {rr:b5}
def Hl.clone(c:Chn gs nn ee up rr)(S:Rl l xs)(P:Path l gs)(w:Hl l xs gs nn ee (y6 gs) j):xf G 82 [qx j] (qx j):=by
 have top:=c.top (y6 gs) (apc _);obtain⟨⟨t1,-,-,-⟩,J,-,-⟩:=c.tw (y6 gs) (apc _) (y6 j.t) w.tl;have B:MB<=NB:=z8;have F:=w.tl;have t4:=c.nd (y6 gs) (apc _);have A:∀i,CnP G (dt j i):=λi=>by
  have y:=w.pl i;have h:∀x∈[(dt j i).c,(dt j i).s,(dt j i).x,(dt j i).y],Cn G x:=λx u=>ai' a w.ok (gP.num y u) za
  exact⟨h _ zb,h _ zb,h _ zb,h _ zb⟩
 have d:∀b∈j.bs,CnP G b:=λb m=>by
  obtain⟨i,z,e⟩:=apF.1 m;have:=A i;unfold dt at this;rw[apf,apj z]at this;rw[<-e];exact this
 have v:∀r∈j.t,Cn G r:=λr k=>by
  obtain⟨g,p,e⟩:=apF.1 k;have q:=yx.root w.bt g;have f:=w.ok.sh g p;rw[apf,apj p,uS,e]at q f;have C:ee (mS gs (y6 gs))<=NB:=apm (sV _ _ _) t1;refine Jn a ?_ (q.fit C);rw[f];have:2^g<=2^4:=apI za za
  omega
 have K:=S.b6;have I:=(P.counts S.ok).2.2;have o:y6 j.ms<=1000:=by rw[w.ms];omega
 by_cases f:2<=y6 j.bs
 ·exact agw a f (by rw[w.lb];exact S.b6) za o v d
 ·rw[w.lb]at f
  have D:y6 gs=0:=za
  have L:=S.ok.b0;have H:mS gs (y6 gs)=0:=by rw[D];unfold mS;rw[aqY];rfl
  have lt:j.t=[]:=ap8 za
  have s:y6 j.bs=1:=by rw[w.lb];omega
  obtain⟨b,n⟩:=ap_.1 s;obtain⟨t,E,ms⟩:=j;have lt:t=[]:=lt;have n:E=[b]:=n;subst lt n;exact Yb a o (d b zb)
def anK(f:aa G)(c:Chn gs nn ee up rr)(S:Rl l xs)(P:Path l gs)(p:xf G 47 [lM l] (.aP [aQ kg gs,xc]))(ck:xf G 37 [lM l] xc):Road G l xs gs (Hl l xs gs nn ee)where
 len k a w:=⟨w.ms,w.hk⟩
 leaf a w:=w.clone f c S P
 dr k e j:=by
  have o:=P.step k e;rw[S.len];generalize y7 gs k bc=g at o j;cases o with
  |sO d body o8 r s y B=>exact r
  |pair=>cases j
  |single i A n C F D s=>
   have j:eO l i n=0:=j;rcases Uq (d:=l) (f:=i) (b:=n)with v|v<;>omega
 sol k a w e:=(w.solve f c S P p ck e).1
 two k a w e m h:=aj4 h
 next k a w e m h z q:=by obtain⟨u,t⟩:=(w.solve f c S P p ck e).2 m h z q;have E:=(P.counts S.ok).2.2;have x:=S.b6;exact⟨TG f u (by rw[w.lb];omega) (by rw[w.lb];exact x) (by rw[w.ms];omega),t⟩
def Hs{Q:aw->As->Prop}(R:Road G l xs gs Q)(c:∀k a,Q k a->k<y6 gs->∀ss,iX l a (y7 gs k bc) (rM xs (y7 gs k bc))=a6 ss->∀s∈ss,(a.put (y7 gs k bc) s).ms=a.ms++[s.mode]):∀(n k:aw)(a:As),Q k a->y6 gs-k=n->∀o:ai As,∃new,(pG l xs (gs.drop k) a o).1=o++new/\Found (Q (y6 gs)) a.ms new
 |0,k,a,q,r,o=>by
  obtain⟨-,d⟩:=R.len k a q;obtain rfl:k=y6 gs:=za
  rw[ar1];refine⟨[a],rfl,⟨λx b=>?_,λx b=>?_,List.pairwise_singleton _ _⟩⟩;rw[apg]at b;rw[b];exact q;rw[apg]at b;rw[b];exact asY _
 |n+1,k,a,q,r,o=>by
  have i:k<y6 gs:=za
  have t:gs.drop k=y7 gs k bc::gs.drop (k+1):=AI i bc;have e:=R.next k a q i
  rw[t];simp only[pG];cases h:iX l a (y7 gs k bc) (rM xs (y7 gs k bc))with
  |none=>exact⟨[],by simp,.nil⟩
  |some ss=>
   have e:=e ss h;obtain⟨new,j,-,d⟩:=FJ (f:=pG l xs (gs.drop (k+1))) (a:=a) (g:=y7 gs k bc) (Q:=Q (y6 gs)) (o:=o) (Wj h) λs m o=>by have p:=(e s m).2;obtain⟨new,j,d⟩:=Hs R c n (k+1) _ p za o;have em:(a.put (y7 gs k bc) s).ms=a.ms++[s.mode]:=c k a q i ss h s m;rw[em]at d;exact⟨new,j,d⟩
   exact⟨new,j,d⟩
noncomputable def YA(l:Lk)(xs:ai Tn)(gs:ai Gp):ai As×b5:=pG l xs gs (iT (y6 l.bs)) []
def Ma(d:aa G)(c:Chn gs nn ee up rr)(S:Rl l xs)(P:Path l gs)(i:∀x∈xs,TnC G x)(e:xf G 47 [lM l] (.aP [aQ kg gs,xc]))(ck:xf G 37 [lM l] xc):
  xf G 9 [lM l,aQ Y9 xs] (adW (YA l xs gs))/\(YA l xs gs).1.length<=100/\Found (Hl l xs gs nn ee (y6 gs)) [] (YA l xs gs).1:=by
 have R:=anK d c S P e ck;have st:=Hl.start (gs:=gs) c S;have r:=(P.counts S.ok).2.2;have s:=S.b6;have o:2^(y6 gs-0)<=2^5:=apI za za;obtain⟨W,b⟩:=Ox d R (y6 gs-0) 0 _ st rfl [] (by simp only[fl];omega);rw[aqD]at W b;obtain⟨new,f,n⟩:=Hs R (λk a q m g j z h=>(MN ((q.solve d c S P e ck m).2 g j z h).1).2.2.2.1) (y6 gs-0) 0 _ st rfl [];rw[aqD,aq0]at f;refine⟨am2 d e S.len (by have:=S.len;have:=S.d2;omega) i S.ok.b0 S.b6 W,?_,?_⟩;have p:(YA l xs gs).1.length<=0+2^(y6 gs-0):=b;omega;show Found _ [] (pG l xs gs (iT (y6 l.bs)) []).1;rw[f];exact n
end
end Tw
end Lw

namespace Lw
namespace Tw
open Go Go.RowKit Go.Proofs
variable {G:bn->Prop}
def u8(n:aw):D:=yT (.int .u8 (zNq n))
def xw(s:cB):D:=yT (.string s)
def pV(n:aw):b5:=(decide (65<=n)&&decide (n<=90))||(decide (97<=n)&&decide (n<=122))
def yE(n:aw):b5:=decide (48<=n)&&decide (n<=57)
def ve(n:aw):b5:=pV n||yE n||decide (n=95)
variable {Y:b5} (a:aa G) {b f:aw} {h:cB} {k:Type}
def B9(h:b<=f):decide (zNq f>=zNq b)=bj:=zT
def Ny(h:¬b<=f):decide (zNq f>=zNq b)=aj:=zT
def Nj(h:f<=b):decide (zNq f<=zNq b)=bj:=zT
def Kh(h:¬f<=b):decide (zNq f<=zNq b)=aj:=zT
def B1(n:aw):xf G 184 [u8 n] (bool (pV n)):=by
 by_cases b:65<=n
 ·by_cases d:n<=90
  ·have e:pV n=bj:=by simp[pV,b,d]
   rw[e];exact Spec.r a func184 [] [.eb 4 (B9 b),.eb 7 (Nj d)]
  ·by_cases c:97<=n
   ·by_cases f:n<=122
    ·have e:pV n=bj:=by simp[pV,c,f]
     rw[e];exact Spec.r a func184 [] [.eb 4 (B9 b),.eb 7 (Kh d),.eb 11 (B9 c),.eb 14 (Nj f)]
    ·have e:pV n=aj:=by simp[pV];omega
     rw[e];exact Spec.r a func184 [] [.eb 4 (B9 b),.eb 7 (Kh d),.eb 11 (B9 c),.eb 14 (Kh f)]
   ·have e:pV n=aj:=by simp[pV];omega
    rw[e];exact Spec.r a func184 [] [.eb 4 (B9 b),.eb 7 (Kh d),.eb 11 (Ny c)]
 ·have c:¬97<=n:=za
  have e:pV n=aj:=by simp[pV];omega
  rw[e];exact Spec.r a func184 [] [.eb 4 (Ny b),.eb 11 (Ny c)]
def PS(n:aw):xf G 214 [u8 n] (bool (pV n)):=by
 by_cases b:97<=n
 ·by_cases f:n<=122
  ·have e:pV n=bj:=by simp[pV,b,f]
   rw[e];exact Spec.r a func214 [] [.eb 4 (B9 b),.eb 7 (Nj f)]
  ·have c:65<=n:=za
   have d:¬n<=90:=za
   have e:pV n=aj:=by simp[pV];omega
   rw[e];exact Spec.r a func214 [] [.eb 4 (B9 b),.eb 7 (Kh f),.eb 11 (B9 c),.eb 14 (Kh d)]
 ·by_cases c:65<=n
  ·by_cases d:n<=90
   ·have e:pV n=bj:=by simp[pV,c,d]
    rw[e];exact Spec.r a func214 [] [.eb 4 (Ny b),.eb 11 (B9 c),.eb 14 (Nj d)]
   ·have e:pV n=aj:=by simp[pV];omega
    rw[e];exact Spec.r a func214 [] [.eb 4 (Ny b),.eb 11 (B9 c),.eb 14 (Kh d)]
  ·have e:pV n=aj:=by simp[pV];omega
   rw[e];exact Spec.r a func214 [] [.eb 4 (Ny b),.eb 11 (Ny c)]
def LA(n:aw):xf G 186 [u8 n] (bool (yE n)):=by
 by_cases b:48<=n
 ·by_cases c:n<=57
  ·have e:yE n=bj:=by simp[yE,b,c]
   rw[e];exact Spec.r a func186 [] [.eb 4 (B9 b),.eb 7 (Nj c)]
  ·have e:yE n=aj:=by simp[yE];omega
   rw[e];exact Spec.r a func186 [] [.eb 4 (B9 b),.eb 7 (Kh c)]
 ·have e:yE n=aj:=by simp[yE];omega
  rw[e];exact Spec.r a func186 [] [.eb 4 (Ny b)]
def agq(n:aw):xf G 285 [u8 n] (bool (yE n)):=by
 by_cases b:48<=n
 ·by_cases c:n<=57
  ·have e:yE n=bj:=by simp[yE,b,c]
   rw[e];exact Spec.r a func285 [] [.eb 4 (B9 b),.eb 7 (Nj c)]
  ·have e:yE n=aj:=by simp[yE];omega
   rw[e];exact Spec.r a func285 [] [.eb 4 (B9 b),.eb 7 (Kh c)]
 ·have e:yE n=aj:=by simp[yE];omega
  rw[e];exact Spec.r a func285 [] [.eb 4 (Ny b)]
def aaQ(n:aw):xf G 215 [u8 n] (bool (ve n)):=by have b:=PS a n;have c:=agq a n;unfold ve;generalize pV n=x at b;generalize yE n=y at c;cases x;cases y;by_cases h:n=95;rw[apE h];exact Spec.r a func215 [] [z3 b,z3 c,.eb 11 (gI h)];rw[apG h];exact Spec.r a func215 [] [z3 b,z3 c,.eb 11 (fh h)];exact Spec.r a func215 [] [z3 b,z3 c];exact Spec.r a func215 [] [z3 b]
def Bp(s:cB)(i:aw):aw:=((s[i]?).getD 0).toNat
def akD(s:cB)(i:aw):xf G 185 [xw s,nat i] (u8 (Bp s i)):=by
 by_cases h:i<s.size
 ·have p:(0:cA)<=zNq i/\(zNq i).toNat<s.size:=⟨by simp,h⟩
  exact Spec.r a func185 [] [.eb 8 (ah h),yu p]
 ·have e:Bp s i=0:=by
   unfold Bp;have:s[i]? =bk:=zT
   rw[this];rfl
  rw[e];exact Spec.r a func185 [] [.eb 8 (av (a:=i) (N:=s.size) za)]
def qa(s:cB):aw:=(ch s.size).findIdx λi=>!ve (Bp s i)
def Mn(s:cB):qa s<=s.size:=by
 have:=aqu (xs:=ch s.size) (p:=λi=>!ve (Bp s i))
 rwa [aqL]at this
def T2{s:cB}{i:aw}(h:i<qa s):ve (Bp s i)=bj:=by have a:i<s.size:=apV h (Mn s);have:=(qX (p:=λi=>!ve (Bp s i)) (l:=ch s.size) 0 h).2;rw[mL a]at this;simpa using this
def agL(s:h.size<=b):Bp h b=0:=by
 unfold Bp;have:h[b]? =bk:=zT
 rw[this];rfl
def T3(s:cB):ve (Bp s (qa s))=aj:=by
 obtain h|h:=apy (qa s) s.size
 ·have b:(ch s.size).findIdx (λi=>!ve (Bp s i))<y6 (ch s.size):=by rw[aqL];exact h
  have:=lS (p:=λi=>!ve (Bp s i)) 0 b
  have a:(ch s.size).findIdx (λi=>!ve (Bp s i))<s.size:=h
  rw[mL a]at this;show ve (Bp s ((ch s.size).findIdx λi=>!ve (Bp s i)))=aj
  simpa using this
 ·rw[agL h];decide
def wiS(s:cB)(i:aw):St:=lay 30 [(0,xw s),(1,nat i)] []
def Zj(f:b<qa h)(hs:h.size<=1000000000):xo G (ae f138 0) (wiS h b) y3 (wiS h (b+1)):=by
 have i:=T2 f;have c:=apV f (Mn h);have c0:=akD a h b;have s:=B1 a (Bp h b);have e:=LA a (Bp h b);unfold ve at i;generalize pV (Bp h b)=x at i s;generalize yE (Bp h b)=y at i e;cases x;cases y;have d:Bp h b=95:=by simpa using i
 exact af.r a [z3 c0,z3 s,z3 c0,z3 e,z3 c0,.eb 25 (gI d),.eq 28 (bL (ax c za))];exact af.r a [z3 c0,z3 s,z3 c0,z3 e,.eq 28 (bL (ax c za))];exact af.r a [z3 c0,z3 s,.eq 28 (bL (ax c za))]
def aep(s:cB):xo G (ae f138 0) (wiS s (qa s)) (y5 0) (wiS s (qa s)):=by
 have h:=T3 s;have c0:=akD a s (qa s);have d:=B1 a (Bp s (qa s));have c:=LA a (Bp s (qa s));unfold ve at h;generalize pV (Bp s (qa s))=x at h d;generalize yE (Bp s (qa s))=y at h c;cases x;cases y;have b:Bp s (qa s)≠95:=by simpa using h
 exact af.r a [z3 c0,z3 d,z3 c0,z3 c,z3 c0,.eb 25 (fh b)];cases h;cases h
def Hr(s:cB):aw:=if pV (Bp s 0)then qa s else 0
def VZ(hs:h.size<=1000000000):xf G 138 [xw h,nat 0] (nat (Hr h)):=by have c0:=akD a h 0;have b:=B1 a (Bp h 0);have c:=aI.z zZq G (ae f138 0) (y5 0) (wiS h (qa h)) (λi=>wiS h i) (qa h) (λi d=>Zj a d hs) (aep a h);unfold Hr;generalize pV (Bp h 0)=x at b;cases x;exact Spec.r a func138 [] [z3 c0,z3 b];exact Spec.r a func138 [] [z3 c0,z3 b,.code c]
def n7(s:cB):b5:=decide (0<s.size)&&(decide (s.size<=24)&&decide (Hr s=s.size))
def uC(h:b<f):decide (zNq f>zNq b)=bj:=zT
def fu(h:¬b<f):decide (zNq f>zNq b)=aj:=zT
def Fz(hs:h.size<=1000000000):xf G 74 [xw h] (bool (n7 h)):=by have c:=VZ a hs;unfold n7;by_cases d:0<h.size;by_cases b:h.size<=24;by_cases e:Hr h=h.size;rw[apE d,apE b,apE e];exact Spec.r a func74 [] [.eb 5 (uC d),.eb 9 (Nj b),z3 c,.eb 16 (gI e)];rw[apE d,apE b,apG e];exact Spec.r a func74 [] [.eb 5 (uC d),.eb 9 (Nj b),z3 c,.eb 16 (fh e)];rw[apE d,apG b];exact Spec.r a func74 [] [.eb 5 (uC d),.eb 9 (Kh b)];rw[apG d];exact Spec.r a func74 [] [.eb 5 (fu d)]
def twS(s:cB)(i:aw):St:=lay 25 [(0,xw s),(3,nat i)] []
def Zt(s:b<qa h)(hs:h.size<=1000000000):xo G (ae f154 0) (twS h b) y3 (twS h (b+1)):=by have i:=T2 s;have c:=apV s (Mn h);have p:(0:cA)<=zNq b/\(zNq b).toNat<h.size:=⟨by simp,c⟩;have d:=aaQ a (Bp h b);rw[i]at d;exact af.r a [.eb 15 (ah c),yu p,z3 d,.eq 23 (bL (ax c za))]
def aev(s:cB):xo G (ae f154 0) (twS s (qa s)) (y5 0) (twS s (qa s)):=by
 obtain h|h:=apy (qa s) s.size
 have b:=aaQ a (Bp s (qa s));rw[T3]at b;have p:(0:cA)<=zNq (qa s)/\(zNq (qa s)).toNat<s.size:=⟨by simp,h⟩;exact af.r a [.eb 15 (ah h),yu p,z3 b];exact af.r a [.eb 15 (av h)]
def Wg(s:0<h.size):(h.toList==(ByteArray.mk #[]).toList)=aj:=by
 rw[Go.ByteArray.toList_eq,Go.ByteArray.toList_eq,c4];intro e;have c:y6 h.data.toList=0:=by rw[e];rfl
 have b:y6 h.data.toList=h.data.size:=aqT;have a:h.data.size=h.size:=rfl;omega
def ah9(d:0<h.size)(hs:h.size<=1000000000)(hw:Hr h=h.size):xf G 154 [xw h] (nat h.size):=by
 have c:pV (Bp h 0)=bj:=by unfold Hr at hw;split at hw;assumption;omega
 have f:qa h=h.size:=by unfold Hr at hw;rw[aph c]at hw;exact hw
 have e:=PS a (Bp h 0);rw[c]at e;have p:(0:cA)<=zNq 0/\(zNq 0).toNat<h.size:=⟨by simp,d⟩;have b:=aI.z zZq G (ae f154 0) (y5 0) (twS h (qa h)) (λi=>twS h (i+1)) (qa h-1) (λi g=>Zt a za hs) (by rw[show qa h-1+1=qa h by omega];exact aev a h);rw[f]at b;exact Spec.r a func154 [] [.eb 5 (Wg d),yu p,z3 e,.code b]
def D7(s:n7 h=bj):xf G 87 [xw h] (bool bj):=by unfold n7 at s;rw[dT,dT,cm,cm,cm]at s;obtain⟨b,e,d⟩:=s;have c:=ah9 a b za d;exact Spec.r a func87 [] [z3 c,.eb 7 (uC b),.eb 12 (gI (rfl:h.size=h.size)),.eb 16 (Nj e)]
structure Cm where
 nm:cB
 x:Raw
 y:Raw
instance:ka Cm:=⟨⟨.empty,⟨aj,[],[]⟩,⟨aj,[],[]⟩⟩⟩
def qO(r:Raw):ai D:=[bool r.s,ak r.n,ak r.d]
def qp(m:Cm):ai D:=xw m.nm::(qO m.x++qO m.y)
structure xd where
 nm:cB
 aC:ai Cm
instance:ka xd:=⟨⟨.empty,[]⟩⟩
def tv(b:xd):ai D:=[xw b.nm,aQ qp b.aC]
def bb(m:Cm):y6 (qp m)=7:=rfl
def a8(b:xd):y6 (tv b)=2:=rfl
def gr(a b:cB):b5:=a.toList==b.toList
def E8(l:ai cB)(i:aw):b5:=(ch i).any λj=>gr (y7 l j .empty) (y7 l i .empty)
def jY(f:aw->aw)(n:aw):aw:=((ch n).map f).find? (·≠0)|>.getD 0
structure Cm.Ok(m:Cm):Prop where
 nm:m.nm.size<=1000000000
 x:∃k,m.x.ok k/\2*k<KB
 y:∃k,m.y.ok k/\2*k<KB
def R_(aC:ai Cm)(k:aw):aw:=
 if n7 (y7 aC k bc).nm=aj then 5
 else if E8 (aC.map (·.nm)) k=bj then 6
 else if(y7 aC k bc).x.valid=aj\/(y7 aC k bc).y.valid=aj then 3 else 0
def R8(aC:ai Cm):aw:=if 8<y6 aC then 4 else jY (R_ aC) (y6 aC)
def dg(f:aw->aw)(n:aw):(jY f n=0/\∀i<n,f i=0)\/∃i,i<n/\f i≠0/\jY f n=f i/\∀j<i,f j=0:=by
 induction n with
 |zero=>exact y1 ⟨rfl,λi h=>by omega⟩
 |succ n g=>
  have e:jY f (n+1)=if jY f n≠0 then jY f n else f n:=by
   unfold jY;rw[aq1,aqp,arF];cases h:((ch n).map f).find? (·≠0)with
   |none=>
    simp only[Option.none_or,Option.getD_none,eZ,fB];by_cases c:f n=0;simp[c];simp[c]
   |some x=>
    have:=aro h;have k:x≠0:=by simpa using this
    simp[k]
  rcases g with⟨d,a⟩|⟨i,d,a,m,l⟩
  rw[d]at e;by_cases b:f n=0;exact y1 ⟨by rw[e];simp[b],λi o=>by
   obtain h|h:=apy i n
   exact a i h;rw[show i=n by omega];exact b⟩
  exact y2 ⟨n,by omega,b,by rw[e];simp,a⟩;refine y2 ⟨i,by omega,a,?_,l⟩;rw[e,m,aph a]
def YY(b:xd)(k j:aw):St:=lay 50 [(1,.aJ (tv b)),(3,nat k),(4,y0 0 0),(5,nat j)] [(0,qp (y7 b.aC k bc))]
def ppS(b:xd)(k:aw):St:=lay 50 [(1,.aJ (tv b)),(3,nat k)] []
def ptR(n:aw):St:=lay 50 [(2,nat n)] []
def oC{b:cB}(a:gr h b=Y):D.lit (.bool (h.toList==b.toList))=yT (.bool Y):=by rw[<-a];rfl
variable {y:xd}
def Ik(j:f<b)(g:b<y6 y.aC)(m:y6 y.aC<=8)(h:gr (y7 y.aC f bc).nm (y7 y.aC b bc).nm=aj):
  xo G (ae f139 1) (YY y b f) y3 (YY y b (f+1)):=by
 have d:=ay bb za (i:=f) (l:=y.aC) za;have c:=bA bb (i:=f) (l:=y.aC) za 0 za;have e:=j5 bb (i:=f) (l:=y.aC) za bc 0 za;have n:D.lit (.string (y7 y.aC f bc).nm)=xw (y7 y.aC f bc).nm:=rfl;exact af.r a [.eb 28 (ah j),.er 33 (nat f),yu d,yu c,.eq 36 e,.eq 39 (oC h),.eq 30 (bL (ax j za))]
def aaO:xo G (ae f139 1) (YY y b b) (y5 2) (YY y b b):=
 af.r a [.eb 28 (av (apc b))]
def aiU(d:f<b)(g:b<y6 y.aC)(h:gr (y7 y.aC f bc).nm (y7 y.aC b bc).nm=bj):
  xo G (ae f139 1) (YY y b f) .ret (ptR 6):=by
 have c:=ay bb za (i:=f) (l:=y.aC) za;have j:=bA bb (i:=f) (l:=y.aC) za 0 za;have e:=j5 bb (i:=f) (l:=y.aC) za bc 0 za;exact af.r a [.eb 28 (ah d),.er 33 (nat f),yu c,yu j,.eq 36 e,.eq 39 (oC h)]
def rU{β:Type}(f:k->β){l:ai k}(h:b<y6 l)(d:k)(d':β):(l.map f).getD b d'=f (y7 l b d):=by rw[apf,apf,aqz,apj h];rfl
def ni(nm:k->cB)(d:k){l:ai k}(m:b<y6 l):(E8 (l.map nm) b=aj/\∀j<b,gr (nm (y7 l j d)) (nm (y7 l b d))=aj)\/(E8 (l.map nm) b=bj/\∃j,j<b/\gr (nm (y7 l j d)) (nm (y7 l b d))=bj/\∀i<j,gr (nm (y7 l i d)) (nm (y7 l b d))=aj):=by
 have ev:∀j<b,gr ((l.map nm).getD j .empty) ((l.map nm).getD b .empty)=gr (nm (y7 l j d)) (nm (y7 l b d)):=λj a=>by rw[rU nm za d,rU nm m d]
 rcases dg (λj=>if gr (nm (y7 l j d)) (nm (y7 l b d))=bj then 1 else 0) b with⟨-,h⟩|⟨i,c,f,-,n⟩
 have g:∀j<b,gr (nm (y7 l j d)) (nm (y7 l b d))=aj:=λj a=>by have:=h j a;split at this;cases this;rename_i α;simpa using α
 refine y1 ⟨?_,g⟩;unfold E8;rw[arS];intro j a;rw[arb]at a;rw[ev j a,g j a];simp;have e:gr (nm (y7 l i d)) (nm (y7 l b d))=bj:=by split at f;assumption;exact api rfl f
 refine y2 ⟨?_,i,c,e,λj a=>?_⟩;unfold E8;rw[arj];exact⟨i,arb.2 c,by rw[ev i c];exact e⟩;have:=n j a;split at this;cases this;rename_i α;simpa using α
def aho{k:xd}(c:b<y6 k.aC)(C:y6 k.aC<=8)(ok:∀m∈k.aC,m.Ok)(h:R_ k.aC b=0):
  xo G (ae f139 0) (ppS k b) y3 (ppS k (b+1)):=by
 have A:=ay bb za c;have z:=aq bb za c;have e:=fO bb c bc;have l:=ok _ (aA c bc);have w:=ni Cm.nm bc c;have D:(k.aC.map λm=>m.nm)=k.aC.map Cm.nm:=rfl;unfold R_ at h;rw[D]at h;have r:=Fz a l.nm;obtain⟨I,y,F⟩:=l.x;obtain⟨H,x,E⟩:=l.y;have q:=lK a y za;have p:=lK a x za;have i:∀j,(YY k b j).tmps.length=50:=λj=>aB ..
 split at h;cases h;rename_i g;split at h;cases h;rename_i f;split at h;cases h;rename_i o;have g:n7 (y7 k.aC b bc).nm=bj:=by simpa using g
 have f:E8 (k.aC.map Cm.nm) b=aj:=by simpa using f
 have t:(y7 k.aC b bc).x.valid=bj:=by
  cases n:(y7 k.aC b bc).x.valid with
  |true=>rfl
  |false=>exact api (y1 n) o
 have s:(y7 k.aC b bc).y.valid=bj:=by
  cases n:(y7 k.aC b bc).y.valid with
  |true=>rfl
  |false=>exact api (y2 n) o
 rw[g]at r;rw[t]at q;rw[s]at p;have v:∀j<b,gr (y7 k.aC j bc).nm (y7 k.aC b bc).nm=aj:=by
  rcases w with⟨-,d⟩|⟨d,-⟩
  exact d;rw[f]at d;cases d
 have B:=aI.count (P:=zZq) (Good:=G) (a:=0) (l:=ae f139 1) (t:=y5 2) (j:=YY k b b) (λj=>YY k b j) b i z1 (λj u=>Ik a u c C (v j u)) (aaO a);clear w h g f o v t s;exact af.r a [.eb 14 (ah c),.er 19 (nat b),yu A,yu z,.eq 21 e,z3 r,.code B,z3 q,z3 p,.eq 16 (bL (ax c za))]
def aiS{k:xd}(c:b<y6 k.aC)(z:y6 k.aC<=8)(ok:∀m∈k.aC,m.Ok)(h:R_ k.aC b≠0):
  xo G (ae f139 0) (ppS k b) .ret (ptR (R_ k.aC b)):=by
 have r:=ay bb za c;have q:=aq bb za c;have e:=fO bb c bc;have t:=ok _ (aA c bc);have o:=ni Cm.nm bc c;have F:(k.aC.map λm=>m.nm)=k.aC.map Cm.nm:=rfl;unfold R_ at h⊢;rw[F]at h⊢;have f:=Fz a t.nm;obtain⟨L,C,J⟩:=t.x;obtain⟨K,B,I⟩:=t.y;have p:=lK a C za;have w:=lK a B za;have n:∀j,(YY k b j).tmps.length=50:=λj=>aB ..
 split;rename_i l;rw[l]at f;clear o h;exact af.r a [.eb 14 (ah c),.er 19 (nat b),yu r,yu q,.eq 21 e,z3 f];rename_i l;have H:n7 (y7 k.aC b bc).nm=bj:=by simpa using l
 rw[ape l]at h;rw[H]at f;split;rename_i g;obtain⟨j,d1,d2,d3⟩:∃j,j<b/\gr (y7 k.aC j bc).nm (y7 k.aC b bc).nm=bj/\∀i<j,gr (y7 k.aC i bc).nm (y7 k.aC b bc).nm=aj:=by
  rcases o with⟨d,-⟩|⟨-,d⟩
  rw[g]at d;cases d;exact d
 have s:=aI.count (P:=zZq) (Good:=G) (a:=0) (l:=ae f139 1) (t:=.ret) (j:=ptR 6) (λj=>YY k b j) j n z1 (λi E=>Ik a za c z (d3 i E)) (aiU a d1 c d2);clear o h l g;exact af.r a [.eb 14 (ah c),.er 19 (nat b),yu r,yu q,.eq 21 e,z3 f,.code s];rename_i g;rw[ape g]at h;have A:E8 (k.aC.map Cm.nm) b=aj:=by simpa using g
 have y:∀j<b,gr (y7 k.aC j bc).nm (y7 k.aC b bc).nm=aj:=by
  rcases o with⟨-,d⟩|⟨d,-⟩
  exact d;rw[A]at d;cases d
 have s:=aI.count (P:=zZq) (Good:=G) (a:=0) (l:=ae f139 1) (t:=y5 2) (j:=YY k b b) (λj=>YY k b j) b n z1 (λj x=>Ik a x c z (y j x)) (aaO a);split;rename_i v;clear o h l g y A;cases u:(y7 k.aC b bc).x.valid with
 |false=>
  rw[u]at p;exact af.r a [.eb 14 (ah c),.er 19 (nat b),yu r,yu q,.eq 21 e,z3 f,.code s,z3 p]
 |true=>
  have D:(y7 k.aC b bc).y.valid=aj:=v.resolve_left (by rw[u];simp);rw[u]at p;rw[D]at w;exact af.r a [.eb 14 (ah c),.er 19 (nat b),yu r,yu q,.eq 21 e,z3 f,.code s,z3 p,z3 w]
 rename_i v;rw[ape v]at h;exact api rfl h
def aiR:xo G (ae f139 0) (ppS y (y6 y.aC)) (y5 0) (ppS y (y6 y.aC)):=
 af.r a [.eb 14 (av (apc (y6 y.aC)))]
def aaz(ok:∀m∈y.aC,m.Ok):xf G 139 [y4 (tv y)] (nat (R8 y.aC)):=by
 unfold R8;by_cases d:8<y6 y.aC;rw[aph d];exact Spec.r a func139 [1] [.eb 9 (uC d)];rw[ape d];have c:y6 y.aC<=8:=za
 rcases dg (R_ y.aC) (y6 y.aC) with⟨h,g⟩|⟨i,h,g,l,j⟩
 have f:=aI.z zZq G (ae f139 0) (y5 0) (ppS y (y6 y.aC)) (λk=>ppS y k) (y6 y.aC) (λk e=>aho a e c ok (g k e)) (aiR a);rw[h];exact Spec.r a func139 [1] [.eb 9 (fu d),.code f];have f:=aI.z zZq G (ae f139 0) .ret (ptR (R_ y.aC i)) (λk=>ppS y k) i (λk e=>aho a za c ok (j k e)) (aiS a h c ok g);rw[l];exact Spec.r a func139 [1] [.eb 9 (fu d),.code f]
structure Q_ where
 nm:cB
 kind:cA
 a:cA
 p:cA
 b:cA
 on:cA
 to:cA
instance:ka Q_:=⟨⟨.empty,0,0,0,0,0,0⟩⟩
def Fk(j:Q_):ai D:=[xw j.nm,int j.kind,int j.a,int j.p,int j.b,int j.on,int j.to]
structure VQ where
 nm:cB
 body:cA
instance:ka VQ:=⟨⟨.empty,0⟩⟩
def A3(d:VQ):ai D:=[xw d.nm,int d.body]
structure pB where
 nm:cB
 bs:ai xd
 js:ai Q_
 ds:ai VQ
def uI(l:pB):ai D:=[xw l.nm,aQ tv l.bs,aQ Fk l.js,aQ A3 l.ds]
def Co(l:pB):D:=y4 (uI l)
def kJ(j:Q_):y6 (Fk j)=7:=rfl
def fZ(d:VQ):y6 (A3 d)=2:=rfl
structure xd.Ok(b:xd):Prop where
 nm:b.nm.size<=1000000000
 aC:∀m∈b.aC,m.Ok
structure pB.Ok(l:pB):Prop where
 nm:l.nm.size<=1000000000
 bs:∀b∈l.bs,b.Ok
 js:∀j∈l.js,j.nm.size<=1000000000
 ds:∀d∈l.ds,d.nm.size<=1000000000
def Yu(bs:ai xd)(i:aw):aw:=
 if n7 (y7 bs i bc).nm=aj then 5
 else if E8 (bs.map xd.nm) i=bj then 6
 else R8 (y7 bs i bc).aC
def bdS(l:pB)(i j:aw):St:=lay 48 [(1,.aJ (uI l)),(3,nat i),(4,nat j)] []
def bbS(l:pB)(i:aw):St:=lay 48 [(1,.aJ (uI l)),(3,nat i)] []
def bdR(n:aw):St:=lay 48 [(2,nat n)] []
section
variable {l:pB} {i j:aw}
def zS(a:i<y6 l.bs):((0:cA)<=zNq i/\zNq i<(y6 l.bs:cA))/\(zNq i).toNat*2<y6 (l.bs.flatMap tv):=ay a8 za a
def QY(b:j<i)(k:i<y6 l.bs)(n:y6 l.bs<=1000)(h:gr (y7 l.bs j bc).nm (y7 l.bs i bc).nm=aj):
  xo G (ae f75 1) (bdS l i j) y3 (bdS l i (j+1)):=by
 have g:=zS (l:=l) (i:=j) za;have f:=bA a8 (i:=j) (l:=l.bs) za 0 za;have e:=j5 a8 (i:=j) (l:=l.bs) za bc 0 za;have d:=zS k;have c:=bA a8 k 0 za;have m:=j5 a8 k bc 0 za;exact af.r a [.eb 23 (ah b),.er 28 (nat j),yu g,yu f,.eq 31 e,.er 34 (nat i),yu d,yu c,.eq 37 m,.eq 38 (oC h),.eq 25 (bL (ax b za))]
def aky:xo G (ae f75 1) (bdS l i i) (y5 2) (bdS l i i):=
 af.r a [.eb 23 (av (apc i))]
def akz(g:j<i)(k:i<y6 l.bs)(h:gr (y7 l.bs j bc).nm (y7 l.bs i bc).nm=bj):
  xo G (ae f75 1) (bdS l i j) .ret (bdR 6):=by
 have f:=zS (l:=l) (i:=j) za;have d:=bA a8 (i:=j) (l:=l.bs) za 0 za;have e:=j5 a8 (i:=j) (l:=l.bs) za bc 0 za;have c:=zS k;have b:=bA a8 k 0 za;have m:=j5 a8 k bc 0 za;exact af.r a [.eb 23 (ah g),.er 28 (nat j),yu f,yu d,.eq 31 e,.er 34 (nat i),yu c,yu b,.eq 37 m,.eq 38 (oC h)]
def GY{a b:aw}(h:a≠b):(zNq a !=zNq b)=bj:=by have:=fh h;unfold bne;rw[this];rfl
def TI(c:i<y6 l.bs)(u:y6 l.bs<=1000)(ok:l.Ok):(Yu l.bs i=0->xo G (ae f75 0) (bbS l i) y3 (bbS l (i+1)))/\(Yu l.bs i≠0->xo G (ae f75 0) (bbS l i) .ret (bdR (Yu l.bs i))):=by
 have f:=zS c;have m:=bA a8 c 0 za;have p:=j5 a8 c bc 0 za;have s:=aq a8 za c;have v:=fO a8 c bc;have t:=ok.bs _ (aA c bc);have g:=Fz a t.nm;have w:=ni xd.nm bc c;have pm:=aaz a t.aC;have bl:∀j,(bdS l i j).tmps.length=48:=λj=>aB ..
 unfold Yu;split;rename_i r;rw[r]at g;refine⟨λh=>(by cases h),λ_=>?_⟩;exact af.r a [.eb 10 (ah c),.er 15 (nat i),yu f,yu m,.eq 18 p,z3 g];rename_i r;have A:n7 (y7 l.bs i bc).nm=bj:=by simpa using r
 rw[A]at g;split;rename_i q;obtain⟨j,d1,d2,d3⟩:∃j,j<i/\gr (y7 l.bs j bc).nm (y7 l.bs i bc).nm=bj/\∀k<j,gr (y7 l.bs k bc).nm (y7 l.bs i bc).nm=aj:=by
  rcases w with⟨d,-⟩|⟨-,d⟩
  rw[q]at d;cases d;exact d
 have n:=aI.count (P:=zZq) (Good:=G) (a:=0) (l:=ae f75 1) (t:=.ret) (j:=bdR 6) (λj=>bdS l i j) j bl z1 (λk o=>QY a za c u (d3 k o)) (akz a d1 c d2);refine⟨λh=>(by cases h),λ_=>?_⟩;exact af.r a [.eb 10 (ah c),.er 15 (nat i),yu f,yu m,.eq 18 p,z3 g,.code n];rename_i q;have y:E8 (l.bs.map xd.nm) i=aj:=by simpa using q
 have x:∀j<i,gr (y7 l.bs j bc).nm (y7 l.bs i bc).nm=aj:=by
  rcases w with⟨-,d⟩|⟨d,-⟩
  exact d;rw[y]at d;cases d
 have n:=aI.count (P:=zZq) (Good:=G) (a:=0) (l:=ae f75 1) (t:=y5 2) (j:=bdS l i i) (λj=>bdS l i j) i bl z1 (λk o=>QY a o c u (x k o)) (aky a);refine⟨λh=>?_,λh=>?_⟩;rw[h]at pm;exact af.r a [.eb 10 (ah c),.er 15 (nat i),yu f,yu m,.eq 18 p,z3 g,.code n,.er 41 (nat i),yu f,yu s,.eq 43 v,z3 pm,.eq 12 (bL (ax c za))];generalize R8 (y7 l.bs i bc).aC=z at pm h;exact af.r a [.eb 10 (ah c),.er 15 (nat i),yu f,yu m,.eq 18 p,z3 g,.code n,.er 41 (nat i),yu f,yu s,.eq 43 v,z3 pm,.eb 46 (GY (b:=0) h)]
def akB:xo G (ae f75 0) (bbS l (y6 l.bs)) (y5 0) (bbS l (y6 l.bs)):=
 af.r a [.eb 10 (av (apc (y6 l.bs)))]
def Kz(bs:ai xd):aw:=jY (Yu bs) (y6 bs)
def adE(d:y6 l.bs<=1000)(ok:l.Ok):xf G 75 [Co l] (nat (Kz l.bs)):=by
 unfold Kz;rcases dg (Yu l.bs) (y6 l.bs) with⟨f,e⟩|⟨i,f,e,h,g⟩
 have c:=aI.z zZq G (ae f75 0) (y5 0) (bbS l (y6 l.bs)) (λk=>bbS l k) (y6 l.bs) (λk b=>(TI a b d ok).1 (e k b)) (akB a);rw[f];exact Spec.r a func75 [1] [.code c];have c:=aI.z zZq G (ae f75 0) .ret (bdR (Yu l.bs i)) (λk=>bbS l k) i (λk b=>(TI a za d ok).1 (g k b)) ((TI a f d ok).2 e);rw[h];exact Spec.r a func75 [1] [.code c]
end
def vi(i:cA)(n:aw):b5:=decide (i>=0)&&decide (i<zNq n)
def pM(i:cA)(n:aw):xf G 140 [int i,nat n] (bool (vi i n)):=by unfold vi;by_cases c:i>=0;by_cases b:i<zNq n;rw[apE c,apE b];exact Spec.r a func140 [] [.eb 6 (apE c),.eb 10 (apE b)];rw[apE c,apG b];exact Spec.r a func140 [] [.eb 6 (apE c),.eb 10 (apG b)];rw[apG c];exact Spec.r a func140 [] [.eb 6 (apG c)]
def L9(r:aw->b5)(k:aw):((ch k).any r=aj/\∀j<k,r j=aj)\/((ch k).any r=bj/\∃j,j<k/\r j=bj/\∀i<j,r i=aj):=by
 rcases dg (λj=>if r j=bj then 1 else 0) k with⟨-,h⟩|⟨i,e,d,-,g⟩
 have f:∀j<k,r j=aj:=λj a=>by have:=h j a;split at this;cases this;rename_i b;simpa using b
 refine y1 ⟨?_,f⟩;rw[arS];intro j a;rw[f j (arb.1 a)];simp;have c:r i=bj:=by split at d;assumption;exact api rfl d
 refine y2 ⟨?_,i,e,c,λj a=>?_⟩;rw[arj];exact⟨i,arb.2 e,c⟩;have:=g j a;split at this;cases this;rename_i b;simpa using b
def sS(ds:ai VQ)(i j:aw):b5:=(y7 ds j bc).body==(y7 ds i bc).body
def Rf(l:pB)(i:aw):aw:=
 if n7 (y7 l.ds i bc).nm=aj then 5
 else if E8 (l.ds.map VQ.nm) i=bj then 6
 else if vi (y7 l.ds i bc).body (y6 l.bs)=aj then 9
 else if(y7 l.ds i bc).body=0 then 7
 else if(ch i).any (sS l.ds i)=bj then 6 else 0
section
variable {l:pB} {i j:aw}
def drS(l:pB)(i j:aw):St:=lay 55 [(1,nat i),(2,.aJ (uI l)),(5,y0 0 0),(6,nat j)] [(0,A3 (y7 l.ds i bc))]
def drT(l:pB)(i j:aw):St:=lay 55 [(1,nat i),(2,.aJ (uI l)),(5,y0 0 0),(7,nat j)] [(0,A3 (y7 l.ds i bc))]
def drR(n:aw):St:=lay 55 [(4,nat n)] []
def Qx(h:j<y6 l.ds):((0:cA)<=zNq j/\zNq j<(y6 l.ds:cA))/\(zNq j).toNat*2<y6 (l.ds.flatMap A3):=ay fZ za h
def Qz(d:j<i)(f:i<y6 l.ds)(g:y6 l.ds<=1000)(h:gr (y7 l.ds j bc).nm (y7 l.ds i bc).nm=aj):
  xo G (ae f77 0) (drS l i j) y3 (drS l i (j+1)):=by
 have c:=Qx (l:=l) (j:=j) za;have b:=bA fZ (i:=j) (l:=l.ds) za 0 za;have e:=j5 fZ (i:=j) (l:=l.ds) za bc 0 za;exact af.r a [.eb 19 (ah d),.er 24 (nat j),yu c,yu b,.eq 27 e,.eq 30 (oC h),.eq 21 (bL (ax d za))]
def ake:xo G (ae f77 0) (drS l i i) (y5 0) (drS l i i):=
 af.r a [.eb 19 (av (apc i))]
def akf(c:j<i)(f:i<y6 l.ds)(h:gr (y7 l.ds j bc).nm (y7 l.ds i bc).nm=bj):
  xo G (ae f77 0) (drS l i j) .ret (drR 6):=by
 have b:=Qx (l:=l) (j:=j) za;have d:=bA fZ (i:=j) (l:=l.ds) za 0 za;have e:=j5 fZ (i:=j) (l:=l.ds) za bc 0 za;exact af.r a [.eb 19 (ah c),.er 24 (nat j),yu b,yu d,.eq 27 e,.eq 30 (oC h)]
def QE(d:j<i)(f:i<y6 l.ds)(g:y6 l.ds<=1000)(h:sS l.ds i j=aj):
  xo G (ae f77 1) (drT l i j) y3 (drT l i (j+1)):=by
 have c:=Qx (l:=l) (j:=j) za;have b:=bA fZ (i:=j) (l:=l.ds) za 1 za;have e:=j5 fZ (i:=j) (l:=l.ds) za bc 1 za;exact af.r a [.eb 43 (ah d),.er 48 (nat j),yu c,yu b,.eq 51 e,.eb 54 h,.eq 45 (bL (ax d za))]
def akg:xo G (ae f77 1) (drT l i i) (y5 2) (drT l i i):=
 af.r a [.eb 43 (av (apc i))]
def akh(c:j<i)(f:i<y6 l.ds)(h:sS l.ds i j=bj):
  xo G (ae f77 1) (drT l i j) .ret (drR 6):=by
 have b:=Qx (l:=l) (j:=j) za;have d:=bA fZ (i:=j) (l:=l.ds) za 1 za;have e:=j5 fZ (i:=j) (l:=l.ds) za bc 1 za;exact af.r a [.eb 43 (ah c),.er 48 (nat j),yu b,yu d,.eq 51 e,.eb 54 h]
def acY(c:i<y6 l.ds)(q:y6 l.ds<=1000)(ok:l.Ok):xf G 77 [Co l,nat i] (nat (Rf l i)):=by
 have m:=Qx c;have g:=aq fZ za c
 have p:=fO fZ c bc;have f:=Fz a (ok.ds _ (aA c bc));have y:=ni VQ.nm bc c;have z:=L9 (sS l.ds i) i;have o:=pM a (y7 l.ds i bc).body (y6 l.bs);have B:∀j,(drS l i j).tmps.length=55:=λj=>aB ..
 have A:∀j,(drT l i j).tmps.length=55:=λj=>aB ..
 unfold Rf;split
 ·rename_i x
  rw[x]at f;exact Spec.r a func77 [2] [.er 10 (nat i),yu m,yu g,.eq 12 p,z3 f]
 ·rename_i x
  have F:n7 (y7 l.ds i bc).nm=bj:=by simpa using x
  rw[F]at f;split
  ·rename_i w
   obtain⟨j,d1,d2,d3⟩:∃j,j<i/\gr (y7 l.ds j bc).nm (y7 l.ds i bc).nm=bj/\∀k<j,gr (y7 l.ds k bc).nm (y7 l.ds i bc).nm=aj:=by
    rcases y with⟨b,-⟩|⟨-,b⟩
    ·rw[w]at b;cases b
    ·exact b
   have n:=aI.count (P:=zZq) (Good:=G) (a:=0) (l:=ae f77 0) (t:=.ret) (j:=drR 6) (λj=>drS l i j) j B z1 (λk d=>Qz a za c q (d3 k d)) (akf a d1 c d2)
   exact Spec.r a func77 [2] [.er 10 (nat i),yu m,yu g,.eq 12 p,z3 f,.code n]
  ·rename_i w
   have E:E8 (l.ds.map VQ.nm) i=aj:=by simpa using w
   have C:∀j<i,gr (y7 l.ds j bc).nm (y7 l.ds i bc).nm=aj:=by
    rcases y with⟨-,b⟩|⟨b,-⟩
    ·exact b
    ·rw[E]at b;cases b
   have n:=aI.count (P:=zZq) (Good:=G) (a:=0) (l:=ae f77 0) (t:=y5 0) (j:=drS l i i) (λj=>drS l i j) i B z1 (λk d=>Qz a d c q (C k d)) (ake a)
   split
   ·rename_i v
    rw[v]at o;exact Spec.r a func77 [2] [.er 10 (nat i),yu m,yu g,.eq 12 p,z3 f,.code n,z3 o]
   ·rename_i v
    have D:vi (y7 l.ds i bc).body (y6 l.bs)=bj:=by simpa using v
    rw[D]at o;split
    ·rename_i u
     have r:((y7 l.ds i bc).body==0)=bj:=by rw[u];rfl
     exact Spec.r a func77 [2] [.er 10 (nat i),yu m,yu g,.eq 12 p,z3 f,.code n,z3 o,.eb 40 r]
    ·rename_i u
     have r:((y7 l.ds i bc).body==0)=aj:=by rw[c4];exact u
     split
     ·rename_i t
      obtain⟨j,d1,d2,d3⟩:∃j,j<i/\sS l.ds i j=bj/\∀k<j,sS l.ds i k=aj:=by
       rcases z with⟨b,-⟩|⟨-,b⟩
       ·rw[t]at b;cases b
       ·exact b
      have lq:=aI.count (P:=zZq) (Good:=G) (a:=0) (l:=ae f77 1) (t:=.ret) (j:=drR 6) (λj=>drT l i j) j A z1 (λk d=>QE a za c q (d3 k d)) (akh a d1 c d2)
      exact Spec.r a func77 [2] [.er 10 (nat i),yu m,yu g,.eq 12 p,z3 f,.code n,z3 o,.eb 40 r,.code lq]
     ·rename_i t
      have s:∀j<i,sS l.ds i j=aj:=by
       rcases z with⟨-,b⟩|⟨b,-⟩
       ·exact b
       ·exact api b t
      have lq:=aI.count (P:=zZq) (Good:=G) (a:=0) (l:=ae f77 1) (t:=y5 2) (j:=drT l i i) (λj=>drT l i j) i A z1 (λk d=>QE a d c q (s k d)) (akg a)
      exact Spec.r a func77 [2] [.er 10 (nat i),yu m,yu g,.eq 12 p,z3 f,.code n,z3 o,.eb 40 r,.code lq]
end
def Ba(p q:Cm):b5:=(wW p.x.q q.x.q==0)&&(wW p.y.q q.y.q==0)
def aix{p q:Cm}(d:p.Ok)(c:q.Ok):xf G 141 [y4 (qp p),y4 (qp q)] (bool (Ba p q)):=by
 obtain⟨k1,a1,n⟩:=d.x;obtain⟨k2,h,m⟩:=d.y;obtain⟨k3,g,k⟩:=c.x;obtain⟨k4,d1,d2⟩:=c.y;have cx:=JQ a (Raw.ok.uV a1) (Raw.ok.uV g) za;have f:=JQ a (Raw.ok.uV h) (Raw.ok.uV d1) za;unfold Ba;cases b:wW p.x.q q.x.q==0 with
 |true=>cases e:wW p.y.q q.y.q==0 with
  |true=>exact Spec.r a func141 [2,3] [z3 cx,.eb 10 b,z3 f,.eb 17 e]
  |false=>exact Spec.r a func141 [2,3] [z3 cx,.eb 10 b,z3 f,.eb 17 e]
 |false=>exact Spec.r a func141 [2,3] [z3 cx,.eb 10 b]
section
variable {l:pB} {i j:aw}
def nZ(l:pB)(b:cA):ai Cm:=(y7 l.bs b.toNat bc).aC
def jtF(l:pB)(j:Q_):aw:=
 if(j.kind !=0)=bj/\(j.kind !=1)=bj then 7
 else if vi j.a (y6 l.bs)=aj\/vi j.b (y6 l.bs)=aj then 9
 else if(j.a==j.b)=bj then 13
 else if vi j.p (nZ l j.a).length=aj\/vi j.on (nZ l j.b).length=aj then 9
 else if(j.kind==0)=bj then(if(j.to !=0)=bj then 2 else 0)
 else if vi j.to (nZ l j.b).length=aj then 9
 else if Ba ((nZ l j.b).getD j.on.toNat bc) ((nZ l j.b).getD j.to.toNat bc)=bj then 8 else 0
def P3(l:pB)(i:aw):aw:=
 if n7 (y7 l.js i bc).nm=aj then 5
 else if E8 (l.js.map Q_.nm) i=bj then 6
 else jtF l (y7 l.js i bc)
def jtS(l:pB)(i j:aw):St:=lay 112 [(1,nat i),(2,.aJ (uI l)),(5,y0 0 0),(6,nat j)] [(0,Fk (y7 l.js i bc))]
def amg(n:aw):St:=lay 112 [(4,nat n)] []
def abT(h:j<y6 l.js):((0:cA)<=zNq j/\zNq j<(y6 l.js:cA))/\(zNq j).toNat*7<y6 (l.js.flatMap Fk):=ay kJ za h
def P0(d:j<i)(f:i<y6 l.js)(g:y6 l.js<=1000)(h:gr (y7 l.js j bc).nm (y7 l.js i bc).nm=aj):
  xo G (ae f76 0) (jtS l i j) y3 (jtS l i (j+1)):=by
 have c:=abT (l:=l) (j:=j) za;have b:=bA kJ (i:=j) (l:=l.js) za 0 za;have e:=j5 kJ (i:=j) (l:=l.js) za bc 0 za;exact af.r a [.eb 20 (ah d),.er 25 (nat j),yu c,yu b,.eq 28 e,.eq 31 (oC h),.eq 22 (bL (ax d za))]
def ajG:xo G (ae f76 0) (jtS l i i) (y5 0) (jtS l i i):=
 af.r a [.eb 20 (av (apc i))]
def ajH(c:j<i)(f:i<y6 l.js)(h:gr (y7 l.js j bc).nm (y7 l.js i bc).nm=bj):
  xo G (ae f76 0) (jtS l i j) .ret (amg 6):=by
 have b:=abT (l:=l) (j:=j) za;have d:=bA kJ (i:=j) (l:=l.js) za 0 za;have e:=j5 kJ (i:=j) (l:=l.js) za bc 0 za;exact af.r a [.eb 20 (ah c),.er 25 (nat j),yu b,yu d,.eq 28 e,.eq 31 (oC h)]
def uv{x:cA}{n:aw}(h:vi x n=bj):∃m:aw,x=zNq m/\m<n:=by unfold vi at h;rw[dT,cm,cm]at h;exact⟨x.toNat,by simp;omega,by have:=h.2;simp at this;omega⟩
def Fq{x y:b5}(h:¬(x=aj\/y=aj)):x=bj/\y=bj:=by cases x<;>cases y<;>simp_all
end
section
variable {l:pB} {i j:aw}
def Bn{b:aw}(h:b<y6 l.bs):((0:cA)<=zNq b/\zNq b<(y6 l.bs:cA))/\(zNq b).toNat*2<y6 (l.bs.flatMap tv):=ay a8 za h
def af1(J:i<y6 l.js)(O:y6 l.js<=1000)(ok:l.Ok):xf G 76 [Co l,nat i] (nat (P3 l i)):=by
 have s:=abT J;have r:=aq kJ za J;have t:=fO kJ J bc;have f:=Fz a (ok.js _ (aA J bc));have X:=ni Q_.nm bc J;have Y:∀j,(jtS l i j).tmps.length=112:=λj=>aB ..
 unfold P3;split;rename_i U;rw[U]at f;exact Spec.r a func76 [2] [.er 11 (nat i),yu s,yu r,.eq 13 t,z3 f];rename_i U;have I6:n7 (y7 l.js i bc).nm=bj:=by simpa using U
 rw[I6]at f;split;rename_i T;obtain⟨j,d1,d2,d3⟩:∃j,j<i/\gr (y7 l.js j bc).nm (y7 l.js i bc).nm=bj/\∀k<j,gr (y7 l.js k bc).nm (y7 l.js i bc).nm=aj:=by
  rcases X with⟨H,-⟩|⟨-,H⟩
  rw[T]at H;cases H;exact H
 have q:=aI.count (P:=zZq) (Good:=G) (a:=0) (l:=ae f76 0) (t:=.ret) (j:=amg 6) (λj=>jtS l i j) j Y z1 (λk w=>P0 a za J O (d3 k w)) (ajH a d1 J d2);exact Spec.r a func76 [2] [.er 11 (nat i),yu s,yu r,.eq 13 t,z3 f,.code q];rename_i T;have Te:E8 (l.js.map Q_.nm) i=aj:=by simpa using T
 have hd:∀j<i,gr (y7 l.js j bc).nm (y7 l.js i bc).nm=aj:=by
  rcases X with⟨-,H⟩|⟨H,-⟩
  exact H;rw[Te]at H;cases H
 have q:=aI.count (P:=zZq) (Good:=G) (a:=0) (l:=ae f76 0) (t:=y5 0) (j:=jtS l i i) (λj=>jtS l i j) i Y z1 (λk w=>P0 a w J O (hd k w)) (ajG a);clear X Y hd U T Te;unfold jtS at q;unfold jtF;generalize y7 l.js i bc=jt at*;obtain⟨nj,N,c,p,b,on,to⟩:=jt;simp only at I6 f⊢;have g:=pM a c (y6 l.bs);have ib:=pM a b (y6 l.bs);by_cases w:(N !=0)=bj/\(N !=1)=bj;rw[aph w];have k0:=w.1;have k1:=w.2;exact Spec.r a func76 [2] [.er 11 (nat i),yu s,yu r,.eq 13 t,z3 f,.code q,.eb 34 k0,.eb 38 k1];rw[ape w];have kc:(N=0)\/(N=1):=by by_cases q0:N=0;exact y1 q0;by_cases q1:N=1;exact y2 q1;exact api ⟨kE.2 q0,kE.2 q1⟩ w
 clear w;obtain rfl|rfl:=kc
 by_cases y:vi c (y6 l.bs)=aj\/vi b (y6 l.bs)=aj;rw[aph y];cases d:vi c (y6 l.bs) with
 |false=>
  rw[d]at g;exact Spec.r a func76 [2] [.er 11 (nat i),yu s,yu r,.eq 13 t,z3 f,.code q,z3 g]
 |true=>
  have v:vi b (y6 l.bs)=aj:=y.resolve_left (by rw[d];simp);rw[d]at g;rw[v]at ib;exact Spec.r a func76 [2] [.er 11 (nat i),yu s,yu r,.eq 13 t,z3 f,.code q,z3 g,z3 ib]
 rw[ape y];obtain⟨d,v⟩:=Fq y;rw[d]at g;rw[v]at ib;obtain⟨an,rfl,L⟩:=uv d;obtain⟨n,rfl,I⟩:=uv v;clear y d v;by_cases m:(zNq an==zNq n)=bj;rw[aph m];exact Spec.r a func76 [2] [.er 11 (nat i),yu s,yu r,.eq 13 t,z3 f,.code q,z3 g,z3 ib,.eb 60 m];rw[ape m];have m:(zNq an==zNq n)=aj:=by simpa using m
 have W:nZ l (zNq an)=(y7 l.bs an bc).aC:=rfl;have eb:nZ l (zNq n)=(y7 l.bs n bc).aC:=rfl;rw[W,eb];have a1:=Bn L;have F:=bA a8 L 1 za;have E:=j5 a8 L bc 1 za;have D:=Bn I;have C:=bA a8 I 1 za;have z:=j5 a8 I bc 1 za;have K:=(ok.bs _ (aA I bc)).aC;generalize(y7 l.bs an bc)=A at*;generalize(y7 l.bs n bc)=B at*;have ip:=pM a p (y6 A.aC);have io:=pM a on (y6 B.aC);have it:=pM a to (y6 B.aC);by_cases x:vi p (y6 A.aC)=aj\/vi on (y6 B.aC)=aj;rw[aph x];cases d:vi p (y6 A.aC) with
 |false=>
  rw[d]at ip;exact Spec.r a func76 [2] [.er 11 (nat i),yu s,yu r,.eq 13 t,z3 f,.code q,z3 g,z3 ib,.eb 60 m,.er 64 (nat an),yu a1,yu F,.eq 67 E,.er 71 (nat n),yu D,yu C,.eq 74 z,z3 ip]
 |true=>
  have v:vi on (y6 B.aC)=aj:=x.resolve_left (by rw[d];simp);rw[d]at ip;rw[v]at io;exact Spec.r a func76 [2] [.er 11 (nat i),yu s,yu r,.eq 13 t,z3 f,.code q,z3 g,z3 ib,.eb 60 m,.er 64 (nat an),yu a1,yu F,.eq 67 E,.er 71 (nat n),yu D,yu C,.eq 74 z,z3 ip,z3 io]
 rw[ape x];obtain⟨V,S⟩:=Fq x;rw[V]at ip;rw[S]at io;clear x;rw[aph (show((0:cA)==0)=bj from rfl)];cases M:(to !=0)with
 |true=>
  rw[aph rfl];exact Spec.r a func76 [2] [.er 11 (nat i),yu s,yu r,.eq 13 t,z3 f,.code q,z3 g,z3 ib,.eb 60 m,.er 64 (nat an),yu a1,yu F,.eq 67 E,.er 71 (nat n),yu D,yu C,.eq 74 z,z3 ip,z3 io,.eb 94 M]
 |false=>
  rw[ape zb];exact Spec.r a func76 [2] [.er 11 (nat i),yu s,yu r,.eq 13 t,z3 f,.code q,z3 g,z3 ib,.eb 60 m,.er 64 (nat an),yu a1,yu F,.eq 67 E,.er 71 (nat n),yu D,yu C,.eq 74 z,z3 ip,z3 io,.eb 94 M]
 by_cases y:vi c (y6 l.bs)=aj\/vi b (y6 l.bs)=aj;rw[aph y];cases d:vi c (y6 l.bs) with
 |false=>
  rw[d]at g;exact Spec.r a func76 [2] [.er 11 (nat i),yu s,yu r,.eq 13 t,z3 f,.code q,z3 g]
 |true=>
  have v:vi b (y6 l.bs)=aj:=y.resolve_left (by rw[d];simp);rw[d]at g;rw[v]at ib;exact Spec.r a func76 [2] [.er 11 (nat i),yu s,yu r,.eq 13 t,z3 f,.code q,z3 g,z3 ib]
 rw[ape y];obtain⟨d,v⟩:=Fq y;rw[d]at g;rw[v]at ib;obtain⟨an,rfl,L⟩:=uv d;obtain⟨n,rfl,I⟩:=uv v;clear y d v;by_cases m:(zNq an==zNq n)=bj;rw[aph m];exact Spec.r a func76 [2] [.er 11 (nat i),yu s,yu r,.eq 13 t,z3 f,.code q,z3 g,z3 ib,.eb 60 m];rw[ape m];have m:(zNq an==zNq n)=aj:=by simpa using m
 have W:nZ l (zNq an)=(y7 l.bs an bc).aC:=rfl;have eb:nZ l (zNq n)=(y7 l.bs n bc).aC:=rfl;rw[W,eb];have a1:=Bn L;have F:=bA a8 L 1 za;have E:=j5 a8 L bc 1 za;have D:=Bn I;have C:=bA a8 I 1 za;have z:=j5 a8 I bc 1 za;have K:=(ok.bs _ (aA I bc)).aC;generalize(y7 l.bs an bc)=A at*;generalize(y7 l.bs n bc)=B at*;have ip:=pM a p (y6 A.aC);have io:=pM a on (y6 B.aC);have it:=pM a to (y6 B.aC);by_cases x:vi p (y6 A.aC)=aj\/vi on (y6 B.aC)=aj;rw[aph x];cases d:vi p (y6 A.aC) with
 |false=>
  rw[d]at ip;exact Spec.r a func76 [2] [.er 11 (nat i),yu s,yu r,.eq 13 t,z3 f,.code q,z3 g,z3 ib,.eb 60 m,.er 64 (nat an),yu a1,yu F,.eq 67 E,.er 71 (nat n),yu D,yu C,.eq 74 z,z3 ip]
 |true=>
  have v:vi on (y6 B.aC)=aj:=x.resolve_left (by rw[d];simp);rw[d]at ip;rw[v]at io;exact Spec.r a func76 [2] [.er 11 (nat i),yu s,yu r,.eq 13 t,z3 f,.code q,z3 g,z3 ib,.eb 60 m,.er 64 (nat an),yu a1,yu F,.eq 67 E,.er 71 (nat n),yu D,yu C,.eq 74 z,z3 ip,z3 io]
 rw[ape x];obtain⟨V,S⟩:=Fq x;rw[V]at ip;rw[S]at io;clear x;rw[ape (show¬((1:cA)==0)=bj by decide)];by_cases M:vi to (y6 B.aC)=aj;rw[aph M];rw[M]at it;exact Spec.r a func76 [2] [.er 11 (nat i),yu s,yu r,.eq 13 t,z3 f,.code q,z3 g,z3 ib,.eb 60 m,.er 64 (nat an),yu a1,yu F,.eq 67 E,.er 71 (nat n),yu D,yu C,.eq 74 z,z3 ip,z3 io,z3 it];rw[ape M];have hT:vi to (y6 B.aC)=bj:=by simpa using M
 rw[hT]at it;obtain⟨o,rfl,R⟩:=uv S;obtain⟨u,rfl,hu⟩:=uv hT;have eo:(zNq o).toNat=o:=rfl;have eu:(zNq u).toNat=u:=rfl;rw[eo,eu];have o1:=ay bb za R;have o2:=aq bb za R;have o3:=fO bb R bc;have u1:=ay bb za hu;have u2:=aq bb za hu;have Z:=fO bb hu bc;have Q:=aix a (K _ (aA R bc)) (K _ (aA hu bc));cases O:Ba (y7 B.aC o bc) (y7 B.aC u bc)with
 |true=>
  rw[aph rfl];rw[O]at Q;exact Spec.r a func76 [2] [.er 11 (nat i),yu s,yu r,.eq 13 t,z3 f,.code q,z3 g,z3 ib,.eb 60 m,.er 64 (nat an),yu a1,yu F,.eq 67 E,.er 71 (nat n),yu D,yu C,.eq 74 z,z3 ip,z3 io,z3 it,.er 103 (nat o),yu o1,yu o2,.eq 105 o3,.er 108 (nat u),yu u1,yu u2,.eq 110 Z,z3 Q]
 |false=>
  rw[ape zb];rw[O]at Q;exact Spec.r a func76 [2] [.er 11 (nat i),yu s,yu r,.eq 13 t,z3 f,.code q,z3 g,z3 ib,.eb 60 m,.er 64 (nat an),yu a1,yu F,.eq 67 E,.er 71 (nat n),yu D,yu C,.eq 74 z,z3 ip,z3 io,z3 it,.er 103 (nat o),yu o1,yu o2,.eq 105 o3,.er 108 (nat u),yu u1,yu u2,.eq 110 Z,z3 Q]
end
end Tw
end Lw
