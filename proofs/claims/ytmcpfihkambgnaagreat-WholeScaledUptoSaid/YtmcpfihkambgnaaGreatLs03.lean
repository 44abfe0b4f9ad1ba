/- Part 3. -/
import Derived.Test.YtmcpfihkambgnaaGreatLs02
import Derived.ProofKit
import Derived.OpenShut
import Derived.Carry
set_option maxHeartbeats 2000000
set_option linter.all false
open Option renaming some->a6,none->bk
open _root_ renaming List->ai,Nat->aw,Bool->b5,Option->bF,beq_eq_false_iff_ne->c4,Int->cA,ByteArray->cB,Rat->cl,decide_eq_true_eq->cm,Array->eY,decide_eq_false_iff_not->fH,if_true->gn,of_decide_eq_true->hJ,if_false->jv,bne_iff_ne->kE,if_neg->ks,if_pos->nT,decide_eq_decide->uL,Decidable->vp
open Bool renaming false->aj,true->bj,false_eq_true->cy,false_and->im,not_true->kn,xor->rf
open Go renaming Value->b3,World->bn,TypeId->c5,FuncId->c7,Program->cp,Oper->e9,cell_of_row->l0,MemPlace->oA,DataW->qm
open List renaming mem_cons->b4,not_mem_nil->bI,getD_eq_getElem?_getD->bP,replicate->cd,range->ch,length_cons->ey,length_nil->fl,getElem?_take->gi,getElem?_eq_none->jy,getElem_range->kT,mem_map->ky,getElem_map->kz,getElem?_drop->lf,nil_append->lp,drop_zero->sv,length->y6,getD->y7
open Go.IntKind renaming wrap->bJ,bits->cn,signed->rb
open Nat renaming gcd->c8,log2->kG,pow_zero->mb,mul_left_comm->om,mul_assoc->px,mul_comm->qH,mul_one->qg,div_one->ql,zero_add->qq,sub_zero->si,mod_two_eq_zero_or_one->sn,mod_mul_right_div_self->so,add_sub_cancel->sr,pow_lt_pow_iff_right->uc,add_comm->vT,dvd_of_mod_eq_zero->vy
open Go.DataW renaming trod->dO
open BitVec renaming ofInt->di,ofInt_natCast->rL,toNat_ofNat->sy
open Int renaming toNat->ga,gcd->gx,toNat_natCast->mm,ofNat_eq_natCast->rI,sign_eq_zero_iff_zero->sE,natAbs_ediv_le_natAbs->sH
open Rat renaming divInt->hU
open Classical renaming choose->rm
open Go.Proofs.Tryz renaming underlying49->tc
open Lw.Item renaming call->z3,prop->yu
open Lw.D renaming row->yI,lit->yT,ptr->y0,agg->y4
open Or renaming inl->y1,inr->y2
open Lw.iw renaming normal->y3,exit->y5
open Int renaming ofNat->zNq
open Int renaming ofNat_eq_natCast->zKq
open Go.Proofs.Tryz renaming prog->zZq
open Go.Proofs.Tryz
namespace Lw
open Go Go.RowKit Go.Proofs
variable {G:bn->Prop}
def MW:ai e9->bF cB
 |[]=>bk
 |o::l=>match o.op with
  |.index _ (.const v) _=>(match v with|.string s=>a6 s|_=>MW l)
  |_=>MW l
def Code.text:Code->bF cB
 |.seq x y=>match Code.text x with|some s=>a6 s|none=>Code.text y
 |.cond _ x y=>match Code.text x with|some s=>a6 s|none=>Code.text y
 |.block _ x=>Code.text x
 |.loop x=>Code.text x
 |.region _ ops _=>MW ops.toList
 |_=>bk
noncomputable def zl:cB:=((Tryz.f292.body.map Code.text).getD bk).getD ⟨#[]⟩
def PU:zl.size=256:=zk
def SR:(ch 256).all (λi=>((zl[i]?).getD 0).toNat==bl i)=bj:=zk
def Aq{x:aw}(h:x<256):((zl[x]?).getD 0).toNat=bl x:=by have:=SR;rw[apH]at this;simpa using this x (by simpa using h)
def CF{x:aw}(h:x<256):(0:cA)<=zNq x/\(zNq x).toNat<zl.size:=by rw[PU];simp;omega
def u7{x:aw}(k:aw)(h:k<=32):(zNq x).fdiv (2^min (zNq k).toNat (cn .u32))=zNq (x/2^k):=by
 have e:min (zNq k).toNat (cn .u32)=k:=by show min k 32=k;omega
 rw[e,fdiv_pow]
def Vy{x:aw}(h:x<256):bJ .u8 (zNq x)=zNq x:=by
 have e:(2^cn .u8:cA)=256:=zv
 simp only[bJ,rb,e,im,cy,jv];exact Int.emod_eq_of_lt zb zT
def Vx{x:aw}(h:x<2^60):bJ .i64 (zNq x)=zNq x:=by have a:=dF;exact qu (by simp only[zKq];omega) (by simp only[zKq];omega)
def eq8{x y:cA}(h:x=y):D.lit (.int .u8 x)=D.lit (.int .u8 y):=by rw[h]
variable (a:aa G) {b c g:aw} {d:ai aw} {f u:b5} {h i:cA} {t:ar} {y:dh}
def rY{x:aw}(h:c<=x):decide (zNq x>=zNq c)=bj:=by simpa using h
def nh{x:aw}(h:x<c):decide (zNq x>=zNq c)=aj:=by simpa using h
def zQ{x:aw}(h:x<256):bl x<=8:=by
 by_cases b:x=0;subst b;decide;have c:=JF b;rcases apy 8 (bl x)with a|a
 have:2^8<=2^(bl x-1):=apI za za;omega;exact a
def SS{x:aw}(h:x<4294967296):xf G 292 [u32 x] (nat (bl x)):=by
  have tail:∀y n,y<256->n<=24->bJ .i64 (zNq n+zNq (bl y))=zNq (n+bl y):=λy n b d=>pS (by have:=zQ b;omega)
  by_cases b:65536<=x
  · have g:=zR (x:=x) (k:=16) (by simpa using b)
    by_cases d:256<=x/2^16
    · have f:=zR (x:=x/2^16) (k:=8) (by simpa using d)
      have e:x/2^16/2^8<256:=za
      have c:bl x=24+bl (x/2^16/2^8):=za
      rw[c];exact Spec.r a func292 [] [.eb 4 (rY b),.eq 6 (gR (u7 (x:=x) 16 za)),.eb 8 (rY d),.eq 10 (gR (u7 (x:=x/2^16) 8 za)),
         .eq 15 (eq8 (Vy e)),yu (CF e),.eq 16 (eq8 (x:=zNq ((zl[(zNq (x/2^16/2^8)).toNat]?).getD 0).toNat) (y:=zNq (bl (x/2^16/2^8))) (aql zNq (Aq e))),
         .eq 17 (bL (Vx (x:=bl (x/2^16/2^8)) (by have:=zQ e;omega))),.eq 18 (bL (tail _ 24 e za))]
    · have e:x/2^16<256:=za
      have c:bl x=16+bl (x/2^16):=za
      rw[c];exact Spec.r a func292 [] [.eb 4 (rY b),.eq 6 (gR (u7 (x:=x) 16 za)),.eb 8 (nh e),
         .eq 15 (eq8 (Vy e)),yu (CF e),.eq 16 (eq8 (x:=zNq ((zl[(zNq (x/2^16)).toNat]?).getD 0).toNat) (y:=zNq (bl (x/2^16))) (aql zNq (Aq e))),
         .eq 17 (bL (Vx (x:=bl (x/2^16)) (by have:=zQ e;omega))),.eq 18 (bL (tail _ 16 e za))]
  · by_cases d:256<=x
    · have f:=zR (x:=x) (k:=8) (by simpa using d)
      have e:x/2^8<256:=za
      have c:bl x=8+bl (x/2^8):=za
      rw[c];exact Spec.r a func292 [] [.eb 4 (nh (Nat.lt_of_not_le b)),.eb 8 (rY d),.eq 10 (gR (u7 (x:=x) 8 za)),
         .eq 15 (eq8 (Vy e)),yu (CF e),.eq 16 (eq8 (x:=zNq ((zl[(zNq (x/2^8)).toNat]?).getD 0).toNat) (y:=zNq (bl (x/2^8))) (aql zNq (Aq e))),
         .eq 17 (bL (Vx (x:=bl (x/2^8)) (by have:=zQ e;omega))),.eq 18 (bL (tail _ 8 e za))]
    · have e:x<256:=za
      have c:bl x=0+bl x:=za
      rw[c];exact Spec.r a func292 [] [.eb 4 (nh (Nat.lt_of_not_le b)),.eb 8 (nh e),
         .eq 15 (eq8 (Vy e)),yu (CF e),.eq 16 (eq8 (x:=zNq ((zl[(zNq x).toNat]?).getD 0).toNat) (y:=zNq (bl x)) (aql zNq (Aq e))),
         .eq 17 (bL (Vx (x:=bl x) (by have:=zQ e;omega))),.eq 18 (bL (tail _ 0 e za))]
def adJ{x:aw}(h:x<4294967296):bl x<=32:=by
 by_cases b:x=0;subst b;decide;have c:=JF b;rcases apy 32 (bl x)with a|a
 have:2^32<=2^(bl x-1):=apI za za;omega;exact a
def Xm(a:aa G){x:aw}(h:x<4294967296):xf G 233 [u32 x] (nat (32-bl x)):=by have:=adJ h;exact Spec.r a func233 [] [z3 (SS a h),.eq 5 (bL (x:=bJ .i64 (32-zNq (bl x))) (y:=zNq (32-bl x)) (by rw[qu zT zT];simp;omega))]
structure Gk where
 p:dh
 N:aw
 Nq:aw
 n:aw
 j:aw
 cap:aw
 v:ai aw
 F:aw->aw
 qs:ai D
structure Gk.ok(d:Gk):Prop where
 hp:d.p.ok
 hv:2<=d.v.length
 hj:d.j+(d.v.length+1)<=d.N
 hN:d.N<2^60
 Dv:d.F (d.j+(d.v.length-2))=d.p.w2
 hh:d.p.head<18446744073709551616
def vN(d:Gk)(t:aw):St:=
 lay 158 [(8,nat d.n),(9,ak d.v),(10,.aY 0 0 d.N d.N),(11,.aY 1 0 d.Nq d.Nq),(12,u64 d.p.top),(13,u64 d.p.next),(14,nat d.j),(15,.aY 0 d.j (y6 d.v+1) d.cap),(17,u64 (d.p.g t)),(18,u64 (d.p.r t))]
  [(0,cK d.N d.F),(1,d.qs)]
def zi{x:aw}(h:x<c):decide (zNq x<zNq c)=bj:=ah h
def af_{x y:aw}(h:y<x):decide (zNq x>zNq y)=bj:=by simpa using h
def acn{x y:aw}(h:x<=y):decide (zNq x>zNq y)=aj:=by simpa using h
def tq(h:b<2^60)(k:c<=b):bJ .i64 (zNq b-zNq c)=zNq (b-c):=by have a:=dF;rw[qu (by simp only[zKq];omega) (by simp only[zKq];omega)];simp only[zKq];omega
def Ei{x:aw}(h:0<x)(a:x<=18446744073709551616):bJ .u64 (zNq x-1)=zNq (x-1):=by rw[rk];simp only[zKq];omega
def dh.aoq(p:dh)(t:aw):p.g t<=p.head:=by unfold dh.g;exact apm (arh _ _) (aqg _ _)
def dh.amP(h:y.more b):0<y.g b:=by
 obtain h|h:=h.2
 omega;rcases apv (y.g b)with a|a
 rw[a,aqH]at h;omega;exact a
def dh.aje:y.g (b+1)=y.g b-1:=by unfold dh.g;omega
def dh.ajd:y.r (b+1)=y.r b+y.top:=by unfold dh.r;rw[aqN,aqw];omega
variable {x:Gk}
def T4(a:x.ok):(0<1/\x.j+(y6 x.v-2)+1<=y6 (cK x.N x.F)):=by have:=a.hj;have:=a.hv;rw[dw];omega
def XI{d:Gk}(l:d.ok)(t:d.p.more b):
    xo G (ae f171 1) (vN d b) y3 (vN d (b+1)):=by
  have s:=dF;have z:=dh.aoq d.p b;have c:=dh.amP t;have w:=l.hh;have u:=l.hp.ab1;have g:d.p.r b<4294967296:=t.1;have m:=l.hp.Dv;have r:d.p.r b*4294967296<18446744073709551616:=by clear t c;omega
  have f:d.p.w2<18446744073709551616:=by clear t c;omega
  have v:=l.hj;have o:=l.hv;have A:=l.hN;have n:y6 d.v-2<y6 d.v+1:=za
  have e:vN d (b+1)=lay 158 [(8,nat d.n),(9,ak d.v),(10,.aY 0 0 d.N d.N),(11,.aY 1 0 d.Nq d.Nq),(12,u64 d.p.top),(13,u64 d.p.next),(14,nat d.j),(15,.aY 0 d.j (y6 d.v+1) d.cap),(17,u64 (d.p.g b-1)),(18,u64 (d.p.r b+d.p.top))]
    [(0,cK d.N d.F),(1,d.qs)]:=by unfold vN;rw[dh.aje,dh.ajd]
  rw[e];clear e;obtain j|q:=apy (d.p.g b) 4294967296
  · have hmul:d.p.r b*4294967296+d.p.w2<d.p.g b*d.p.next:=by
      obtain h|h:=t.2
      · exact api j (Nat.not_lt.2 h)
      · exact h
    have p:=zd j l.hp.Qa;exact af.r a [.eb 113 (zi g),.eb 116 (nh j),.eq 120 (bz (wrap_mul (x:=d.p.g b) (y:=d.p.next) za)),.eq 122 (bz (K2 (x:=d.p.r b) g)),
       .eq 126 (bL (tq (b:=y6 d.v) (c:=2) za o)),yu (dk n),.eq 127 (rz 0 d.j (y6 d.v-2)),yu (T4 l),
       .eq 128 (d:=((cK d.N d.F).drop (d.j+(y6 d.v-2))).headD .any) (d':=u32 d.p.w2) (by rw[lZ za,l.Dv]),.eq 129 (bz (jC m)),
       .eq 130 (bz (x:=bJ .u64 (((di (cn .u64) (zNq (d.p.r b*4294967296))|||di (cn .u64) (zNq d.p.w2)).toNat:aw):cA)) (y:=zNq (d.p.r b*4294967296+d.p.w2))
          (by rw[Ak r f,Io m])),
       .eb 131 (af_ hmul),.eq 135 (bz (Ei c za)),.eq 138 (bz (wrap_add (x:=d.p.r b) (y:=d.p.top) za))]
  · exact af.r a [.eb 113 (zi g),.eb 116 (rY q),.eq 135 (bz (Ei c za)),.eq 138 (bz (wrap_add (x:=d.p.r b) (y:=d.p.top) za))]
def acm{d:Gk}(f:d.ok)(e:¬d.p.more b):
    xo G (ae f171 1) (vN d b) (y5 2) (vN d b):=by
  have p:=dF;have q:=f.hj;have m:=f.hv;have r:=f.hN;have l:y6 d.v-2<y6 d.v+1:=za
  obtain t|t:=apy (d.p.r b) 4294967296
  · have g:d.p.g b<4294967296:=by
      obtain h|h:=apy (d.p.g b) 4294967296
      exact h;exact(e ⟨t,y1 h⟩).elim
    have hmul:d.p.g b*d.p.next<=d.p.r b*4294967296+d.p.w2:=by
      rcases apy (d.p.r b*4294967296+d.p.w2) (d.p.g b*d.p.next)with h|h
      exact(e ⟨t,y2 h⟩).elim;exact h
    have j:=f.hp.Dv;have n:=zd g f.hp.Qa;have o:d.p.r b*4294967296<18446744073709551616:=za
    have c:d.p.w2<18446744073709551616:=za
    exact af.r a [.eb 113 (zi t),.eb 116 (nh g),.eq 120 (bz (wrap_mul (x:=d.p.g b) (y:=d.p.next) za)),.eq 122 (bz (K2 (x:=d.p.r b) t)),
       .eq 126 (bL (tq (b:=y6 d.v) (c:=2) za m)),yu (dk l),.eq 127 (rz 0 d.j (y6 d.v-2)),yu (T4 f),
       .eq 128 (d:=((cK d.N d.F).drop (d.j+(y6 d.v-2))).headD .any) (d':=u32 d.p.w2) (by rw[lZ za,f.Dv]),.eq 129 (bz (jC j)),
       .eq 130 (bz (x:=bJ .u64 (((di (cn .u64) (zNq (d.p.r b*4294967296))|||di (cn .u64) (zNq d.p.w2)).toNat:aw):cA)) (y:=zNq (d.p.r b*4294967296+d.p.w2))
          (by rw[Ak o c,Io j])),
       .eb 131 (acn hmul)]
  exact af.r a [.eb 113 (av t)]
def ack(d:x.ok){T:aw}(g:∀t<T,x.p.more t)(f:¬x.p.more T):
  aI zZq G 158 0 (.loop (ae f171 1))
   (lay 158 [(8,nat x.n),(9,ak x.v),(10,.aY 0 0 x.N x.N),(11,.aY 1 0 x.Nq x.Nq),(12,u64 x.p.top),(13,u64 x.p.next),(14,nat x.j),(15,.aY 0 x.j (y6 x.v+1) x.cap),(17,u64 (x.p.head/x.p.top)),(18,u64 (x.p.head%x.p.top))]
    [(0,cK x.N x.F),(1,x.qs)]) (y5 2) (vN x T):=by
 have h:=aI.count (vN x) T (λk=>aO _ _ _) zb (λt c=>XI a d (g t c)) (acm a d f)
 have e:vN x 0=lay 158 [(8,nat x.n),(9,ak x.v),(10,.aY 0 0 x.N x.N),(11,.aY 1 0 x.Nq x.Nq),(12,u64 x.p.top),(13,u64 x.p.next),(14,nat x.j),(15,.aY 0 x.j (y6 x.v+1) x.cap),(17,u64 (x.p.head/x.p.top)),(18,u64 (x.p.head%x.p.top))]
    [(0,cK x.N x.F),(1,x.qs)]:=by
  have j:x.p.g 0=x.p.head/x.p.top:=by unfold dh.g;exact si _
  have i:x.p.r 0=x.p.head%x.p.top:=by unfold dh.r;rw[aqH,ass]
  unfold vN;rw[j,i]
 rw[e]at h;exact h
def ar.N(d:ar):aw:=d.la+1
def ar.Nq(d:ar):aw:=d.la+1-d.lb
def ar.v(d:ar):ai aw:=fw d.lb d.V
def ar.uF(d:ar)(c j:aw):aw:=d.R c/BP j%4294967296
def ar.qF(d:ar)(c j:aw):aw:=if c<=j then d.U/d.V/BP j%4294967296 else 0
def rE(d:ar)(c:aw):St:=
 lay 158 [(8,nat d.n),(9,ak d.v),(10,.aY 0 0 d.N d.N),(11,.aY 1 0 d.Nq d.Nq),(12,u64 (d.V/BP (d.lb-1))),(13,u64 (d.V/BP (d.lb-2)%4294967296)),(14,int (L3 c))]
  [(0,cK d.N (d.uF c)),(1,cK d.Nq (d.qF c))]
def ar.A8(d:ar):y6 d.v=d.lb:=dz _ _
def ar.KK(a:t.ok):val t.v=t.V:=CA a.hV
def ar.T5(d:ar):gg d.v:=jQ _ _
def ar.gue(d:ar)(i:aw):Gk:=⟨d.jN i,d.N,d.Nq,d.n,i,d.N-i,d.v,d.uF (i+1),cK d.Nq (d.qF (i+1))⟩
def ar.aj2{d:ar}(a:d.ok){i:aw}(b:i<d.Nq)(c:d.N<2^60):(d.gue i).ok where
 hp:=ar.wS a i
 hv:=by show 2<=y6 d.v;rw[ar.A8];exact a.Oq
 hj:=by show i+(y6 d.v+1)<=d.la+1;have e:i<d.la+1-d.lb:=b;rw[ar.A8];omega
 hN:=c
 Dv:=by show d.R (i+1)/BP (i+(y6 d.v-2))%4294967296=d.W i/BP (d.lb-2)%4294967296;rw[ar.Od,ar.A8]
 hh:=by show d.W i/BP (d.lb-1)<18446744073709551616;have e:d.W i/BP d.lb%4294967296<4294967296:=apP _ za;have f:d.W i/BP (d.lb-1)%4294967296<4294967296:=apP _ za;rw[ar.head_eq a];omega
def ar.rem(d:ar)(i g:aw):Bs:=⟨d.N,d.uF (i+1),i,y6 d.v+1,d.N-i,cK d.Nq (d.qF (i+1)),d.v,g,d.W i⟩
def ar.acv(a:t.ok)(b:g<4294967296):g*t.V<BP (t.lb+1):=by have e:g*t.V<=4294967295*t.V:=apB _ za;have c:=a.hV;rw[c_];omega
def ar.aac(a:t.ok)(c:b<t.Nq)(e:t.N<2^60)(d:g<4294967296):(t.rem b g).ok:=by refine⟨ar.T5 t,d,?_,e,λr f=>?_,?_,?_⟩;show b+(y6 t.v+1)<=t.la+1;have h:b<t.la+1-t.lb:=c;rw[ar.A8];omega;show t.R (b+1)/BP (b+r)%4294967296=t.W b/BP r%4294967296;rw[ar.Od];show g*val t.v<=BP (y6 t.v+1);rw[ar.KK a,ar.A8];exact apU (ar.acv a d);show t.W b<BP (y6 t.v+1);rw[ar.A8];exact ar.adX a b
def ar.H7{d:ar}(a:d.ok){i g:aw}(c:i<d.Nq)(e:d.N<2^60)(b:g<4294967296):
  (zNq (fM (d.W i) (g*val d.v) (y6 d.v+1))==1)=decide (d.W i<g*d.V):=by
 have:=Lw.H7 (ar.aac a c e b) (by show g*val d.v<BP (y6 d.v+1);rw[ar.KK a,ar.A8];exact ar.acv a b);have f:(zNq (fM (d.W i) (g*val d.v) (y6 d.v+1))==1)=decide (d.W i<g*val d.v):=this;rw[f,ar.KK a]
def ar.cells(c:t.ok)(i Z:aw)(F:aw->aw)(f:∀j,F j=t.uF (i+1) j\/(i<=j/\j<i+(t.lb+1)))(e:∀r<t.lb+1,Z/BP r%4294967296=t.W i%t.V/BP r%4294967296):
  cK t.N (qb F i Z (t.lb+1))=cK t.N (t.uF i):=by
 refine aV λj _=>?_
 unfold qb;by_cases a:i<=j/\j<i+(t.lb+1);rw[aph a,e _ za];show _=t.R i/BP j%4294967296
 conv=>rhs;rw[show j=i+(j-i) by omega,ar.am9]
 rw[ape a];obtain h|h:=f j
 rw[h];show t.R (i+1)/BP j%4294967296=t.R i/BP j%4294967296;obtain b|b:=apy j i
 exact(ar.am_ t b).symm;obtain⟨l,g⟩:=ar.akO c (a:=i) (k:=j) za;rw[l,g];exact api h a
def ar.aao(d:b<t.Nq)(a:c%4294967296=t.W b/t.V%4294967296):aE (cK t.Nq (t.qF (b+1))) b [u32 (c%4294967296)]=cK t.Nq (t.qF b):=by rw[a,<-ar.digit];exact ahP d (λj=>t.U/t.V/BP j%4294967296)
def UD(b i k N:aw):D.aY b (0+(zNq i).toNat*1) ((zNq (i+k+1)).toNat-(zNq i).toNat) (N-(zNq i).toNat)=.aY b i (k+1) (N-i):=by simp only[zKq,mm,qg,qq];rw[show i+k+1-i=k+1 by omega]
def ar.round(v:aa G){d:ar}(a:d.ok){i:aw}(f:i<d.Nq)(D:d.N<2^60):
    af zZq G 0 (ae f171 0) (rE d (i+1)) .normal (rE d i):=by
  have U:=dF;have Q:i+d.v.length+1<=d.N:=by
    have W:i<d.la+1-d.lb:=f;show i+d.v.length+1<=d.la+1;rw[ar.A8];omega
  have X:=a.Oq;have g:=ar.A8 d;obtain⟨T,F,l⟩:=dh.stops (ar.wS a i);obtain⟨m,-,-⟩:=dh.end (ar.wS a i) F l;obtain⟨I,J⟩:=dh.digit (ar.wS a i) F l;have A:=ack v (ar.aj2 a f D) F l;have w:=aad v (ar.aac a f D m);have z:=ar.H7 a f D m;have b:d.W i/BP d.lb%4294967296<4294967296:=apP _ za
  have L:d.W i/BP (d.lb-1)%4294967296<4294967296:=apP _ za
  have u:bJ .u64 (((di (cn .u64) (zNq (d.W i/BP d.lb%4294967296*4294967296))|||di (cn .u64) (zNq (d.W i/BP (d.lb-1)%4294967296))).toNat:aw):cA)=zNq (d.W i/BP (d.lb-1)):=by
    rw[Ak za za,Io L,<-ar.head_eq a]
  have B:d.W i/BP (d.lb-1)<18446744073709551616:=by rw[ar.head_eq a];omega
  have C:0<d.V/BP (d.lb-1):=by
    have:=(ar.wS a i).qf;have:2147483648<=d.V/BP (d.lb-1):=this;omega
  have O:((cK d.N (d.uF (i+1))).drop (i+d.v.length)).headD .any=u32 (d.W i/BP d.lb%4294967296):=by
    rw[lZ za]
    show u32 (d.R (i+1)/BP (i+d.v.length)%4294967296)=_;rw[ar.Od,g]
  have M:((cK d.N (d.uF (i+1))).drop (i+(d.v.length-1))).headD .any=u32 (d.W i/BP (d.lb-1)%4294967296):=by
    rw[lZ za]
    show u32 (d.R (i+1)/BP (i+(d.v.length-1))%4294967296)=_;rw[ar.Od,g]
  have R:∀r<d.lb+1,(d.W i+BP (d.v.length+1)-(d.jN i).g T*val d.v)=(d.W i+BP (d.lb+1)-(d.jN i).g T*d.V):=λr _=>by rw[ar.KK a,g]
  by_cases E:d.W i<(d.jN i).g T*d.V
  · obtain⟨c,K⟩:=I E
    have q:d.W i/d.V=(d.jN i).g T-1:=c;have P:=Yv v (I:=⟨d.N,qb (d.uF (i+1)) i (d.rem i ((d.jN i).g T)).Z (d.v.length+1),i,d.v.length+1,d.N-i,cK d.Nq (d.qF (i+1)),d.v,(d.rem i ((d.jN i).g T)).Z⟩)
      ⟨ar.T5 d,by show i+(d.v.length+1)<=d.N;omega,D,λr t=>by
        show qb _ i _ (d.v.length+1) (i+r)=_;have V:r<d.v.length+1:=t;unfold qb;rw[aph za,show i+r-i=r by omega]⟩
    have e:rE d i=lay 158 [(8,nat d.n),(9,ak d.v),(10,.aY 0 0 d.N d.N),(11,.aY 1 0 d.Nq d.Nq),(12,u64 (d.V/BP (d.lb-1))),(13,u64 (d.V/BP (d.lb-2)%4294967296)),(14,int (L3 i))]
        [(0,cK d.N (qb (qb (d.uF (i+1)) i (d.rem i ((d.jN i).g T)).Z (d.v.length+1)) i ((d.rem i ((d.jN i).g T)).Z+val d.v) (d.v.length+1))),
         (1,aE (cK d.Nq (d.qF (i+1))) i [u32 (((d.jN i).g T-1)%4294967296)])]:=by
      rw[ar.aao f (by rw[q]),g,ar.cells a i _ _ (λj=>?_) (λr t=>?_)]
      · rfl
      · by_cases h:i<=j/\j<i+(d.lb+1)
        · exact .inr h
        · left;unfold qb;rw[ape h]
      · show(d.W i+BP (d.v.length+1)-(d.jN i).g T*val d.v+val d.v)/BP r%4294967296=_
        rw[ar.KK a,g];have hle:=ar.acv a m;have H:d.W i%d.V=d.W i-((d.jN i).g T-1)*d.V:=by
          have:=aqE (d.W i) d.V;rw[q,apC]at this;omega
        have Y:((d.jN i).g T-1)*d.V<=d.W i:=by rw[<-q];exact Nat.div_mul_le_self _ _
        have S:(d.jN i).g T*d.V=((d.jN i).g T-1)*d.V+d.V:=by
          conv=>lhs;rw[show(d.jN i).g T=((d.jN i).g T-1)+1 by omega]
          rw[aqN,aqw]
        have o:d.W i+BP (d.lb+1)-(d.jN i).g T*d.V+d.V=(d.W i%d.V)+BP (d.lb+1):=za
        rw[o,NO t]
    rw[e];clear e;exact af.r v [.eb 80 (x:=decide (zNq i>=0)) (y:=bj) zb,.eq 88 (bL (pS (a:=i) (k:=d.v.length) za)),.eq 89 (bL (b7 (a:=i+d.v.length) za)),
       .prop (p:=0<=zNq i/\zNq i<=zNq (i+d.v.length+1)/\zNq (i+d.v.length+1)<=(d.N:cA)/\zNq i<(d.N:cA)) (by simp only[zKq];omega),.eq 90 (UD 0 i d.v.length d.N),
       .prop (dk (a:=d.v.length) (N:=d.v.length+1) za),.eq 94 (rz 0 i d.v.length),.prop (p:=0<1/\i+d.v.length+1<=(cK d.N (d.uF (i+1))).length) (by rw[dw];omega),.eq 95 O,.eq 96 (bz (jC b)),.eq 97 (bz (K2 b)),
       .eq 101 (bL (tq (b:=d.v.length) (c:=1) za za)),.prop (dk (a:=d.v.length-1) (N:=d.v.length+1) za),.eq 102 (rz 0 i (d.v.length-1)),.prop (p:=0<1/\i+(d.v.length-1)+1<=(cK d.N (d.uF (i+1))).length) (by rw[dw];omega),
       .eq 103 M,.eq 104 (bz (jC L)),.eq 105 (bz u),.prop (wm C),.eq 108 (bz (aan (a:=d.W i/BP (d.lb-1)) (e:=d.V/BP (d.lb-1)) B)),.prop (wm C),.eq 111 (bz (aaf (d.W i/BP (d.lb-1)) (d.V/BP (d.lb-1)))),
       .code A,.inl [] func235,.code w,.eb 45 (x:=zNq (fM (d.W i) ((d.jN i).g T*val d.v) (d.v.length+1))==1) (y:=bj) (by rw[z];simpa using E),
       .eq 144 (bz (Ei K za)),.inl [] func236,.code P,
       .eq 151 (gR (iL ((d.jN i).g T-1))),.prop (dk f),.eq 152 (jV 1 i),.prop (p:=i+1<=(cK d.Nq (d.qF (i+1))).length) (by rw[dw];omega),.eq 82 (bL (mu (a:=i) za))]
  · have c:d.W i/d.V=(d.jN i).g T:=J E
    have e:rE d i=lay 158 [(8,nat d.n),(9,ak d.v),(10,.aY 0 0 d.N d.N),(11,.aY 1 0 d.Nq d.Nq),(12,u64 (d.V/BP (d.lb-1))),(13,u64 (d.V/BP (d.lb-2)%4294967296)),(14,int (L3 i))]
        [(0,cK d.N (qb (d.uF (i+1)) i (d.rem i ((d.jN i).g T)).Z (d.v.length+1))),(1,aE (cK d.Nq (d.qF (i+1))) i [u32 ((d.jN i).g T%4294967296)])]:=by
      rw[ar.aao f (by rw[c]),g,ar.cells a i _ _ (λj=>.inl rfl) (λr t=>?_)]
      · rfl
      · show(d.W i+BP (d.v.length+1)-(d.jN i).g T*val d.v)/BP r%4294967296=_
        rw[ar.KK a,g];have H:d.W i%d.V=d.W i-(d.jN i).g T*d.V:=by
          have:=aqE (d.W i) d.V;rw[c,apC]at this;omega
        have o:d.W i+BP (d.lb+1)-(d.jN i).g T*d.V=(d.W i%d.V)+BP (d.lb+1):=za
        rw[o,NO t]
    rw[e];clear e;exact af.r v [.eb 80 (x:=decide (zNq i>=0)) (y:=bj) zb,.eq 88 (bL (pS (a:=i) (k:=d.v.length) za)),.eq 89 (bL (b7 (a:=i+d.v.length) za)),
       .prop (p:=0<=zNq i/\zNq i<=zNq (i+d.v.length+1)/\zNq (i+d.v.length+1)<=(d.N:cA)/\zNq i<(d.N:cA)) (by simp only[zKq];omega),.eq 90 (UD 0 i d.v.length d.N),
       .prop (dk (a:=d.v.length) (N:=d.v.length+1) za),.eq 94 (rz 0 i d.v.length),.prop (p:=0<1/\i+d.v.length+1<=(cK d.N (d.uF (i+1))).length) (by rw[dw];omega),.eq 95 O,.eq 96 (bz (jC b)),.eq 97 (bz (K2 b)),
       .eq 101 (bL (tq (b:=d.v.length) (c:=1) za za)),.prop (dk (a:=d.v.length-1) (N:=d.v.length+1) za),.eq 102 (rz 0 i (d.v.length-1)),.prop (p:=0<1/\i+(d.v.length-1)+1<=(cK d.N (d.uF (i+1))).length) (by rw[dw];omega),
       .eq 103 M,.eq 104 (bz (jC L)),.eq 105 (bz u),.prop (wm C),.eq 108 (bz (aan (a:=d.W i/BP (d.lb-1)) (e:=d.V/BP (d.lb-1)) B)),.prop (wm C),.eq 111 (bz (aaf (d.W i/BP (d.lb-1)) (d.V/BP (d.lb-1)))),
       .code A,.inl [] func235,.code w,.eb 45 (x:=zNq (fM (d.W i) ((d.jN i).g T*val d.v) (d.v.length+1))==1) (y:=aj) (by rw[z];simpa using E),
       .eq 151 (gR (iL ((d.jN i).g T))),.prop (dk f),.eq 152 (jV 1 i),.prop (p:=i+1<=(cK d.Nq (d.qF (i+1))).length) (by rw[dw];omega),.eq 82 (bL (mu (a:=i) za))]
def Br.row{P:cp}{f:c7}{args:ai D}{n:aw}{cs:ai D}(h:Br P G f args n cs):Spec P G f args (.row n aj cs):=by
 intro w F b v t g;refine(h w F b v t g).mono λe w' x=>?_
 obtain⟨k,j,ty,rfl,q,z,p,y,o,m,l⟩:=x;refine⟨_,rfl,?_,m,l⟩;have d:=o.mono (w':=w') (X':=F) (λa u hu r=>⟨hu,λc=>r (.inl c)⟩);refine .row _ _ _ _ _ _ d.1 (apc _) q (λh=>by cases h) (λi s=>⟨_,rfl,λc=>?_,?_⟩) d.2;have:=g k c;omega;rw[Addr.jM,aqa,l0 w' _ _ j ty (0,0) p];simp at s⊢
def aic(l:gg d)(c:b<=31)(n:y6 d<=2^44):
  xf G 234 [ak d,nat b] (ak (fw (y6 d+1) (val d*2^b))):=by
 have:=Br.row (T6 a l c n);unfold ak;rw[dz];exact this
def Bz(b:aw)(h:y6 (words b)<=2^44):xf G 182 [ak (words b)] (ak (words b)):=by
 have d:=dS;have c:=dR;have:=mT a (aU b) za
 rwa [aK]at this
def Zu(b:aa G){x:aw}(h:x<4294967296):xf G 182 [ak [x]] (ak (words x)):=by
 have:=mT b (b:=[x]) (λy a=>by simp at a;omega) zb;have e:val [x]=x:=by simp[val]
 rwa [e]at this
def LV{N x:aw}(h:N<=b):(fw b x).take N=fw N x:=by unfold fw;rw[<-arL,List.take_range,arQ h]
def Xa(d:t.ok)(g:t.N<2^60):
  aI zZq G 158 0 (.loop (ae f171 0))
   (lay 158 [(8,nat t.n),(9,ak t.v),(10,.aY 0 0 t.N t.N),(11,.aY 1 0 t.Nq t.Nq),(12,u64 (t.V/BP (t.lb-1))),(13,u64 (t.V/BP (t.lb-2)%4294967296)),(14,int (L3 t.Nq))]
    [(0,(fw t.N t.U).map u32),(1,cd t.Nq (u32 0))]) (y5 0) (rE t 0):=by
 have l:xo G (ae f171 0) (rE t 0) (y5 0) (rE t 0):=af.r a [];have h:=aI.down (rE t) t.Nq (λk=>aO _ _ _) zb (λi f=>ar.round a d f g) l
 have e:rE t t.Nq=lay 158 [(8,nat t.n),(9,ak t.v),(10,.aY 0 0 t.N t.N),(11,.aY 1 0 t.Nq t.Nq),(12,u64 (t.V/BP (t.lb-1))),(13,u64 (t.V/BP (t.lb-2)%4294967296)),(14,int (L3 t.Nq))]
    [(0,(fw t.N t.U).map u32),(1,cd t.Nq (u32 0))]:=by
  have c:t.U<BP t.Nq*t.V:=(ar.start d).1;have f1:cK t.N (t.uF t.Nq)=cK t.N (λj=>t.U/BP j%4294967296):=aV λj _=>by
   unfold ar.uF ar.R;rw[apW c]
  have f2:cK t.Nq (t.qF t.Nq)=cK t.Nq (λ_=>0):=aV λj m=>by unfold ar.qF;rw[ape za]
  rw[oh,<-DY];unfold rE;rw[f1,f2]
 rw[e]at h;exact h
def QS(N:aw)(f:aw->aw)(s:aw)(h:∀j<N,f j=s/BP j%4294967296):D.row N aj (((cK N f).drop 0).take N)=ak (fw N s):=by rw[<-rH,aV h]
def XW(a:aa G)(f:c<b)(d:y6 (words c)<=2^44)(e:y6 (words b)<=2^44):
  xf G 171 [ak (words c),ak (words b)] (.aP [ak [],ak (words c)]):=
 Spec.r a func171 [] [z3 (nk a c b d e),.eb 22 (x:=decide (j9 c b<0)) (y:=bj) (by unfold j9;rw[aph f];rfl),z3 (Bz a c d)]
def adl(h:b<=c):decide (j9 c b<0)=aj:=by unfold j9;rw[ape za];split<;>rfl
def Tp(a:aa G)(l:b<=c)(f:0<b)(m:y6 (words b)=1)(h:y6 (words c)<=2^44):
    xf G 171 [ak (words c),ak (words b)] (.aP [ak (words (c/b)),ak (words (c%b))]):=by
  have n:=dS;have j:b<4294967296:=by
    have:=(aS b 1).1 za
    rwa [c_,iJ]at this
  have k:(words b).getD 0 0=b:=by rw[mC,iJ,aqP,apW j]
  have g:=RL a (aU c) f j h;rw[aK]at g;have hm:c%b<b:=apP _ f;have e:0<y6 (words b):=za
  exact Spec.r a func171 [] [z3 (nk a c b h za),.eb 22 (adl l),.eb 27 (x:=zNq (words b).length==1) (y:=bj) (by rw[m];rfl),
     yu (cU (a:=0) e),yu (a7 (a:=0) e),.eq 32 (d:=(((words b).map u32).drop ((zNq 0).toNat*1)).headD .any) (d':=u32 b) (by rw[aT e,k]),z3 g,z3 (Zu (x:=c%b) a za)]
def QB(f:aa G)(F:b<=c)(Q:2<=y6 (words b))(J:y6 (words c)<=2^44):
    xf G 171 [ak (words c),ak (words b)] (.aP [ak (words (c/b)),ak (words (c%b))]):=by
  have AA:=dS;have S:=dR;have Z:=dR;have Y:=dF;have e:=ar.normal Q F;have hlen:y6 (words b)<=y6 (words c):=(aS b _).2 (aqh F ((aS c _).1 (apc _)));generalize H:(words b).getD (y6 (words b)-1) 0=x at e;have v:x<4294967296:=by rw[<-H];exact(aU b).getD _
  generalize a:(⟨c,b,32-bl x,y6 (words c),y6 (words b)⟩:ar)=d at e;have X:d.n=32-bl x:=by rw[<-a]
  have u:d.N=y6 (words c)+1:=by rw[<-a];rfl
  have o:d.lb=y6 (words b):=by rw[<-a]
  have W:d.U=c*2^d.n:=by rw[<-a];rfl
  have V:d.V=b*2^d.n:=by rw[<-a];rfl
  have B:d.Nq=y6 (words c)+1-y6 (words b):=by rw[<-a];rfl
  have O:d.a=c:=by rw[<-a]
  have M:d.b=b:=by rw[<-a]
  have E:y6 (words b)-1<y6 (words b):=za
  have r:=aic f (aU b) e.hn za
  have s:=T6 f (aU c) e.hn J;rw[aK,<-V,<-o]at r;rw[aK,<-W,<-u]at s;have g:=ar.A8 d;have C:=Xa f e (by rw[u];omega)
  have I:=mT f (b:=fw d.Nq (d.U/d.V)) (jQ _ _) (by rw[dz,B];omega)
  have R:d.U/d.V<BP d.Nq:=by
    have U:=(ar.start e).1;rw[ap1 (ar.ahW e)];exact U
  have z:words (d.U/d.V)=words (c/b):=by rw[ar.quot,O,M]
  rw[jf R,z]at I;have A:d.R 0<BP d.N:=aqh (Nat.mod_le _ _) (ar.start e).2;have t:=XT f (b:=fw d.N (d.R 0)) (jQ _ _) e.hn (by rw[dz,u];omega)
  rw[CA A,ar.akM,O,M]at t;have m:y6 d.v-1<y6 d.v:=by have:=e.Oq;omega
  have h:y6 d.v-2<y6 d.v:=by have:=e.Oq;omega
  have L:y7 d.v (y6 d.v-1) 0=d.V/BP (d.lb-1):=by
    have:=(ar.wS e 0).ab1;have T:d.V/BP (d.lb-1)<4294967296:=this;rw[g];show(fw d.lb d.V).getD (d.lb-1) 0=_;rw[Fe (by have:=e.Oq;omega),apW T]
  have K:y7 d.v (y6 d.v-2) 0=d.V/BP (d.lb-2)%4294967296:=by
    rw[g];show(fw d.lb d.V).getD (d.lb-2) 0=_;rw[Fe (by have:=e.Oq;omega)]
  have q:=(ar.T5 d).getD (y6 d.v-1);have P:=(ar.T5 d).getD (y6 d.v-2);rw[L]at q;rw[K]at P;have w:D.row ((zNq (words b).length).toNat-(0:cA).toNat) (aj&&aj) ((((fw (d.lb+1) d.V).map u32).drop ((0:cA).toNat*1)).take (((zNq (words b).length).toNat-(0:cA).toNat)*1))=ak d.v:=by
    simp only[zKq,mm,Int.toNat_zero,qg,si,sv,im];rw[<-arL,<-o,LV za]
    show _=D.row (y6 d.v) aj (d.v.map u32);rw[g];rfl
  exact Spec.r f func171 [] (args:=[ak (words c),ak (words b)])
    [z3 (nk f c b J za),.eb 22 (adl F),.eb 27 (x:=zNq (words b).length==1) (y:=aj) (by rw[c4];simp only[zKq];omega),
     .eq 43 (bL (tq (b:=y6 (words b)) (c:=1) za za)),yu (cU E),yu (a7 E),.eq 45 (d:=(((words b).map u32).drop ((zNq (y6 (words b)-1)).toNat*1)).headD .any) (d':=u32 x) (by rw[aT E,H]),
     z3 (Xm f v),.eq 46 (d:=nat (32-bl x)) (d':=nat d.n) (by rw[X]),z3 r,yu (p:=(0:cA)<=0/\0<=zNq (words b).length/\zNq (words b).length<=(y6 (fw (d.lb+1) d.V):cA)) (by rw[dz,o];simp only[zKq];omega),
     .eq 52 w,.VD s,
     .eq 60 (d:=yT (.int .i64 (bJ .i64 (zNq d.N-zNq (y6 d.v))))) (d':=nat d.Nq) (by rw[tq (by rw[u];omega) (by rw[g,u,o];omega),g];rfl),yu (l8 (N:=d.Nq) (by rw[B];omega)),
     .eq 65 (bL (tq (b:=y6 d.v) (c:=1) (by rw[g,o];omega) (by have:=e.Oq;omega))),yu (cU m),yu (a7 m),.eq 67 (d:=((d.v.map u32).drop ((zNq (y6 d.v-1)).toNat*1)).headD .any) (d':=u32 (d.V/BP (d.lb-1))) (by rw[aT m,L]),
     .eq 68 (bz (jC q)),.eq 72 (bL (tq (b:=y6 d.v) (c:=2) (by rw[g,o];omega) (by have:=e.Oq;omega))),yu (cU h),yu (a7 h),
     .eq 74 (d:=((d.v.map u32).drop ((zNq (y6 d.v-2)).toNat*1)).headD .any) (d':=u32 (d.V/BP (d.lb-2)%4294967296)) (by rw[aT h,K]),.eq 75 (bz (jC P)),
     .eq 78 (bL (mu (a:=d.Nq) (by rw[B];omega))),.code C,.freeze 0,.freeze 1,
     .eq 153 (QS d.Nq (d.qF 0) (d.U/d.V) (λj _=>by unfold ar.qF;rw[aph (apJ _)])),z3 I,.eq 155 (QS d.N (d.uF 0) (d.R 0) (λj _=>rfl)),z3 t]
def QA(e:0<b)(d:y6 (words c)<=2^44)(f:y6 (words b)<=2^44):
  xf G 171 [ak (words c),ak (words b)] (.aP [ak (words (c/b)),ak (words (c%b))]):=by
 obtain h|h:=apy c b
 rw[ap3 h,apW h,qA];exact XW a h d f;have i:=dY (a:=b) za;by_cases g:y6 (words b)=1;exact Tp a h e g d;exact QB a h za d
def wv(s:b5)(n:aw):D:=y4 [bool s,ak (words n)]
def iH(s:b5)(n:aw):cA:=if s then -(n:cA)else n
def W(i:cA):D:=wv (decide (i<0)) i.natAbs
def pA(h:f=bj->0<b):W (iH f b)=wv f b:=by
 cases f with
 |false=>
  have e:iH aj b=(b:cA):=rfl;have a:decide ((b:cA)<0)=aj:=zb
  rw[e];unfold W;rw[a];rfl
 |true=>
  have n:=h rfl;have e:iH bj b= -(b:cA):=rfl;have a:decide (-(b:cA)<0)=bj:=zT
  rw[e];unfold W;rw[a,arw];rfl
def nE(i:cA):∃s n,iH s n=i/\(s=bj->0<n)/\n=i.natAbs:=by by_cases h:i<0;exact⟨bj,i.natAbs,by unfold iH;rw[aph rfl];omega,λ_=>by omega,rfl⟩;exact⟨aj,i.natAbs,by unfold iH;rw[ape zb];omega,λh=>(by cases h),rfl⟩
def Sz(n:aw):Prop:=y6 (words n)<=2^43
def Sz.aW(h:Sz b):y6 (words b)<=2^44:=apm h zv
def abO(h:y6 (words b)<=2^44):y6 (words b)<2^60:=aqh h zv
def mB(h:0<b):(zNq (words b).length==0)=aj:=by have:=dY (a:=b) za;rw[c4];simp only[zKq];omega
def Hv(hs:f=bj->0<b)(c:y6 (words b)<=2^44):xf G 107 [wv f b] (bool bj):=by
  obtain rfl|h:=apv b
  · cases f with
    |false=>exact Spec.r a func107 [1] []
    |true=>exact api (hs rfl) za
  · have d:=dY (a:=b) za
    have n:y6 (words b)-1<y6 (words b):=za
    have e:=oI (a:=b) za
    exact Spec.r a func107 [1] [.eb 6 (mB h),.eq 15 (bL (tq (b:=y6 (words b)) (c:=1) (abO c) za)),yu (cU n),yu (a7 n),.eq 17 (aT n),
       .eb 18 (x:=zNq ((words b).getD (y6 (words b)-1) 0) !=0) (y:=bj) (by simp only[kE,zKq];omega)]
def fG(hs:f=bj->0<b)(n:y6 (words b)<=2^44):xf G 124 [wv f b] (ak (words b)):=
 Spec.r a func124 [1] [z3 (Hv a hs n)]
def fR(hs:f=bj->0<b)(n:y6 (words b)<=2^44):xf G 125 [wv f b] (bool f):=
 Spec.r a func125 [1] [z3 (Hv a hs n)]
def o_(n:aw):decide (zNq (words n).length>0)=decide (0<n):=by
 obtain rfl|h:=apv n
 rfl;have:=dY (a:=n) za;rw[apE h,apE];simp only[zKq];omega
def lz(s:b5)(n:y6 (words b)<=2^44):xf G 123 [bool s,ak (words b)] (wv (s&&decide (0<b)) b):=by
 cases s with
 |false=>exact Spec.r a func123 [] [z3 (Bz a b n)]
 |true=>exact Spec.r a func123 [] [z3 (Bz a b n),.eb 11 (o_ b)]
def KG(s:b5)(c:gg d)(l:y6 d<=2^44):xf G 123 [bool s,ak d] (wv (s&&decide (0<val d)) (val d)):=by
 have f:=dS;have e:=dR;have b:=mT a c za;cases s with
 |false=>exact Spec.r a func123 [] [z3 b]
 |true=>exact Spec.r a func123 [] [z3 b,.eb 11 (o_ (val d))]
def Ae(hs:f=bj->0<b)(n:y6 (words b)<=2^44):xf G 109 [wv f b] (int (if b=0 then 0 else if f then -1 else 1)):=by
 obtain rfl|h:=apv b
 exact Spec.r a func109 [1] [z3 (fG a hs n)];rw[ape za];cases f<;>exact Spec.r a func109 [1] [z3 (fG a hs n),.eb 7 (mB h)]
def JS(a:aa G){s:b5}{n:aw}(hs:s=bj->0<n)(b:(words n).length<=2^44):Spec zZq G 63 [wv s n] (wv (!s&&decide (0<n)) n):=by
 cases s with
 |false=>exact Spec.r a func63 [1] [.call (fR a hs b),.call (fG a hs b),.call (lz a bj b)]
 |true=>exact Spec.r a func63 [1] [.call (fR a hs b),.call (fG a hs b),.call (lz a aj b)]
def OH(d:y6 (words c)<=2^44)(e:y6 (words b)<=2^44):xf G 136 [ak (words c),ak (words b)] (ak (words (c*b))):=by
 have:=gm a (aU c) (aU b) d e
 rwa [aK,aK]at this
def Sc(d:y6 (words c)<=2^44)(e:y6 (words b)<=2^44):xf G 126 [ak (words c),ak (words b)] (ak (words (c+b))):=by
 have:=WK a (aU c) (aU b) d e
 rwa [aK,aK]at this
def IN(d:y6 (words c)<=2^44)(h:b<=c):xf G 128 [ak (words c),ak (words b)] (ak (words (c-b))):=by
 have:=Xj a (aU c) (aU b) (by rw[aK,aK];exact h) d
 rwa [aK,aK]at this
def G2:y6 (words (c*b))<=y6 (words c)+y6 (words b):=by
 rw[aS,lL];have e:=(aS c _).1 (apc _);have d:=(aS b _).1 (apc _);obtain rfl|a:=apv b
 rw[Nat.mul_zero];exact aqm (cO _) (cO _);exact apV (aq2 e a) (apT _ (apU d))
def cz(h:c<=b):y6 (words c)<=y6 (words b):=(aS c _).2 (aqh h ((aS b _).1 (apc _)))
def G3:y6 (words (c+b))<=max (words c).length (words b).length+1:=by rw[aS,c_];have d:=(aS c _).1 (arP (words c).length (words b).length);have a:=(aS b _).1 (arI (words c).length (words b).length);omega
def akU(hs:f=bj->0<b)(n:u=bj->0<c)(e:Sz b)(d:Sz c):
  xf G 68 [wv f b,wv u c] (wv (rf f u&&decide (0<b*c)) (b*c)):=by
 have h:=tP;have i:=dS;have g:y6 (words (b*c))<=2^44:=by have:=G2 (c:=b) (b:=c);unfold Sz at e d;omega
 have hw:=lz a (rf f u) g;cases f<;>cases u<;>
  exact Spec.r a func68 [2,3] [z3 (fR a hs e.aW),z3 (fR a n d.aW),z3 (fG a hs e.aW),z3 (fG a n d.aW),z3 (OH a e.aW d.aW),z3 hw]
def NS(h:b<=c):decide (j9 c b>=0)=bj:=by unfold j9;rw[ape za];split<;>rfl
def NR(h:c<b):decide (j9 c b>=0)=aj:=by unfold j9;rw[aph h];rfl
def aem(s:b5)(hs:s=bj->0<b)(f:s=bj->0<c)(d:Sz b)(e:Sz c):
  xf G 58 [wv s b,wv s c] (wv (s&&decide (0<b+c)) (b+c)):=by
 have h:=tP;have i:=dS;have g:y6 (words (b+c))<=2^44:=by have:=G3 (c:=b) (b:=c);unfold Sz at d e;omega
 have hw:=lz a s g;cases s<;>
  exact Spec.r a func58 [2,3] [z3 (fG a hs d.aW),z3 (fG a f e.aW),z3 (fR a hs d.aW),z3 (fR a f e.aW),z3 (fR a hs d.aW),z3 (Sc a d.aW e.aW),z3 hw]
def ag6(s:b5)(hs:s=bj->0<b)(d:(!s)=bj->0<c)(m:Sz b)(n:Sz c)(h:c<=b):
    xf G 58 [wv s b,wv (!s) c] (wv (s&&decide (0<b-c)) (b-c)):=by
  have e:y6 (words (b-c))<=2^44:=apm (cz (arh _ _)) m.aW;have hw:=lz a s e;cases s<;>
    exact Spec.r a func58 [2,3] [z3 (fG a hs m.aW),z3 (fG a d n.aW),z3 (fR a hs m.aW),z3 (fR a d n.aW),z3 (nk a b c m.aW n.aW),.eb 27 (NS h),
       z3 (fR a hs m.aW),z3 (IN a m.aW h),z3 hw]
def YR(s:b5)(hs:s=bj->0<b)(n:(!s)=bj->0<c)(d:Sz b)(m:Sz c)(h:b<c):
    xf G 58 [wv s b,wv (!s) c] (wv (!s&&decide (0<c-b)) (c-b)):=by
  have e:y6 (words (c-b))<=2^44:=apm (cz (arh _ _)) m.aW;have hw:=lz a (!s) e;cases s<;>
    exact Spec.r a func58 [2,3] [z3 (fG a hs d.aW),z3 (fG a n m.aW),z3 (fR a hs d.aW),z3 (fR a n m.aW),z3 (nk a b c d.aW m.aW),.eb 27 (NR h),
       z3 (fR a n m.aW),z3 (IN a m.aW (apU h)),z3 hw]
def uO(s:b5)(n:aw):W (iH s n)=wv (s&&decide (0<n)) n:=by
 obtain rfl|h:=apv n
 ·have:iH s 0=iH aj 0:=by cases s<;>rfl
  rw[this,pA zb];simp
 ·rw[apE h,ar6];exact pA λ_=>h
def oZ(i:cA):Prop:=Sz i.natAbs
def Ea(b:oZ i)(j:oZ h):xf G 58 [W i,W h] (W (i+h)):=by
 obtain⟨s,m,rfl,d,l⟩:=nE i;obtain⟨t,n,rfl,c,k⟩:=nE h;unfold oZ at b j;rw[<-l]at b;rw[<-k]at j;rw[pA d,pA c];by_cases g:t=s
 ·subst g
  have e:iH t m+iH t n=iH t (m+n):=by unfold iH;cases t<;>simp;omega
  rw[e,uO];exact aem a t d c b j
 ·have:t= !s:=by cases s<;>cases t<;>first|rfl|exact api rfl g
  subst this;obtain f|f:=apy m n
  ·have e:iH s m+iH (!s) n=iH (!s) (n-m):=by unfold iH;cases s<;>simp<;>omega
   rw[e,uO];exact YR a s d c b j f
  ·have e:iH s m+iH (!s) n=iH s (m-n):=by unfold iH;cases s<;>simp<;>omega
   rw[e,uO];exact ag6 a s d c b j f
def l6(b:oZ i)(j:oZ h):xf G 68 [W i,W h] (W (i*h)):=by
 obtain⟨s,m,rfl,d,g⟩:=nE i;obtain⟨t,n,rfl,c,f⟩:=nE h;unfold oZ at b j;rw[<-g]at b;rw[<-f]at j;rw[pA d,pA c];have e:iH s m*iH t n=iH (rf s t) (m*n):=by unfold iH;cases s<;>cases t<;>simp[Int.mul_neg,Int.neg_mul]
 rw[e,uO];exact akU a d c b j
def z6(d:oZ i):xf G 63 [W i] (W (-i)):=by
 obtain⟨s,m,rfl,b,c⟩:=nE i;unfold oZ at d;rw[<-c]at d;rw[pA b];have e: -iH s m=iH (!s) m:=by unfold iH;cases s<;>simp
 rw[e,uO];exact JS a b d.aW
def ph{i:cA}(b:oZ i):xf G 109 [W i] (int i.sign):=by
 obtain⟨s,m,rfl,d,c⟩:=nE i;unfold oZ at b;rw[<-c]at b;rw[pA d];have:=Ae a d b.aW;have e:(iH s m).sign=if m=0 then 0 else if s then -1 else 1:=by
  cases s with
  |false=>
   show((m:cA)).sign=if m=0 then 0 else if aj=bj then -1 else 1
   by_cases h:m=0;subst h;rfl;rw[ape h,ape zb];exact arz za
  |true=>
   have:=d rfl;show(-(m:cA)).sign=if m=0 then 0 else if bj=bj then -1 else 1
   rw[ape (show¬m=0 by omega),aph rfl];exact ari za
 rw[e];exact this
def A2(i j:cA):cA:=if i<j then -1 else if j<i then 1 else 0
def mJ(i:cA):(i<0/\i.sign= -1)\/(i=0/\i.sign=0)\/(0<i/\i.sign=1):=by
 obtain a|a|a:=Int.lt_trichotomy i 0
 exact y1 ⟨a,ari a⟩;subst a;exact y2 (y1 ⟨rfl,rfl⟩);exact y2 (y2 ⟨a,arz a⟩)
def Un(j:i.sign<h.sign):i<h:=by rcases mJ i with⟨a,b⟩|⟨a,b⟩|⟨a,b⟩<;>rcases mJ h with⟨c,d⟩|⟨c,d⟩|⟨c,d⟩<;>omega
def ak5{x:cA}(h: -2<=x)(a:x<=2):bJ .i64 (0-x)= -x:=by rw[qu za za];omega
def Tr(m n:aw): -2<=j9 m n/\j9 m n<=2:=by unfold j9;split;omega;split<;>omega
def D_{i j:cA}(d:oZ i)(o:oZ j):xf G 67 [W i,W j] (int (A2 i j)):=by
 have g:=ph a d;have f:=ph a o;by_cases h:i.sign=j.sign
 ·obtain⟨s,m,rfl,q,E⟩:=nE i
  obtain⟨t,n,rfl,r,D⟩:=nE j;unfold oZ at d o;rw[<-E]at d;rw[<-D]at o;rw[pA q]at g⊢;rw[pA r]at f⊢;have A:=fG a q d.aW;have z:=fG a r o.aW;have w:=nk a m n d.aW o.aW;have v:=fR a q d.aW;obtain⟨C,B⟩:=Tr m n;cases s with
  |false=>
   have u:t=aj:=by
    cases t with
    |false=>rfl
    |true=>
     exfalso;have H:(iH bj n).sign= -1:=ari (by have:=r rfl;show -(n:cA)<0;omega)
     have p:0<=(iH aj m).sign:=by show 0<=((m:cA)).sign;rcases mJ (m:cA)with⟨c,b⟩|⟨c,b⟩|⟨c,b⟩<;>omega
     omega
   subst u;have e:A2 (iH aj m) (iH aj n)=j9 m n:=by
    show(if(m:cA)<(n:cA)then(-1:cA)else if(n:cA)<m then 1 else 0)=_
    unfold j9;by_cases l:m<n
    ·rw[aph l,aph za]
    ·rw[ape l,ape za]
     by_cases k:n<m
     ·rw[aph k,aph za]
     ·rw[ape k,ape za]
   rw[e];exact Spec.r a func67 [2,3] [z3 g,z3 f,.eb 14 (x:=(iH aj m).sign !=(iH aj n).sign) (y:=aj) (by rw[h];simp),z3 A,z3 z,z3 w,z3 v]
  |true=>
   have u:t=bj:=by
    cases t with
    |true=>rfl
    |false=>
     exfalso;have H:(iH bj m).sign= -1:=ari (by have:=q rfl;show -(m:cA)<0;omega)
     have p:0<=(iH aj n).sign:=by show 0<=((n:cA)).sign;rcases mJ (n:cA)with⟨c,b⟩|⟨c,b⟩|⟨c,b⟩<;>omega
     omega
   subst u;have e:A2 (iH bj m) (iH bj n)= -j9 m n:=by
    show(if -(m:cA)< -(n:cA)then(-1:cA)else if -(n:cA)< -(m:cA)then 1 else 0)=_
    unfold j9;by_cases l:m<n
    ·rw[aph l,ape za,aph za];rfl
    ·rw[ape l]
     by_cases k:n<m
     ·rw[aph k,aph za]
     ·rw[ape k,ape za,ape za];rfl
   rw[e];exact Spec.r a func67 [2,3] [z3 g,z3 f,.eb 14 (x:=(iH bj m).sign !=(iH bj n).sign) (y:=aj) (by rw[h];simp),z3 A,z3 z,z3 w,z3 v,.eq 26 (bL (ak5 C B))]
 ·by_cases p:i.sign<j.sign
  ·have e:A2 i j= -1:=by unfold A2;rw[aph (Un p)]
   rw[e];exact Spec.r a func67 [2,3] [z3 g,z3 f,.eb 14 (x:=i.sign !=j.sign) (y:=bj) (by simpa using h),.eb 17 (x:=decide (i.sign<j.sign)) (y:=bj) (by simpa using p)]
  ·have F:=Un (i:=j) (h:=i) za
   have e:A2 i j=1:=by unfold A2;rw[ape za,aph F]
   rw[e];exact Spec.r a func67 [2,3] [z3 g,z3 f,.eb 14 (x:=i.sign !=j.sign) (y:=bj) (by simpa using h),.eb 17 (x:=decide (i.sign<j.sign)) (y:=aj) (by simpa using p)]
def Aa{x:aw}:val [x%4294967296,x/4294967296]=x:=by simp only[val];omega
def GJ{x:aw}(h:x<18446744073709551616):gg [x%4294967296,x/4294967296]:=by intro y a;simp only[b4,bI,or_false]at a;omega
def akS(a:aa G){x:aw}(f:0<x)(h:x<=9223372036854775808):xf G 57 [int (-(x:cA))] (W (-(x:cA))):=by
 have hw:=KG a bj (d:=[x%4294967296,x/4294967296]) (GJ za) zb
 rw[Aa]at hw;have e:=uO bj x;have b:iH bj x= -(x:cA):=rfl;rw[b]at e;rw[e];have d:bJ .u64 (-(x:cA))=zNq (18446744073709551616-x):=by rw[rk];simp only[zKq];omega
 have c:bJ .u64 (0-zNq (18446744073709551616-x))=zNq x:=by rw[rk];simp only[zKq];omega
 have lt:decide (-(x:cA)<0)=bj:=zT
 exact Spec.r a func57 [] [.eq 5 (bz d),.eb 7 lt,.eq 9 (bz c),.eb 11 lt,.eq 13 (gR (iL x)),.eq 15 (bz (sU x)),.eq 16 (gR (x:=bJ .u32 (zNq (x/4294967296))) (y:=zNq (x/4294967296)) (by rw[iL,apW za])),z3 hw]
def akR(a:aa G){x:aw}(h:x<9223372036854775808):xf G 57 [int (x:cA)] (W (x:cA)):=by
  have hw:=KG a aj (d:=[x%4294967296,x/4294967296]) (GJ za) zb;rw[Aa]at hw;have e:=uO aj x;have b:iH aj x=(x:cA):=rfl;rw[b]at e;rw[e];have lt:decide ((x:cA)<0)=aj:=zb
  exact Spec.r a func57 [] [.eq 5 (bz (x:=bJ .u64 (x:cA)) (y:=zNq x) (wrap64 za)),.eb 7 lt,.eb 11 lt,.eq 13 (gR (iL x)),.eq 15 (bz (sU x)),
     .eq 16 (gR (x:=bJ .u32 (zNq (x/4294967296))) (y:=zNq (x/4294967296)) (by rw[iL,apW za])),z3 hw]
def VR(h: -9223372036854775808<=i)(c:i<9223372036854775808):xf G 57 [int i] (W i):=by by_cases b:i<0;obtain⟨x,rfl⟩:∃x:aw,i= -(x:cA):=⟨i.natAbs,by omega⟩;exact akS a za za;obtain⟨x,rfl⟩:∃x:aw,i=(x:cA):=⟨i.natAbs,by omega⟩;exact akR a za
def x9(f:0<b)(e:y6 (words c)<=2^44)(d:y6 (words b)<=2^44):
  xf G 171 [ak (words c),ak (words b)] (.aP [ak (words (c/b)),ak (words (c%b))]):=QA a f e d
def aei(hs:f=bj->0<b)(e:u=bj->0<c)(s:0<c)(m:Sz b)(d:Sz c)(i:f=aj\/b%c=0):
    xf G 133 [wv f b,wv u c] (.aP [wv (rf f u&&decide (0<b/c)) (b/c),wv (aj&&decide (0<b%c)) (b%c),xc]):=by
  have j:y6 (words (b/c))<=2^44:=apm (cz (aqg _ _)) m.aW;have g:y6 (words (b%c))<=2^44:=apm (cz (Nat.mod_le _ _)) m.aW;have hw:=lz a (rf f u) j;have n:=lz a aj g;cases f with
  |false=>
    cases u<;>
      exact Spec.r a func133 [2,3] [z3 (fG a e d.aW),.eb 14 (mB s),z3 (fG a hs m.aW),z3 (x9 a s m.aW d.aW),z3 (fR a hs m.aW),
         z3 (fR a hs m.aW),z3 (fR a e d.aW),z3 hw,z3 n]
  |true=>
    have l:b%c=0:=by obtain h|h:=i;cases h;exact h
    have k:decide (zNq (words (b%c)).length>0)=aj:=by rw[o_,l];rfl
    cases u<;>
      exact Spec.r a func133 [2,3] [z3 (fG a e d.aW),.eb 14 (mB s),z3 (fG a hs m.aW),z3 (x9 a s m.aW d.aW),z3 (fR a hs m.aW),.eb 30 k,
         z3 (fR a hs m.aW),z3 (fR a e d.aW),z3 hw,z3 n]
def Gj(n:aw):W (n:cA)=wv (aj&&decide (0<n)) n:=uO aj n
def Fc(a i:aw):a/2^i=2*(a/2^(i+1))+a/2^i%2:=by rw[apK,<-apO];omega
def adK{x:aw}(d:0<b)(g:c<2):(2*x+c)/b=2*(x/b)+(if b<=2*(x%b)+c then 1 else 0)/\(2*x+c)%b=if b<=2*(x%b)+c then 2*(x%b)+c-b else 2*(x%b)+c:=by
 have j:=aqE x b;have i:=apP x d;have f:2*x+c=b*(2*(x/b))+(2*(x%b)+c):=by
  have:b*(2*(x/b))=2*(b*(x/b)):=by grind
  omega
 split
 ·rename_i h
  have e:2*x+c=b*(2*(x/b)+1)+(2*(x%b)+c-b):=by rw[aqn,aqx];omega
  constructor
  ·have a:(2*(x%b)+c-b)/b=0:=ap3 za
   rw[e,asu d,a]
  ·have a:(2*(x%b)+c-b)%b=2*(x%b)+c-b:=apW za
   rw[e,Nat.mul_add_mod,a]
 ·rename_i h
  constructor
  ·have a:(2*(x%b)+c)/b=0:=ap3 za
   rw[f,asu d,a]
  ·have a:(2*(x%b)+c)%b=2*(x%b)+c:=apW za
   rw[f,Nat.mul_add_mod,a]
def acu(h:c8 (2*c) b%2=1):c8 c b=c8 (2*c) b:=by
 have g:b%2=1:=by
  obtain e|e:=sn b
  ·have:2∣c8 (2*c) b:=Nat.dvd_gcd (Nat.dvd_mul_right _ _) (vy e)
   omega
  ·exact e
 have d:Nat.Coprime 2 b:=by
  unfold Nat.Coprime;have a:c8 2 b∣2:=asl _ _;have f:c8 2 b∣b:=asf _ _;have k:c8 2 b<=2:=Nat.le_of_dvd za a
  have j:c8 2 b≠2:=λe=>by rw[e]at f;omega
  have i:c8 2 b≠0:=λe=>by rw[e]at a;omega
  omega
 exact(Nat.Coprime.gcd_mul_left_cancel c d).symm
def gcd_both(a b:aw):c8 (2*a) (2*b)=2*c8 a b:=Nat.gcd_mul_left 2 a b
def Qo(h:b<=c):c8 (c-b) b=c8 c b:=Nat.gcd_sub_self_left h
def lY(k:cA):D:=yT (.iface 63 (.int .i64 k))
def ag7:ai D:=[bool aj,ak []]
def E0(p:aw×aw):St:=lay 26 [(4,y0 0 0),(5,ak (words p.1)),(6,ak (words p.2))] [(0,ag7)]
def XJ{p:aw×aw}(b:0<p.2)(d:y6 (words p.1)<=2^44)(c:y6 (words p.2)<=2^44):
  xo G (ae f108 0) (E0 p) y3 (E0 (p.2,p.1%p.2)):=
 af.r a [.eb 15 (x:=decide (zNq (words p.2).length>0)) (y:=bj) (by rw[o_];exact apE b),z3 (x9 a b d c)]
def acs(g:aw):xo G (ae f108 0) (E0 (g,0)) (y5 0) (E0 (g,0)):=
 af.r a []
def acr(j:y6 (words c)<=2^44)(i:y6 (words b)<=2^44):
  aI zZq G 26 0 (.loop (ae f108 0)) (lay 26 [(4,y0 0 0),(5,ak (words c)),(6,ak (words b))] [(0,ag7)]) (y5 0) (E0 (c8 c b,0)):=by
 refine aI.rounds (λp:aw×aw=>c8 p.1 p.2=c8 c b/\y6 (words p.1)<=2^44/\y6 (words p.2)<=2^44) E0 (λp=>p.2) (λp=>aO _ _ _) zb (λp g=>?_) (c,b) ⟨rfl,j,i⟩
 obtain⟨x,y⟩:=p;obtain⟨e,d,f⟩:=g;obtain h|h:=apv y
 ·right
  subst h;have:x=c8 c b:=by rw[<-e];exact(Nat.gcd_zero_right x).symm
  subst this;exact acs a _
 ·left
  refine⟨(y,x%y),⟨?_,f,?_⟩,apP _ h,XJ a h d f⟩
  ·show c8 y (x%y)=_
   rw[<-e,arW x y,Nat.gcd_rec y x,arW]
  ·exact apm (cz (Nat.mod_le _ _)) d
def vh(d:y6 (words c)<=g)(a:y6 (words b)<=g):y6 (words (c8 c b))<=g:=by
 obtain h|h:=apv c
 subst h;rw[asN];exact a;exact apm (cz (Nat.gcd_le_left b h)) d
def aef(b:oZ i)(j:oZ h):xf G 108 [W i,W h] (W ((gx i h:aw):cA)):=by
 obtain⟨s,m,rfl,f,c⟩:=nE i;obtain⟨t,n,rfl,d,g⟩:=nE h;unfold oZ at b j;rw[<-c]at b;rw[<-g]at j;rw[pA f,pA d,Gj];have e:gx (iH s m) (iH t n)=c8 m n:=by unfold gx;rw[<-c,<-g]
 rw[e];exact Spec.r a func108 [2,3] [z3 (fG a f b.aW),z3 (fG a d j.aW),.code (acr a b.aW j.aW),z3 (lz a aj (vh b.aW j.aW))]
def adI(h:0<b):bl b=32*(y6 (words b)-1)+bl ((words b).getD (y6 (words b)-1) 0):=by
 obtain⟨k,d⟩:∃k,y6 (words b)=k+1:=⟨y6 (words b)-1,by
  have:y6 (words b)≠0:=λe=>by
   have a:=ap8 e;have:=aK b;rw[a]at this;have g:val []=0:=rfl;omega
  omega⟩
 have a:b<BP (k+1):=(aS b _).1 za
 have c:BP k<=b:=by
  rcases apy b (BP k)with q|q
  ·have:=(aS b k).2 q;omega
  ·exact q
 rw[d,asJ,mC];have n:BP k=2^(32*k):=by rw[Nat.pow_mul];rfl
 have f:b/BP k%4294967296=b/BP k:=apW (Nat.div_lt_of_lt_mul (by rw[c_,apC]at a;exact a))
 rw[f];rw[n]at c⊢;rw[zR c];omega
def z_(i:aw):BP i=2^(32*i):=by rw[Nat.pow_mul];rfl
def sD(n:aw):words n=fw (words n).length n:=by
 refine arv (by rw[dz]) λi c d=>?_
 have a:=mC n i;have b:=Fe (N:=y6 (words n)) (a:=n) c;rw[apf,apj c]at a;rw[apf,apj d]at b;exact a.trans b.symm
def Ng(h:b<2^60):bJ .i64 ((zNq b).tdiv (zNq c))=zNq (b/c):=by have a:=dF;have e:(zNq b).tdiv (zNq c)=zNq (b/c):=rfl;have i:=aqg b c;generalize b/c=x at*;rw[e,qu (by simp only[zKq];omega) (by simp only[zKq];omega)]
def Nf(i c:aw):(zNq i).tmod (zNq c)=zNq (i%c):=rfl
def ae0(h:b<32):bJ .u32 (1*2^min (zNq b).toNat (cn .u32))=zNq (2^b):=by
 have e:min (zNq b).toNat (cn .u32)=b:=by
  show min b 32=b;omega
 rw[e,Int.one_mul,Ml];have k:2^b<2^32:=arG za h
 have a:(2:aw)^32=4294967296:=zv
 have:((2:cA)^b)=((2^b:aw):cA):=by rw[Int.natCast_pow];rfl
 rw[this];generalize 2^b=x at*;simp only[zKq];omega
def Full(l:ai aw):b5:=decide (l=words (val l))
def LH{l:ai aw}(c:gg l)(h:l≠[]):Full l= !(l.getD (l.length-1) 0==0):=by
 unfold Full;by_cases a:l.getD (l.length-1) 0=0
 ·have:¬l=words (val l):=λe=>by
   have b:val l≠0:=λd=>by rw[d]at e;exact h e
   have:=oI b;rw[<-e]at this;exact this a
  rw[apG this,a];rfl
 ·rw[apE (FH c (λ_=>a)).symm]
  have:(l.getD (l.length-1) 0==0)=aj:=by rw[c4];exact a
  rw[this];rfl
def Mc(c:gg d)(e:y6 d<=2^44):xf G 107 [y4 [bool aj,ak d]] (bool (Full d)):=by
  have f:=dS;by_cases h:d=[]
  · subst h
    exact Spec.r a func107 [1] []
  · have b:0<y6 d:=aqd.2 h
    rw[LH c h];have l:(zNq (y6 d)==0)=aj:=zT
    exact Spec.r a func107 [1] [.eb 6 l,.eq 15 (bL (lP (a:=y6 d) za b)),yu (cU (b:=d) (a:=y6 d-1) za),yu (a7 (b:=d) (a:=y6 d-1) za),.eq 17 (aT (b:=d) (a:=y6 d-1) za),
       .eb 18 (x:=(zNq (y7 d (y6 d-1) 0) !=0)) (y:= !(y7 d (y6 d-1) 0==0)) (by rw[aqf];simp)]
def akC(l:ai aw)(i:aw)(h:y6 l<=i):xf G 291 [ak l,nat i] (u64 0):=
 Spec.r a func291 [] [.eb 8 (x:=decide (zNq i<zNq (y6 l))) (y:=aj) zT]
def am1(l:ai aw)(b:gg l)(i:aw)(h:i<y6 l):xf G 291 [ak l,nat i] (u64 (y7 l i 0)):=
  Spec.r a func291 [] [.eb 8 (x:=decide (zNq i<zNq (y6 l))) (y:=bj) zT,yu (cU h),yu (a7 h),.eq 12 (aT h),
     .eq 13 (bz (x:=bJ .u64 (zNq (y7 l i 0))) (y:=zNq (y7 l i 0)) (wrap64 (by have:=b.getD i;omega)))]
def gU(l:ai aw)(b:gg l)(i:aw):xf G 291 [ak l,nat i] (u64 (y7 l i 0)):=by
 obtain h|h:=apy i (y6 l)
 exact am1 a l b i h;have:=akC a l i h
 rwa [show y7 l i 0=0 by simp[bP,jy h]]
def KJ:∀l:ai aw,val (l++[0])=val l
 |[]=>rfl
 |x::l=>by show x+4294967296*val (l++[0])=_;rw[KJ l];rfl
def Mo(h:d≠[])(a:y7 d (y6 d-1) 0=0):val d.dropLast=val d:=by
 have b:=List.dropLast_concat_getLast h;have m:d.getLast h=0:=by
  rw[List.getLast_eq_getElem];have c:y6 d-1<y6 d:=by have:=aqd.2 h;omega
  rw[apf,apj c]at a;exact a
 rw[m]at b
 conv=>rhs;rw[<-b]
 rw[KJ]
def NN(h:gg d):gg d.dropLast:=by rw[List.dropLast_eq_take];exact h.take _
def v9(m:ai aw):St:=lay 25 [(3,ak m)] []
def OU(m:y6 d<2^60)(h:d≠[])(b:y7 d (y6 d-1) 0=0):
    xo G (ae f225 0) (v9 d) y3 (v9 d.dropLast):=by
  have c:0<y6 d:=aqd.2 h;have e:D.row ((zNq (y6 d-1)).toNat-(0:cA).toNat) (aj&&aj) (((d.map u32).drop ((0:cA).toNat*1)).take (((zNq (y6 d-1)).toNat-(0:cA).toNat)*1))=ak d.dropLast:=by simp only[zKq,mm,Int.toNat_zero,qg,si,sv,im];rw[<-arL,<-List.dropLast_eq_take];unfold ak;rw[asv]
  exact af.r a [.eb 9 (x:=decide (zNq (y6 d)>0)) (y:=bj) zT,.eq 14 (bL (lP (a:=y6 d) za c)),yu (cU (b:=d) (a:=y6 d-1) za),yu (a7 (b:=d) (a:=y6 d-1) za),
     .eq 16 (aT (b:=d) (a:=y6 d-1) za),.eb 17 (x:=zNq (y7 d (y6 d-1) 0)==0) (y:=bj) (by rw[b];rfl),.eq 22 (bL (lP (a:=y6 d) za c)),
     yu (p:=(0:cA)<=0/\0<=zNq (y6 d-1)/\zNq (y6 d-1)<=(y6 d:cA)) (by simp only[zKq];omega),.eq 23 e]
def RS(f:y6 d<2^60)(e:gg d)(m:d≠[]->y7 d (y6 d-1) 0≠0):
    xo G (ae f225 0) (v9 d) (y5 0) (v9 (words (val d))):=by
  rw[FH e m];by_cases h:d=[]
  · subst h
    exact af.r a []
  · have b:0<y6 d:=aqd.2 h
    have c:(zNq (y7 d (y6 d-1) 0)==0)=aj:=by rw[c4];have:=m h;simp only[zKq];omega
    exact af.r a [.eb 9 (x:=decide (zNq (y6 d)>0)) (y:=bj) zT,.eq 14 (bL (lP (a:=y6 d) za b)),yu (cU (b:=d) (a:=y6 d-1) za),yu (a7 (b:=d) (a:=y6 d-1) za),
       .eq 16 (aT (b:=d) (a:=y6 d-1) za),.eb 17 c]
def RR(i:gg d)(j:y6 d<2^60):
  aI zZq G 25 0 (.loop (ae f225 0)) (lay 25 [(3,ak d)] []) (y5 0) (v9 (words (val d))):=by
 refine aI.rounds (λm:ai aw=>gg m/\val m=val d/\y6 m<2^60) v9 (λm=>y6 m) (λm=>aO _ _ _) zb (λm h=>?_) d ⟨i,rfl,j⟩;obtain⟨e,b,c⟩:=h;by_cases l:m≠[]/\y7 m (y6 m-1) 0=0;left;have k:0<y6 m:=aqd.2 l.1;exact⟨m.dropLast,⟨NN e,by rw[Mo l.1 l.2,b],by rw[asv];omega⟩,by rw[asv];omega,OU a c l.1 l.2⟩;right;rw[<-b];exact RS a c e (λg f=>l ⟨g,f⟩)
def jg(b:gg d)(c:y6 d<=2^45):xf G 225 [ak d] (ak (words (val d))):=by
  have e:=dR;exact Spec.r a func225 [6] [yu (p:=y6 ([]:ai D)=0*1/\y6 (d.map u32)=y6 d*1/\0+y6 d<=2^62/\(0+y6 d)*4<=2^47) zT,
     .eq 6 (d:=yI (0+y6 d) aj ([]++d.map u32)) (d':=ak d) (by simp[ak]),.code (RR a b za)]
def FP(hs:f=bj->0<b)(d:y6 (words b)<=2^44):xf G 231 [wv f b] (bool bj):=by
  have e:=dS;obtain h|h:=apv b
  · subst h
    cases f with
    |true=>have:=hs rfl;omega
    |false=>exact Spec.r a func231 [1] []
  · have n:=dY (a:=b) za
    have c:=oI (a:=b) za
    exact Spec.r a func231 [1] [.eb 6 (mB h),.eq 15 (bL (lP (a:=y6 (words b)) za n)),yu (cU (b:=words b) (a:=y6 (words b)-1) za),yu (a7 (b:=words b) (a:=y6 (words b)-1) za),
       .eq 17 (aT (b:=words b) (a:=y6 (words b)-1) za),.eb 18 (x:=(zNq ((words b).getD (y6 (words b)-1) 0) !=0)) (y:=bj) (by rw[kE];simp only[zKq];omega)]
def eU(hs:f=bj->0<b)(n:y6 (words b)<=2^44):xf G 168 [wv f b] (ak (words b)):=
 Spec.r a func168 [1] [z3 (FP a hs n)]
def dC(hs:f=bj->0<b)(n:y6 (words b)<=2^44):xf G 170 [wv f b] (bool f):=
 Spec.r a func170 [1] [z3 (FP a hs n)]
def Ev(s:b5)(l:gg d)(c:y6 d<=2^45):xf G 166 [bool s,ak d] (wv (s&&decide (0<val d)) (val d)):=by
 rcases apv (val d)with h|h
 have b:=jg a l c;rw[h]at b⊢;have e:(s&&decide (0<0))=aj:=zb
 rw[e];exact Spec.r a func166 [] [z3 b,.eb 9 (x:=(zNq (words 0).length==0)) (y:=bj) rfl];have e:(s&&decide (0<val d))=s:=by rw[apE h,ar6]
 rw[e];exact Spec.r a func166 [] [z3 (jg a l c),.eb 9 (mB h)]
def lI(s:b5)(n:y6 (words b)<=2^44):xf G 166 [bool s,ak (words b)] (wv (s&&decide (0<b)) b):=by
 have d:=dS;have c:=dR;have:=Ev a s (aU b) za
 rwa [aK]at this
def X0(N n:aw):fw (N+1) n=fw N n++[n/BP N%4294967296]:=by simp[fw,List.range_succ]
def rG(N n:aw):(fw N n).map u32++[u32 (n/BP N%4294967296)]=(fw (N+1) n).map u32:=by rw[X0];simp
variable {e:ai aw} {l:ai D} {p r:aw} {z:aw->aw}
def Ql(h:y6 l=b)(n:b<2^45){x:D}:0<1/\y6 l=b*1/\[x].length=1*1/\b+1<=2^62/\(b+1)*4<=2^47:=by have d:=dR;have a:=Bv;have c:=xe;exact⟨by omega,by omega,rfl,by omega,by omega⟩
def m_{n:aw}{cs:ai D}(h:y6 cs=n)(c:n<2^45){x:D}(a:x.bV=bj:=by rfl):[x].all D.bV=bj/\0<1/\y6 cs=n*1/\[x].length=1*1/\n+1<=2^62/\(n+1)*4<=2^47:=by have e:=dR;have b:=Bv;have d:=xe;exact⟨by simp[a],by omega,by omega,rfl,by omega,by omega⟩
def rP(l m:ai aw):aw->St
 |0=>lay 37 [(0,ak l),(1,ak m),(5,yI 0 bj []),(6,u64 0),(14,nat (dE l m)),(15,nat 0)] []
 |i+1=>lay 37 [(0,ak l),(1,ak m),(5,.bG 0 (i+1) 1),(6,u64 (nt (val l) (val m) (i+1))),(14,nat (dE l m)),(15,nat (i+1))] [(0,(fw (i+1) (val l+val m)).map u32)]
def OX(l:gg d)(c:gg e)(g:b<dE d e)(j:dE d e<2^45):
    xo G (ae f230 0) (rP d e b) y3 (rP d e (b+1)):=by
  have q:=dR;have h:=dF;have m:=Fp (val d) (val e) b;have f:=JB (val d) (val e) b;rw[<-de l,<-de c]at m f;have p:=l.getD b;have o:=c.getD b;have k:=NY (val d) (val e) b;cases b with
  |zero=>
    rw[Fo]at m f;have i:rP d e (0+1)=lay 37 [(0,ak d),(1,ak e),(5,.bG 0 (0+1) 1),(6,u64 (nt (val d) (val e) (0+1))),(14,nat (dE d e)),(15,nat (0+1))] [(0,[]++[u32 ((val d+val e)/BP 0%4294967296)])]:=by show lay 37 _ _=_;rw[<-rG];rfl
    rw[i];clear i;exact af.r a [.eb 16 (ah g),z3 (gU a d l 0),z3 (gU a e c 0),
       .eq 24 (bz (x:=bJ .u64 (zNq (d.getD 0 0)+zNq (e.getD 0 0))) (y:=zNq (d.getD 0 0+e.getD 0 0)) (wrap64 (a:=d.getD 0 0+e.getD 0 0) za)),
       .eq 26 (bz (x:=bJ .u64 (zNq (d.getD 0 0+e.getD 0 0)+zNq 0)) (y:=zNq (0+(d.getD 0 0+e.getD 0 0))) (by rw[aqa];exact wrap64 (a:=d.getD 0 0+e.getD 0 0) za)),
       .eq 29 (gR (x:=bJ .u32 (zNq (0+(d.getD 0 0+e.getD 0 0)))) (y:=zNq ((val d+val e)/BP 0%4294967296)) (by rw[<-f];exact wrap32)),
       yu (Ql (b:=0) (l:=[]) (x:=u32 ((val d+val e)/BP 0%4294967296)) rfl za),
       .eq 33 (bz (x:=(zNq (0+(d.getD 0 0+e.getD 0 0))).fdiv (2^min (ga 32) (cn .u64))) (y:=zNq (nt (val d) (val e) (0+1))) (by rw[sU,<-m])),
       .eq 34 (bL (b7 (a:=0) za))]
  |succ b=>
    have i:rP d e (b+1+1)=lay 37 [(0,ak d),(1,ak e),(5,.bG 0 (b+1+1) 1),(6,u64 (nt (val d) (val e) (b+1+1))),(14,nat (dE d e)),(15,nat (b+1+1))] [(0,(fw (b+1) (val d+val e)).map u32++[u32 ((val d+val e)/BP (b+1)%4294967296)])]:=by show lay 37 _ _=_;rw[rG]
    rw[i];clear i;exact af.r a [.eb 16 (ah g),z3 (gU a d l (b+1)),z3 (gU a e c (b+1)),
       .eq 24 (bz (x:=bJ .u64 (zNq (d.getD (b+1) 0)+zNq (e.getD (b+1) 0))) (y:=zNq (d.getD (b+1) 0+e.getD (b+1) 0)) (wrap64 (a:=d.getD (b+1) 0+e.getD (b+1) 0) za)),
       .eq 26 (bz (x:=bJ .u64 (zNq (d.getD (b+1) 0+e.getD (b+1) 0)+zNq (nt (val d) (val e) (b+1)))) (y:=zNq (nt (val d) (val e) (b+1)+(d.getD (b+1) 0+e.getD (b+1) 0)))
         (by rw[aqF (nt (val d) (val e) (b+1))];exact wrap64 (a:=d.getD (b+1) 0+e.getD (b+1) 0+nt (val d) (val e) (b+1)) za)),
       .eq 29 (gR (x:=bJ .u32 (zNq (nt (val d) (val e) (b+1)+(d.getD (b+1) 0+e.getD (b+1) 0)))) (y:=zNq ((val d+val e)/BP (b+1)%4294967296)) (by rw[<-f];exact wrap32)),
       yu (m_ (n:=b+1) (cs:=(fw (b+1) (val d+val e)).map u32) (x:=u32 ((val d+val e)/BP (b+1)%4294967296)) (by rw[apq,dz]) za),
       .eq 33 (bz (x:=(zNq (nt (val d) (val e) (b+1)+(d.getD (b+1) 0+e.getD (b+1) 0))).fdiv (2^min (ga 32) (cn .u64))) (y:=zNq (nt (val d) (val e) (b+1+1))) (by rw[sU,<-m])),
       .eq 34 (bL (b7 (a:=b+1) za))]
def RX:xo G (ae f230 0) (rP d e (max (y6 d) (y6 e)+1)) (y5 0) (rP d e (max (y6 d) (y6 e)+1)):=
 af.r a [.eb 16 (av (apc (dE d e)))]
def RW(c:gg d)(b:gg e)(l:dE d e<2^45):
  aI zZq G 37 0 (.loop (ae f230 0)) (lay 37 [(0,ak d),(1,ak e),(5,yI 0 bj []),(6,u64 0),(14,nat (dE d e)),(15,nat 0)] []) (y5 0)
   (rP d e (max d.length e.length+1)):=
 aI.count (rP d e) (dE d e) (λi=>by cases i<;>exact aO _ _ _) zb (λi m=>OX a c b m l) (RX a)
def RV(a:aa G)(l:gg d)(c:gg e)(j:d.length<=2^44)(h:e.length<=2^44):
    xf G 230 [ak d,ak e] (ak (words (val d+val e))):=by
  have n:=dS;have k:=dR;have g:dE d e<2^45:=by unfold dE;omega
  have f:=Lb l c;have b:=jg a (d:=fw (dE d e) (val d+val e)) (jQ _ _) (by rw[dz];omega)
  rw[jf f]at b;refine Spec.r a func230 [] (args:=[ak d,ak e])
    [.eq 13 (bL (GZ d e)),.eq 14 (bL (b7 (a:=max d.length e.length) za)),.code (RW a l c g),.freeze 0,
     .eq 35 (d:=D.row (max d.length e.length+1) aj (((fw (max d.length e.length+1) (val d+val e)).map u32).take ((max d.length e.length+1)*1))) (d':=ak (fw (dE d e) (val d+val e))) ?_,z3 b]
  unfold ak dE;rw[apA (by simp[dz]),dz]
def tD{x y:aw}(h:y<=x)(a:x<18446744073709551616):bJ .u64 (zNq x-zNq y)=zNq (x-y):=by rw[rk];simp only[zKq];omega
def N3(x y c:aw):aw:=4294967296+x-y-c
def N2(h:b<=c):N3 (c/BP g%4294967296) (b/BP g%4294967296) (fM c b g)%4294967296=(c-b)/BP g%4294967296:=by have j:=Ju h g;have i:c/BP g%4294967296<4294967296:=apP _ za;have f:b/BP g%4294967296<4294967296:=apP _ za;have e:=ye c b g;have d:(c-b)/BP g%4294967296<4294967296:=apP _ za;unfold N3;generalize c/BP g%4294967296=x at*;generalize b/BP g%4294967296=y at*;generalize(c-b)/BP g%4294967296=z at*;generalize fM c b g=a at*;omega
def JE:1-N3 (c/BP g%4294967296) (b/BP g%4294967296) (fM c b g)/4294967296=fM c b (g+1):=by rw[Fj];have f:c/BP g%4294967296<4294967296:=apP _ za;have e:b/BP g%4294967296<4294967296:=apP _ za;have d:=ye c b g;unfold N3;generalize c/BP g%4294967296=x at*;generalize b/BP g%4294967296=y at*;generalize fM c b g=a at*;split<;>omega
def VO{x:aw}(h:x<4294967296):bJ .u64 (4294967296+zNq x)=zNq (4294967296+x):=by rw[rk];simp only[zKq];omega
def Iq(h:b<=1):bJ .u64 (1-zNq b)=zNq (1-b):=by rw[rk];simp only[zKq];omega
def NZ{x y:aw}(h:x<4294967296):N3 x y c/4294967296<=1:=by unfold N3;omega
def o6(l m:ai aw):aw->St
 |0=>lay 35 [(0,ak l),(1,ak m),(5,yI 0 bj []),(6,u64 0),(10,nat (y6 l)),(11,nat 0)] []
 |i+1=>lay 35 [(0,ak l),(1,ak m),(5,.bG 0 (i+1) 1),(6,u64 (fM (val l) (val m) (i+1))),(10,nat (y6 l)),(11,nat (i+1))] [(0,(fw (i+1) (val l-val m)).map u32)]
def MK(k:gg d)(j:gg e)(hle:val e<=val d)(q:b<d.length)(u:d.length<2^45):
    xo G (ae f290 0) (o6 d e b) y3 (o6 d e (b+1)):=by
  have z:=dR;have t:=dF;have r:=N2 (g:=b) hle;have p:=JE (c:=val d) (b:=val e) (g:=b);rw[<-de k,<-de j]at r p;have o:=k.getD b;have w:=j.getD b;have v:=ye (val d) (val e) b;have s:=NZ (x:=d.getD b 0) (y:=e.getD b 0) (c:=fM (val d) (val e) b) o;have l:bJ .u32 (zNq (N3 (d.getD b 0) (e.getD b 0) (fM (val d) (val e) b)))=zNq ((val d-val e)/BP b%4294967296):=by rw[iL,r]
  have eb:bJ .u64 (1-zNq (N3 (d.getD b 0) (e.getD b 0) (fM (val d) (val e) b)/4294967296))=zNq (fM (val d) (val e) (b+1)):=by rw[Iq s,p]
  have f:bJ .u64 (zNq (4294967296+d.getD b 0-e.getD b 0)-zNq (fM (val d) (val e) b))=zNq (N3 (d.getD b 0) (e.getD b 0) (fM (val d) (val e) b)):=tD za za;have h:bJ .u64 (zNq (4294967296+d.getD b 0)-zNq (e.getD b 0))=zNq (4294967296+d.getD b 0-e.getD b 0):=tD za za;cases b with
  |zero=>
    rw[wZ]at l eb f;have i:o6 d e (0+1)=lay 35 [(0,ak d),(1,ak e),(5,.bG 0 (0+1) 1),(6,u64 (fM (val d) (val e) (0+1))),(10,nat d.length),(11,nat (0+1))] [(0,[]++[u32 ((val d-val e)/BP 0%4294967296)])]:=by show lay 35 _ _=_;rw[<-rG];rfl
    rw[i];clear i;exact af.r a [.eb 12 (ah q),z3 (gU a d k 0),.eq 17 (bz (VO o)),z3 (gU a e j 0),.eq 21 (bz h),.eq 23 (bz f),.eq 26 (gR l),
       yu (Ql (b:=0) (l:=[]) (x:=u32 ((val d-val e)/BP 0%4294967296)) rfl za),.eq 30 (bz (sU (N3 (d.getD 0 0) (e.getD 0 0) 0))),.eq 31 (bz eb),.eq 32 (bL (b7 (a:=0) za))]
  |succ b=>
    have i:o6 d e (b+1+1)=lay 35 [(0,ak d),(1,ak e),(5,.bG 0 (b+1+1) 1),(6,u64 (fM (val d) (val e) (b+1+1))),(10,nat d.length),(11,nat (b+1+1))] [(0,(fw (b+1) (val d-val e)).map u32++[u32 ((val d-val e)/BP (b+1)%4294967296)])]:=by show lay 35 _ _=_;rw[rG]
    rw[i];clear i;exact af.r a [.eb 12 (ah q),z3 (gU a d k (b+1)),.eq 17 (bz (VO o)),z3 (gU a e j (b+1)),.eq 21 (bz h),.eq 23 (bz f),.eq 26 (gR l),
       yu (m_ (n:=b+1) (cs:=(fw (b+1) (val d-val e)).map u32) (x:=u32 ((val d-val e)/BP (b+1)%4294967296)) (by rw[apq,dz]) za),
       .eq 30 (bz (sU (N3 (d.getD (b+1) 0) (e.getD (b+1) 0) (fM (val d) (val e) (b+1))))),.eq 31 (bz eb),.eq 32 (bL (b7 (a:=b+1) za))]
def O3(m:y6 d=b+1):xo G (ae f290 0) (o6 d e (b+1)) (y5 0) (o6 d e (b+1)):=
 af.r a [.eb 12 (av (a:=b+1) (N:=y6 d) za)]
def O2(c:gg d)(m:gg e)(hle:val e<=val d)(k:d.length<2^45)(l:d.length=b+1):
  aI zZq G 35 0 (.loop (ae f290 0)) (lay 35 [(0,ak d),(1,ak e),(5,yI 0 bj []),(6,u64 0),(10,nat d.length),(11,nat 0)] []) (y5 0)
   (o6 d e (b+1)):=
 aI.count (o6 d e) (b+1) (λi=>by cases i<;>exact aO _ _ _) zb (λi f=>MK a c m hle za k) (O3 a l)
def O1(b:aa G)(l:gg d)(g:gg e)(hle:val e<=val d)(h:d.length<=2^44):
    xf G 290 [ak d,ak e] (ak (words (val d-val e))):=by
  have j:=dS;have i:=dR;have f:val d-val e<BP d.length:=aqh (arh _ _) (mE l);have a:=jg b (d:=fw d.length (val d-val e)) (jQ _ _) (by rw[dz];omega);rw[jf f]at a;cases c:d.length with
  |zero=>
    have:d=[]:=ap8 c;subst this;have a:xf G 225 [ak []] (ak (words (val []-val e))):=a;exact Spec.r b func290 [] [z3 a]
  |succ k=>
    rw[c]at a;refine Spec.r b func290 [] (args:=[ak d,ak e])
      [.code (O2 b l g hle za c),.freeze 0,
       .eq 33 (d:=D.row (k+1) aj (((fw (k+1) (val d-val e)).map u32).take ((k+1)*1))) (d':=ak (fw (k+1) (val d-val e))) ?_,z3 a]
    unfold ak;rw[apA (by simp[dz]),dz]
def th(l m:ai aw)(c:aw):St:=lay 30 [(0,ak l),(1,ak m),(5,int (L3 c))] []
def K_(a:aa G)(c:gg d)(m:gg e)(i:y7 d b 0=y7 e b 0)(l:b<2^60):
    xo G (ae f227 0) (th d e (b+1)) y3 (th d e b):=
  af.r a [.eb 13 (x:=decide (zNq b>=0)) (y:=bj) zb,z3 (gU a d c b),z3 (gU a e m b),.eb 22 (x:=(zNq (y7 d b 0) !=zNq (y7 e b 0))) (y:=aj) (by rw[i];simp),
     .eq 15 (bL (mu l))]
def afm(a:aa G)(c:gg d)(m:gg e)(l:y7 d b 0<y7 e b 0):
    xo G (ae f227 0) (th d e (b+1)) .ret (lay 30 [(4,int (-1))] []):=
  af.r a [.eb 13 (x:=decide (zNq b>=0)) (y:=bj) zb,z3 (gU a d c b),z3 (gU a e m b),.eb 22 (x:=(zNq (y7 d b 0) !=zNq (y7 e b 0))) (y:=bj) (by rw[kE];simp only[zKq];omega),
     z3 (gU a d c b),z3 (gU a e m b),.eb 29 (x:=decide (zNq (y7 d b 0)<zNq (y7 e b 0))) (y:=bj) (by simp only[zKq,cm];omega)]
def afn(a:aa G)(c:gg d)(m:gg e)(l:y7 e b 0<y7 d b 0):
    xo G (ae f227 0) (th d e (b+1)) .ret (lay 30 [(4,int 1)] []):=
  af.r a [.eb 13 (x:=decide (zNq b>=0)) (y:=bj) zb,z3 (gU a d c b),z3 (gU a e m b),.eb 22 (x:=(zNq (y7 d b 0) !=zNq (y7 e b 0))) (y:=bj) (by rw[kE];simp only[zKq];omega),
     z3 (gU a d c b),z3 (gU a e m b),.eb 29 (x:=decide (zNq (y7 d b 0)<zNq (y7 e b 0))) (y:=aj) (by simp only[zKq,fH];omega)]
def aai:xo G (ae f227 0) (th d e 0) (y5 0) (th d e 0):=
 af.r a []
def MM(b:gg d)(c:gg e)(m:val d=val e){N:aw}(f:N<2^60):
  aI zZq G 30 0 (.loop (ae f227 0)) (lay 30 [(0,ak d),(1,ak e),(5,int (L3 N))] []) (y5 0) (th d e 0):=
 aI.down (th d e) N (λi=>aO _ _ _) zb (λi l=>K_ a b c (by rw[de b,de c,m]) za) (aai a)
def ML(b:gg d)(m:gg e)(k:val d≠val e){N:aw}(p:N<2^60)(n:val d/BP N=val e/BP N):
  aI zZq G 30 0 (.loop (ae f227 0)) (lay 30 [(0,ak d),(1,ak e),(5,int (L3 N))] []) .ret (lay 30 [(4,int (j9 (val d) (val e)))] []):=by
 refine aI.rounds (λc:aw=>c<2^60/\val d/BP c=val e/BP c) (th d e) (λc=>c) (λm=>aO _ _ _) zb (λc o=>?_) N ⟨p,n⟩
 obtain⟨q,f⟩:=o;cases c with
 |zero=>rw[iJ,aqP,aqP]at f;exact api f k
 |succ i=>
  obtain⟨d1,d2⟩:=AK f;obtain⟨-,d3⟩:=AK f.symm;have j:i<2^60:=za
  rcases aq5 (y7 d i 0) (y7 e i 0)with h|h|h
  ·right
   have g:=d2 (by rw[<-de b,<-de m];exact h)
   have l:j9 (val d) (val e)= -1:=by unfold j9;rw[aph g]
   rw[l];exact afm a b m h
  ·left
   exact⟨i,⟨j,d1 (by rw[<-de b,<-de m];exact h)⟩,by omega,K_ a b m h j⟩
  ·right
   have g:=d3 (by rw[<-de b,<-de m];exact h)
   have l:j9 (val d) (val e)=1:=by unfold j9;rw[ape za,aph g]
   rw[l];exact afn a b m h
def X9(a:aw):j9 a a=0:=by unfold j9;rw[ape za,ape za]
def vF(f:gg d)(l:gg e)(n:y6 d<=2^45)(k:y6 e<=2^45):
  xf G 227 [ak d,ak e] (int (j9 (val d) (val e))):=by
 have o:=dR;have h:=dF;have c:max (y6 d) (y6 e)<2^60:=za
 by_cases he:val d=val e;rw[he,X9];exact Spec.r a func227 [] [.eq 10 (bL (GZ d e)),.eq 11 (bL (mu c)),.code (MM a f l he c)];have g:val d/BP (max (y6 d) (y6 e))=val e/BP (max (y6 d) (y6 e)):=by have m:=mE f;have b:=mE l;have j:BP (y6 d)<=BP (max (y6 d) (y6 e)):=ny (arP _ _);have i:BP (y6 e)<=BP (max (y6 d) (y6 e)):=ny (arI _ _);rw[ap3 za,ap3 za]
 exact Spec.r a func227 [] [.eq 10 (bL (GZ d e)),.eq 11 (bL (mu c)),.code (ML a f l he c g)]
def vE(l m:ai aw)(i k:aw):St:=
 lay 68 [(0,ak l),(1,ak m),(5,.aY 0 0 (cW l m) (cW l m)),(6,nat i),(7,u64 (nL l m i k)),(17,nat (y6 l)),(18,nat i),(22,nat (y6 m)),(23,nat k)]
  [(0,cK (cW l m) (tf l m i k))]
def RU(u:gg d)(o:gg e)(f:b<d.length)(m:c<e.length)(B:cW d e<2^60):
    xo G (ae f327 1) (vE d e b c) y3 (vE d e b (c+1)):=by
  have z:=dF;have v:b+c<cW d e:=by unfold cW;omega
  have l:=u.getD b;have h:=o.getD c;have n:=Fm (iM d e b/BP b) (d.getD b 0) (val e) c;have g:=Jy (iM d e b/BP b) (d.getD b 0) (val e) c;rw[<-de o,<-OI]at n g;rw[<-CE]at g;have A:=DZ (iM d e b/BP b) (val e) c l;have s:=zd l h;have t:iM d e b/BP (b+c)%4294967296<4294967296:=apP _ za
  have w:tf d e b c (b+c)=iM d e b/BP (b+c)%4294967296:=by unfold tf;rw[ape za]
  have i:vE d e b (c+1)=lay 68 [(0,ak d),(1,ak e),(5,.aY 0 0 (cW d e) (cW d e)),(6,nat b),(7,u64 (nL d e b (c+1))),(17,nat d.length),(18,nat b),(22,nat e.length),(23,nat (c+1))]
      [(0,aE (cK (cW d e) (tf d e b c)) (b+c) [u32 (BC d e b/BP (b+c)%4294967296)])]:=by
    rw[fP _ _ v];unfold vE;congr 3;refine aV λj _=>?_
    unfold tf;by_cases q:j=b+c
    · subst q;rw[aph za,aph rfl]
    · rw[ape q]
      by_cases r:j<b+c
      · rw[aph r,aph za]
      · rw[ape r,ape za]
  rw[i];clear i;exact af.r a [.eb 24 (ah m),yu (cU f),yu (a7 f),.eq 29 (aT f),.eq 30 (bz (jC l)),yu (cU m),yu (a7 m),.eq 34 (aT m),.eq 35 (bz (jC h)),
     .eq 36 (bz (wrap_mul (x:=d.getD b 0) (y:=e.getD c 0) za)),
     .eq 40 (bL (pS (a:=b) (k:=c) za)),yu (dk v),.eq 41 (jV 0 (b+c)),yu (p:=0<1/\b+c+1<=y6 (cK (cW d e) (tf d e b c))) (by rw[dw];omega),
     .eq 42 (d:=((cK (cW d e) (tf d e b c)).drop (b+c)).headD .any) (d':=u32 (iM d e b/BP (b+c)%4294967296)) (by rw[lZ v,w]),.eq 43 (bz (jC t)),
     .eq 44 (bz (wrap_add (x:=d.getD b 0*e.getD c 0) (y:=iM d e b/BP (b+c)%4294967296) za)),
     .eq 46 (bz (x:=bJ .u64 (zNq (d.getD b 0*e.getD c 0+iM d e b/BP (b+c)%4294967296)+zNq (nL d e b c))) (y:=zNq (nL d e b c+(d.getD b 0*e.getD c 0+iM d e b/BP (b+c)%4294967296)))
       (by rw[aqF (nL d e b c)];exact wrap_add (x:=d.getD b 0*e.getD c 0+iM d e b/BP (b+c)%4294967296) (y:=nL d e b c) (by unfold nL;omega))),
     .eq 50 (bL (pS (a:=b) (k:=c) za)),.eq 52 (gR (x:=bJ .u32 (zNq (nL d e b c+(d.getD b 0*e.getD c 0+iM d e b/BP (b+c)%4294967296)))) (y:=zNq (BC d e b/BP (b+c)%4294967296)) (by rw[iL,<-g];rfl)),
     .eq 54 (bz (x:=(zNq (nL d e b c+(d.getD b 0*e.getD c 0+iM d e b/BP (b+c)%4294967296))).fdiv (2^min (ga 32) (cn .u64))) (y:=zNq (nL d e b (c+1))) (by rw[sU];unfold nL;rw[n])),
     yu (dk v),.eq 55 (jV 0 (b+c)),yu (p:=b+c+1<=y6 (cK (cW d e) (tf d e b c))) (by rw[dw];omega),
     .eq 56 (bL (b7 (a:=c) za))]
def Gv:xo G (ae f327 1) (vE d e b (y6 e)) (y5 2) (vE d e b (y6 e)):=
 af.r a [.eb 24 (av (apc (y6 e)))]
def rq(l m:ai aw)(i:aw):St:=
 lay 68 [(0,ak l),(1,ak m),(5,.aY 0 0 (cW l m) (cW l m)),(17,nat (y6 l)),(18,nat i)] [(0,cK (cW l m) (λj=>iM l m i/BP j%4294967296))]
def Gu(f:gg d)(l:gg e)(n:b<d.length)(o:cW d e<2^60):
  aI zZq G 68 0 (.loop (ae f327 1))
   (lay 68 [(0,ak d),(1,ak e),(5,.aY 0 0 (cW d e) (cW d e)),(6,nat b),(7,u64 0),(17,nat d.length),(18,nat b),(22,nat e.length),(23,nat 0)]
    [(0,cK (cW d e) (λj=>iM d e b/BP j%4294967296))]) (y5 2) (vE d e b e.length):=by
 have h:=aI.count (vE d e b) e.length (λk=>aO _ _ _) zb (λk g=>RU a f l n g o) (Gv a);have i:vE d e b 0=lay 68 [(0,ak d),(1,ak e),(5,.aY 0 0 (cW d e) (cW d e)),(6,nat b),(7,u64 0),(17,nat d.length),(18,nat b),(22,nat e.length),(23,nat 0)]
    [(0,cK (cW d e) (λj=>iM d e b/BP j%4294967296))]:=by
  unfold vE nL;rw[Fl];congr 3;refine aV λj _=>?_
  unfold tf;by_cases m:j<b+0;rw[aph m];unfold BC;have c:b=j+(b-j-1)+1:=za
  have p:iM d e b+d.getD b 0*val e*BP b=iM d e b+(d.getD b 0*val e*BP (b-j-1)*4294967296)*BP j:=by
   conv=>lhs;arg 2;rw[c]
   rw[c_,lL];simp only[px,qH,om];rw[<-c]
  rw[p,aq7 _ _ (cO j)];omega;rw[ape m]
 rw[i]at h;exact h
def RT(m:gg d)(h:gg e)(f:b<d.length)(r:cW d e<2^60):
    xo G (ae f327 0) (rq d e b) y3 (rq d e (b+1)):=by
  have t:=dF;have g:b+e.length<cW d e:=by unfold cW;omega
  have s:=GN (b:=d) h b (cO _);have q:=m.getD b;have n:nL d e b e.length=BC d e b/BP (b+e.length):=by
    unfold nL;rw[CE];refine QU ?_ (mE h);rw[ap1 (cO b),<-lL,aqF];exact s
  have c:nL d e b e.length<4294967296:=by unfold nL;exact DZ _ _ _ q
  have i:rq d e (b+1)=lay 68 [(0,ak d),(1,ak e),(5,.aY 0 0 (cW d e) (cW d e)),(17,nat d.length),(18,nat (b+1))]
      [(0,aE (cK (cW d e) (tf d e b e.length)) (b+e.length) [u32 (nL d e b e.length%4294967296)])]:=by
    rw[fP _ _ g];unfold rq;congr 3;refine aV λj _=>?_
    rw[<-T9 m];unfold tf;by_cases l:j=b+e.length
    · subst l;rw[aph rfl,n]
    · rw[ape l]
      by_cases o:j<b+e.length
      · rw[aph o]
      · rw[ape o]
        have w:BP (b+e.length+1)<=BP j:=ny za
        have v:BC d e b<BP (b+e.length+1):=by
          have:=c;rw[n,ap1 (cO _)]at this;rw[c_];exact this
        have u:BP (b+e.length)<=BP j:=ny za
        rw[ap3 za,ap3 za]
  rw[i];exact af.r a [.eb 19 (ah f),.code (Gu a m h f r),
     .eq 61 (bL (pS (a:=b) (k:=e.length) za)),.eq 63 (gR (iL (nL d e b e.length))),yu (dk g),.eq 64 (jV 0 (b+e.length)),
     yu (p:=b+e.length+1<=y6 (cK (cW d e) (tf d e b e.length))) (by rw[dw];omega),.eq 65 (bL (b7 (a:=b) za))]
def Gt:xo G (ae f327 0) (rq d e (y6 d)) (y5 0) (rq d e (y6 d)):=
 af.r a [.eb 19 (av (apc (y6 d)))]
def Wv(c:gg d)(b:gg e)(f:cW d e<2^60):
  aI zZq G 68 0 (.loop (ae f327 0))
   (lay 68 [(0,ak d),(1,ak e),(5,.aY 0 0 (cW d e) (cW d e)),(17,nat d.length),(18,nat 0)] [(0,cd (cW d e) (u32 0))]) (y5 0) (rq d e d.length):=by
 have h:=aI.count (rq d e) d.length (λk=>aO _ _ _) zb (λi m=>RT a c b m f) (Gt a);have l:rq d e 0=lay 68 [(0,ak d),(1,ak e),(5,.aY 0 0 (cW d e) (cW d e)),(17,nat d.length),(18,nat 0)] [(0,cd (cW d e) (u32 0))]:=by rw[oh];unfold rq iM;rw[iJ,ary,aqH];congr 3;exact aV λj _=>by rw[arV]
 rw[l]at h;exact h
def OV(a:aa G)(l:gg d)(c:gg e)(p:d.length<=2^44)(o:e.length<=2^44):
    xf G 327 [ak d,ak e] (ak (words (val d*val e))):=by
  have r:=dS;have q:=dR;have n:=dF;have h:cW d e<=2^45:=by unfold cW;omega
  have f:iM d e d.length=val d*val e:=by unfold iM;rw[apW (mE l)]
  have g:val d*val e<BP (cW d e):=by rw[<-f];exact GN c _ (cO _)
  have b:=jg a (d:=fw (cW d e) (val d*val e)) (jQ _ _) (by rw[dz];omega)
  rw[jf g]at b;refine Spec.r a func327 [] (args:=[ak d,ak e])
    [.eq 14 (bL (pS (a:=d.length) (k:=e.length) za)),yu (l8 h),.code (Wv a l c za),.freeze 0,
     .eq 66 (d:=D.row (cW d e) aj (((cK (cW d e) (λj=>iM d e d.length/BP j%4294967296)).drop 0).take (cW d e))) (d':=ak (fw (cW d e) (val d*val e))) (by rw[f];exact rH _ _),z3 b]
def ua(b x:aw):St:=lay 25 [(3,nat (b-bl x)),(4,u32 x)] []
def VG{x:aw}(h:0<x):bl x=bl (x/2)+1:=by
 obtain a|a:=apy x 2
 have:x=1:=za
 subst this;rfl;have:=zR (x:=x) (k:=1) a
 rwa [show 2^1=2 from rfl]at this
def agG:bl 0=0:=rfl
def aeY(x:aw):(zNq x).fdiv (2^min (ga 1) (cn .u32))=zNq (x/2):=u7 (x:=x) 1 za
def O9{x:aw}(c:0<x)(g:bl x<=b)(h:b<2^59):
  xo G (ae f336 0) (ua b x) y3 (ua b (x/2)):=by
 have d:=Hp;have e:=VG c;have f:b-bl (x/2)=b-bl x+1:=za
 unfold ua;rw[f];exact af.r a [.eb 19 (x:=decide (zNq x>0)) (y:=bj) (by simp only[zKq,cm];omega),.eq 23 (bL (b7 (a:=b-bl x) za)),.eq 21 (gR (aeY x))]
def R6:xo G (ae f336 0) (ua b 0) (y5 0) (ua b 0):=
 af.r a []
def R5{x:aw}(d:bl x<=b)(e:b<2^59):
  aI zZq G 25 0 (.loop (ae f336 0)) (lay 25 [(3,nat (b-bl x)),(4,u32 x)] []) (y5 0) (ua b 0):=by
 refine aI.rounds (λx:aw=>bl x<=b) (λx=>ua b x) (λx=>x) (λm=>aO _ _ _) zb (λx c=>?_) x d;obtain h|h:=apv x
 right;subst h;exact R6 a;left;have:=VG h;exact⟨x/2,by omega,by omega,O9 a h c e⟩
def R4(a:aa G)(j:y6 (words b)<=2^44):xf G 336 [ak (words b)] (nat (bl b)):=by
  have o:=dS;have f:=Hp;obtain h|h:=apv b
  · subst h
    exact Spec.r a func336 [] [.eb 7 (x:=(zNq (words 0).length==0)) (y:=bj) rfl]
  · have c:=dY (a:=b) za
    have g:=(aU b).getD (y6 (words b)-1);have k:=adJ g;have e:=adI h;have d:=R5 a (b:=bl b) (x:=(words b).getD (y6 (words b)-1) 0) za za
    rw[show bl b-bl ((words b).getD (y6 (words b)-1) 0)=32*(y6 (words b)-1) by omega]at d
    exact Spec.r a func336 [] [.eb 7 (mB h),.eq 10 (bL (lP (a:=y6 (words b)) za c)),
       .eq 11 (bL (x:=bJ .i64 (32*zNq (y6 (words b)-1))) (y:=zNq (32*(y6 (words b)-1))) (by rw[qu (by simp only[zKq];omega) (by simp only[zKq];omega)];simp)),
       .eq 15 (bL (lP (a:=y6 (words b)) za c)),yu (cU (b:=words b) (a:=y6 (words b)-1) za),yu (a7 (b:=words b) (a:=y6 (words b)-1) za),
       .eq 17 (aT (b:=words b) (a:=y6 (words b)-1) za),.code d]
def DM(R c k:aw):aw:=((R%BP k)*2+c)/BP k
def X5(R c:aw):DM R c 0=c:=by unfold DM;rw[iJ,ary,aqH,aqa,aqP]
def Vs(a:c<=1)(k:aw):DM b c k<=1:=by unfold DM;have R:=iG b k;have:=cO k;have:(b%BP k*2+c)/BP k<2:=(ap1 (cO k)).2 za;omega
def X6(a:c<=1)(k:aw):DM b c (k+1)=b/BP k%4294967296/2147483648:=by
 have hle:=Vs (b:=b) a k;have e:DM b c (k+1)=(2*(b/BP k%4294967296)+DM b c k)/4294967296:=by unfold DM;rw[jL,c_,apC 4294967296,<-apO];congr 1;rw[show(BP k*(b/BP k%4294967296)+b%BP k)*2+c=BP k*(2*(b/BP k%4294967296))+(b%BP k*2+c) by grind,asu (cO k)]
 rw[e];have:b/BP k%4294967296<4294967296:=apP _ za;omega
def ac8(k:aw):(2*b+c)/BP k%4294967296=(2*(b/BP k%4294967296)+DM b c k)%4294967296:=by
 unfold DM;have h:=aqE b (BP k);have e:2*b+c=BP k*(2*(b/BP k))+(b%BP k*2+c):=by
  conv=>lhs;rw[<-h]
  grind
 rw[e,asu (cO k)];omega
def aaX{x:aw}(a:c<=1):(2*x|||c)=2*x+c:=by have:=(arC (i:=1) (b:=c) za x);rw[show 2^1=2 from rfl]at this;omega
def air(a:c<=1):((2*b)%4294967296|||c)=(2*b+c)%4294967296:=by rw[show(2*b)%4294967296=2*(b%2147483648) by omega,aaX a];omega
def ZO(w:aw):bJ .u32 (zNq w*2^min (ga 1) (cn .u32))=zNq (2*w%4294967296):=by have e:min (ga 1) (cn .u32)=1:=rfl;rw[e,Ml];simp only[zKq];omega
def Wm(w:aw):(zNq w).fdiv (2^min (ga 31) (cn .u32))=zNq (w/2147483648):=u7 (x:=w) 31 za
def VK{x:aw}(b:x<4294967296):
  bJ .u32 (((di (cn .u32) (zNq x)&&&di (cn .u32) 1).toNat:aw):cA)=zNq (x%2):=by
 have e:(di (cn .u32) (zNq x)).toNat=x:=by show(di 32 (zNq x)).toNat=x;simp only[zKq,rL,sy];exact apW (by simpa using b)
 have d:(di (cn .u32) 1).toNat=1:=zv
 rw[BitVec.toNat_and,e,d,Nat.and_one_is_mod];have a:=wrap32 (a:=x%2);have c:x%2%4294967296=x%2:=za
 rw[c]at a;exact a
def Zh(a i:aw):a/BP (i/32)%4294967296/2^(i%32)%2=a/2^i%2:=by
 rw[z_];have e:2^i=2^(32*(i/32))*2^(i%32):=by rw[<-ap7];congr 1;omega
 rw[e,<-apO];generalize a/2^(32*(i/32))=x;have d:i%32<32:=apP _ za
 generalize i%32=s at*;have b:4294967296=2^s*2^(32-s):=by rw[<-ap7,show s+(32-s)=32 by omega]
 have c:2^(32-s)=2*2^(31-s):=by rw[<-asj];congr 1;omega
 rw[b,so,c,Nat.mod_mul_right_mod]
def tY(X Y t j:aw):aw:=if j<t then(X-Y)/BP j%4294967296 else X/BP j%4294967296
def KV(X Y:aw):tY X Y 0=λj=>X/BP j%4294967296:=by funext j;unfold tY;rw[ape za]
def KW{N:aw}(h:g<N):aE (cK N (tY b c g)) g [u32 ((b-c)/BP g%4294967296)]=cK N (tY b c (g+1)):=by
 rw[fP _ _ h];refine aV λj _=>?_
 unfold tY;by_cases a:j=g;subst a;rw[aph rfl,aph za];rw[ape a];by_cases X:j<g;rw[aph X,aph za];rw[ape X,ape za]
def T_(X Y t j:aw):tY X Y t j<4294967296:=by unfold tY;split<;>exact apP _ za
def adw(N:aw)(f:aw->aw):cK N f=((ch N).map f).map u32:=by simp[cK]
def adP(d:aa G){N:aw}(c:∀j,z j<4294967296)(f:b<N):
  xf G 291 [yI N aj (((cK N z).drop 0).take N),nat b] (u64 (z b)):=by
 have h:=gU d ((ch N).map z) (λx a=>by simp only[ky]at a;obtain⟨j,-,rfl⟩:=a;exact c j) b;have e:ak ((ch N).map z)=yI N aj (((cK N z).drop 0).take N):=by unfold ak;rw[adw,aqD,apA zb];simp
 have g:((ch N).map z).getD b 0=z b:=by simp[bP,f]
 rw[e,g]at h;exact h
def tg(N:aw)(v:ai aw)(X:aw)(a:ai D)(t:aw):St:=
 lay 31 [(0,.aY 1 0 N N),(1,ak v),(4,u64 (fM X (val v) t)),(8,nat N),(9,nat t)] [(0,a),(1,cK N (tY X (val v) t))]
def Rz(j:aa G){N:aw}(h:gg d)(hle:val d<=b)(s:N<2^45)(g:c<N):
    af zZq G 2 (ae f228 0) (tg N d b l c) y3 (tg N d b l (c+1)):=by
  have z:=dR;have r:=dF;have v:=N2 (g:=c) hle;have k:=JE (c:=b) (b:=val d) (g:=c);rw[<-de h]at v k;have n:b/BP c%4294967296<4294967296:=apP _ za
  have w:=h.getD c;have u:=ye b (val d) c;have m:=adP j (z:=tY b (val d) c) (T_ b (val d) c) g;have q:tY b (val d) c c=b/BP c%4294967296:=by unfold tY;rw[ape za]
  rw[q]at m;have o:=NZ (x:=b/BP c%4294967296) (y:=d.getD c 0) (c:=fM b (val d) c) n;have e:tg N d b l (c+1)=lay 31 [(0,.aY 1 0 N N),(1,ak d),(4,u64 (fM b (val d) (c+1))),(8,nat N),(9,nat (c+1))] [(0,l),(1,aE (cK N (tY b (val d) c)) c [u32 ((b-val d)/BP c%4294967296)])]:=by
    rw[KW g];rfl
  rw[e];clear e;exact af.r j [.eb 10 (ah g),z3 m,.eq 15 (bz (VO n)),z3 (gU j d h c),.eq 19 (bz (x:=bJ .u64 (zNq (4294967296+b/BP c%4294967296)-zNq (d.getD c 0))) (y:=zNq (4294967296+b/BP c%4294967296-d.getD c 0)) (tD za za)),
     .eq 21 (bz (x:=bJ .u64 (zNq (4294967296+b/BP c%4294967296-d.getD c 0)-zNq (fM b (val d) c))) (y:=zNq (N3 (b/BP c%4294967296) (d.getD c 0) (fM b (val d) c))) (tD za za)),
     .eq 25 (gR (x:=bJ .u32 (zNq (N3 (b/BP c%4294967296) (d.getD c 0) (fM b (val d) c)))) (y:=zNq ((b-val d)/BP c%4294967296)) (by rw[iL,v])),
     .eq 27 (bz (sU (N3 (b/BP c%4294967296) (d.getD c 0) (fM b (val d) c)))),.eq 28 (bz (x:=bJ .u64 (1-zNq (N3 (b/BP c%4294967296) (d.getD c 0) (fM b (val d) c)/4294967296))) (y:=zNq (fM b (val d) (c+1))) (by rw[Iq o,k])),
     yu (dk g),.eq 29 (jV 1 c),yu (p:=c+1<=y6 (cK N (tY b (val d) c))) (by rw[dw];omega),.eq 30 (bL (b7 (a:=c) za))]
def Wd{N:aw}:af zZq G 2 (ae f228 0) (tg N d b l N) (y5 0) (tg N d b l N):=
 af.r a [.eb 10 (av (apc N))]
def Wc{N:aw}(X:ai D)(c:gg d)(hle:val d<=b)(f:N<2^45):
  aI zZq G 31 2 (.loop (ae f228 0))
   (lay 31 [(0,.aY 1 0 N N),(1,ak d),(4,u64 0),(8,nat N),(9,nat 0)] [(0,X),(1,cK N (λj=>b/BP j%4294967296))]) (y5 0) (tg N d b X N):=by
 have h:=aI.count (tg N d b X) N (λk=>aO _ _ _) zb (λi v=>Rz a c hle f v) (Wd a);have e:tg N d b X 0=lay 31 [(0,.aY 1 0 N N),(1,ak d),(4,u64 0),(8,nat N),(9,nat 0)] [(0,X),(1,cK N (λj=>b/BP j%4294967296))]:=by unfold tg;rw[KV,wZ]
 rw[e]at h;exact h
structure ik where
 A:aw
 B:aw
def ik.la(d:ik):aw:=y6 (words d.A)
def ik.N(d:ik):aw:=y6 (words d.B)+1
def ik.R(d:ik)(c:aw):aw:=d.A/2^c%d.B
def ik.c0(d:ik)(i:aw):aw:=d.A/2^i%2
def ik.X(d:ik)(i:aw):aw:=2*d.R (i+1)+d.c0 i
def yF(R X k j:aw):aw:=if j<k then X/BP j%4294967296 else R/BP j%4294967296
def X3{N:aw}(h:g<N):aE (cK N (yF b c g)) g [u32 (c/BP g%4294967296)]=cK N (yF b c (g+1)):=by
 rw[fP _ _ h];refine aV λj _=>?_
 unfold yF;by_cases a:j=g;subst a;rw[aph rfl,aph za];rw[ape a];by_cases X:j<g;rw[aph X,aph za];rw[ape X,ape za]
def ya(d:ik)(i:aw)(a:ai D)(k:aw):St:=
 lay 76 [(0,ak (words d.A)),(1,ak (words d.B)),(6,.aY 0 0 d.la d.la),(7,.aY 1 0 d.N d.N),(8,nat i),(9,u32 (DM (d.R (i+1)) (d.c0 i) k)),(35,nat d.N),(36,nat k)]
  [(0,a),(1,cK d.N (yF (d.R (i+1)) (d.X i) k))]
variable {o:ik}
def X1(q:o.N<2^45)(d:c<o.N):
    xo G (ae f334 1) (ya o b l c) y3 (ya o b l (c+1)):=by
  have r:=dR;have i:=dF;have j:o.c0 b<=1:=by unfold ik.c0;omega
  have hw:o.R (b+1)/BP c%4294967296<4294967296:=apP _ za
  have g:=Vs (b:=o.R (b+1)) j c;have k:=X6 (b:=o.R (b+1)) j c;have m:=ac8 (b:=o.R (b+1)) (c:=o.c0 b) c;have h:((cK o.N (yF (o.R (b+1)) (o.X b) c)).drop c).headD .any=u32 (o.R (b+1)/BP c%4294967296):=by rw[lZ d];unfold yF;rw[ape za]
  have e:ya o b l (c+1)=lay 76 [(0,ak (words o.A)),(1,ak (words o.B)),(6,.aY 0 0 o.la o.la),(7,.aY 1 0 o.N o.N),(8,nat b),(9,u32 (DM (o.R (b+1)) (o.c0 b) (c+1))),(35,nat o.N),(36,nat (c+1))]
      [(0,l),(1,aE (cK o.N (yF (o.R (b+1)) (o.X b) c)) c [u32 (o.X b/BP c%4294967296)])]:=by
    rw[X3 d];rfl
  rw[e];clear e;have f:bJ .u32 (((di (cn .u32) (zNq (2*(o.R (b+1)/BP c%4294967296)%4294967296))|||di (cn .u32) (zNq (DM (o.R (b+1)) (o.c0 b) c))).toNat:aw):cA)=zNq (o.X b/BP c%4294967296):=by
    rw[ED (apP _ za) za,air g,<-m];rfl
  exact af.r a [.eb 37 (ah d),yu (dk d),.eq 43 (jV 1 c),yu (p:=0<1/\c+1<=y6 (cK o.N (yF (o.R (b+1)) (o.X b) c))) (by rw[dw];omega),.eq 44 h,
     .eq 45 (gR (ZO (o.R (b+1)/BP c%4294967296))),.eq 47 (gR f),yu (dk d),.eq 50 (jV 1 c),yu (p:=0<1/\c+1<=y6 (cK o.N (yF (o.R (b+1)) (o.X b) c))) (by rw[dw];omega),.eq 51 h,
     .eq 52 (gR (x:=(zNq (o.R (b+1)/BP c%4294967296)).fdiv (2^min (ga 31) (cn .u32))) (y:=zNq (DM (o.R (b+1)) (o.c0 b) (c+1))) (by rw[Wm,k])),
     yu (dk d),.eq 53 (jV 1 c),yu (p:=c+1<=y6 (cK o.N (yF (o.R (b+1)) (o.X b) c))) (by rw[dw];omega),.eq 54 (bL (b7 (a:=c) za))]
def ac7:xo G (ae f334 1) (ya o b l o.N) (y5 2) (ya o b l o.N):=
 af.r a [.eb 37 (av (apc o.N))]
def ac6(d:ai D)(f:o.N<2^45):
  aI zZq G 76 0 (.loop (ae f334 1))
   (lay 76 [(0,ak (words o.A)),(1,ak (words o.B)),(6,.aY 0 0 o.la o.la),(7,.aY 1 0 o.N o.N),(8,nat b),(9,u32 (o.c0 b)),(35,nat o.N),(36,nat 0)]
    [(0,d),(1,cK o.N (λj=>o.R (b+1)/BP j%4294967296))]) (y5 2) (ya o b d o.N):=by
 have h:=aI.count (ya o b d) o.N (λk=>aO _ _ _) zb (λk c=>X1 a f c) (ac7 a);have e:ya o b d 0=lay 76 [(0,ak (words o.A)),(1,ak (words o.B)),(6,.aY 0 0 o.la o.la),(7,.aY 1 0 o.N o.N),(8,nat b),(9,u32 (o.c0 b)),(35,nat o.N),(36,nat 0)]
    [(0,d),(1,cK o.N (λj=>o.R (b+1)/BP j%4294967296))]:=by
  unfold ya;rw[X5];congr 3
 rw[e]at h;exact h
def ait(K i j:aw):(K*2^(i+1)+2^i)/BP j%4294967296=if j=i/32 then(K*2^(i+1)/BP j%4294967296|||2^(i%32))else K*2^(i+1)/BP j%4294967296:=by
 have o:i%32<32:=apP _ za
 have f:i=i%32+32*(i/32):=za
 generalize i/32=a at*;generalize i%32=s at*;subst f;have n:2^(s+32*a)=2^s*BP a:=by rw[z_,<-ap7]
 have m:K*2^(s+32*a+1)=(2^(s+1)*K)*BP a:=by
  rw[show s+32*a+1=(s+1)+32*a by omega,ap7,z_,apC (2^(s+1)) K,apx]
 rw[n,m,<-aqN];have b:4294967296=2^(s+1)*2^(31-s):=by rw[<-ap7,show s+1+(31-s)=32 by omega]
 have hm:(2^(s+1)*K)%4294967296=2^(s+1)*(K%2^(31-s)):=by rw[b,Nat.mul_mod_mul_left]
 have g:K%2^(31-s)<2^(31-s):=apP _ (Nat.two_pow_pos _);have q:2^(s+1)*(K%2^(31-s))+2^(s+1)<=4294967296:=by
  conv=>rhs;rw[b]
  rw[<-asq];exact apT _ g
 have d:2^(s+1)=2*2^s:=by rw[apK];omega
 have e:0<2^s:=Nat.two_pow_pos s;obtain h|h:=apy j a
 ·rw[ape za]
  have l:BP a=(BP (a-j-1)*4294967296)*BP j:=by
   conv=>lhs;rw[show a=(a-j-1)+1+j by omega,lL,c_]
   rw[apC 4294967296]
  rw[l,<-apx,<-apx,asb _ (cO j),Nat.mul_mod_left,<-apx,<-apx,asb _ (cO j),Nat.mul_mod_left]
 ·have c:∀T:aw,T*BP a/BP j=T/BP (j-a):=λT=>by
   conv=>lhs;rw[show j=a+(j-a) by omega,lL]
   rw[<-apO,asb _ (cO a)]
  rw[c,c];generalize p:2^(s+1)*K=T at*;obtain h|h:=Nat.eq_or_lt_of_le h
  ·subst h
   rw[aph rfl,asw,iJ,aqP,aqP,hm,<-arC za,Nat.add_mod,hm]
   rw[apW (show 2^s<4294967296 by omega),apW za]
  ·rw[ape za,show j-a=1+(j-a-1) by omega,lL,<-apO,<-apO]
   have k:BP 1=4294967296:=rfl;rw[k];have:(T+2^s)/4294967296=T/4294967296:=za
   rw[this]
def ik.ok(d:ik):Prop:=0<d.B/\d.la<=2^44/\d.N<=2^44+1
def ik.qF(d:ik)(c j:aw):aw:=(d.A/2^c/d.B*2^c)/BP j%4294967296
def sP(d:ik)(c:aw):St:=
 lay 76 [(0,ak (words d.A)),(1,ak (words d.B)),(6,.aY 0 0 d.la d.la),(7,.aY 1 0 d.N d.N),(8,int (L3 c))] [(0,cK d.la (d.qF c)),(1,cK d.N (λj=>d.R c/BP j%4294967296))]
def ik.step(a:0<o.B)(i:aw):
  o.A/2^i/o.B=2*(o.A/2^(i+1)/o.B)+(if o.B<=o.X i then 1 else 0)/\o.R i=if o.B<=o.X i then o.X i-o.B else o.X i:=by
 have h:=adK (x:=o.A/2^(i+1)) (b:=o.B) (c:=o.A/2^i%2) a za;rw[<-Fc]at h;exact h
def ik.ao7(a:0<o.B)(i:aw):o.X i<BP o.N:=by have c:o.R (i+1)<o.B:=apP _ a;have b:o.B<BP (words o.B).length:=(aS _ _).1 (apc _);unfold ik.N;rw[c_];unfold ik.X ik.c0;omega
def ik.alH(a:0<o.B)(h:o.B<=o.X b)(j:aw):o.qF b j=if j=b/32 then(o.qF (b+1) j|||2^(b%32))else o.qF (b+1) j:=by unfold ik.qF;rw[(ik.step a b).1,aph h,aqN,aqw,apC 2,apx,<-asj,ait]
def ik.aiJ(a:0<o.B)(h:¬o.B<=o.X b)(j:aw):o.qF b j=o.qF (b+1) j:=by unfold ik.qF;rw[(ik.step a b).1,ape h,ass,apC 2,apx,<-asj]
def ik.cmp(c:aa G)(a:o.ok)(i:aw)(k:aw)(g:k=o.N):
  xf G 227 [yI o.N aj (((cK o.N (yF (o.R (i+1)) (o.X i) k)).drop 0).take o.N),ak (words o.B)] (int (j9 (o.X i) o.B)):=by
 obtain⟨f,-,b⟩:=a;have p:=dS;have d:=dR;have h:=vF c (d:=fw o.N (o.X i)) (e:=words o.B) (jQ _ _) (aU _) (by rw[dz];omega) (by unfold ik.N at b;omega)
 rw[CA (ik.ao7 f i),aK,<-rH]at h;have e:cK o.N (yF (o.R (i+1)) (o.X i) k)=cK o.N (λj=>o.X i/BP j%4294967296):=aV λj n=>by unfold yF;rw[aph za]
 rw[e];exact h
def PA(r:aa G){d:ik}(E:d.ok){i:aw}(H:i<bl d.A):
    af zZq G 0 (ae f334 0) (sP d (i+1)) .normal (sP d i):=by
  have s:=ik.cmp r E i d.N rfl;obtain⟨w,F,L⟩:=E;have R:=dS;have Q:=dR;have K:=dF;have P:bl d.A<=32*d.la:=by
    rcases apy (32*d.la) (bl d.A)with q|q
    · have O:=JF (x:=d.A) (λe=>by rw[e,agG]at H;omega)
      have J:d.A<BP d.la:=(aS _ _).1 (apc _);rw[z_]at J;have M:2^(32*d.la)<=2^(bl d.A-1):=apI za za
      omega
    · exact q
  have m:i/32<d.la:=za
  have h:i<2^60:=za
  have z:=(aU d.A).getD (i/32);have n:0<=zNq (i%32):=by simp only[zKq];omega
  have t:=ac6 r (o:=d) (b:=i) (cK d.la (d.qF (i+1))) za
  have B:zNq ((words d.A).getD (i/32) 0/2^(i%32)%2)=zNq (d.c0 i):=by rw[mC,Zh];rfl
  have hand:bJ .u32 (((di (cn .u32) (zNq ((words d.A).getD (i/32) 0/2^(i%32)))&&&di (cn .u32) 1).toNat:aw):cA)=zNq (d.c0 i):=by
    rw[VK (aqh (aqg _ _) z),B]
  by_cases o:d.B<=d.X i
  · have u:=Wc r (N:=d.N) (b:=d.X i) (d:=words d.B) (cK d.la (d.qF (i+1))) (aU _) (by rw[aK];exact o) za
    have C:cK d.N (yF (d.R (i+1)) (d.X i) d.N)=cK d.N (λj=>d.X i/BP j%4294967296):=aV λj g=>by unfold yF;rw[aph g]
    rw[<-C]at u;have D:d.qF (i+1) (i/32)<4294967296:=apP _ za
    have A:2^(i%32)<4294967296:=by
        have:=arG (a:=2) za (show i%32<32 by omega);have I:2^32=4294967296:=zv
        omega
    have e:sP d i=lay 76 [(0,ak (words d.A)),(1,ak (words d.B)),(6,.aY 0 0 d.la d.la),(7,.aY 1 0 d.N d.N),(8,int (L3 i))]
        [(0,aE (cK d.la (d.qF (i+1))) (i/32) [u32 (d.qF (i+1) (i/32)|||2^(i%32))]),(1,cK d.N (tY (d.X i) (val (words d.B)) d.N))]:=by
      rw[fP _ _ m];unfold sP;have f1:cK d.la (d.qF i)=cK d.la (λj=>if j=i/32 then d.qF (i+1) (i/32)|||2^(i%32)else d.qF (i+1) j):=aV λj _=>by
        rw[ik.alH w o];by_cases g:j=i/32
        · rw[aph g,aph g,g]
        · rw[ape g,ape g]
      have f2:cK d.N (λj=>d.R i/BP j%4294967296)=cK d.N (tY (d.X i) (val (words d.B)) d.N):=aV λj g=>by
        unfold tY;rw[aph g,aK,(ik.step w i).2,aph o]
      rw[f1,f2]
    rw[e];clear e;exact af.r r [.eb 22 (x:=decide (zNq i>=0)) (y:=bj) zb,.eq 27 (bL (Ng (b:=i) (c:=32) h)),.prop (cU (b:=words d.A) (a:=i/32) m),.prop (a7 (b:=words d.A) (a:=i/32) m),.eq 29 (aT (b:=words d.A) (a:=i/32) m),
       .eq 31 (bL (Nf i 32)),.prop n,.eq 32 (gR (u7 (x:=(words d.A).getD (i/32) 0) (i%32) za)),.eq 33 (gR hand),.code t,.call s,.eb 58 (NS o),
       .inl [] func228,.code u,
       .eq 64 (bL (Ng (b:=i) (c:=32) h)),.prop (dk m),.eq 65 (jV 0 (i/32)),.prop (p:=0<1/\i/32+1<=(cK d.la (d.qF (i+1))).length) (by rw[dw];omega),.eq 66 (lZ (N:=d.la) (A:=d.qF (i+1)) m),
       .eq 68 (bL (Nf i 32)),.prop n,.eq 69 (gR (ae0 (b:=i%32) za)),.eq 70 (gR (ED D A)),.prop (dk m),.eq 71 (jV 0 (i/32)),.prop (p:=i/32+1<=(cK d.la (d.qF (i+1))).length) (by rw[dw];omega),
       .eq 24 (bL (mu h))]
  · have e:sP d i=lay 76 [(0,ak (words d.A)),(1,ak (words d.B)),(6,.aY 0 0 d.la d.la),(7,.aY 1 0 d.N d.N),(8,int (L3 i))] [(0,cK d.la (d.qF (i+1))),(1,cK d.N (yF (d.R (i+1)) (d.X i) d.N))]:=by
      unfold sP;have f1:cK d.la (d.qF i)=cK d.la (d.qF (i+1)):=aV λj _=>ik.aiJ w o j
      have f2:cK d.N (λj=>d.R i/BP j%4294967296)=cK d.N (yF (d.R (i+1)) (d.X i) d.N):=aV λj g=>by
        unfold yF;rw[aph g,(ik.step w i).2,ape o]
      rw[f1,f2]
    rw[e];clear e;exact af.r r [.eb 22 (x:=decide (zNq i>=0)) (y:=bj) zb,.eq 27 (bL (Ng (b:=i) (c:=32) h)),.prop (cU (b:=words d.A) (a:=i/32) m),.prop (a7 (b:=words d.A) (a:=i/32) m),.eq 29 (aT (b:=words d.A) (a:=i/32) m),
       .eq 31 (bL (Nf i 32)),.prop n,.eq 32 (gR (u7 (x:=(words d.A).getD (i/32) 0) (i%32) za)),.eq 33 (gR hand),.code t,.call s,.eb 58 (NR (c:=d.X i) (b:=d.B) za),
       .eq 24 (bL (mu h))]
def SD:xo G (ae f334 0) (sP o 0) (y5 0) (sP o 0):=
 af.r a []
def SB(f:o.ok):
  aI zZq G 76 0 (.loop (ae f334 0))
   (lay 76 [(0,ak (words o.A)),(1,ak (words o.B)),(6,.aY 0 0 o.la o.la),(7,.aY 1 0 o.N o.N),(8,int (L3 (bl o.A)))] [(0,cd o.la (u32 0)),(1,cd o.N (u32 0))]) (y5 0) (sP o 0):=by
 have h:=aI.down (sP o) (bl o.A) (λi=>aO _ _ _) zb (λi c=>PA a f c) (SD a)
 have e:sP o (bl o.A)=lay 76 [(0,ak (words o.A)),(1,ak (words o.B)),(6,.aY 0 0 o.la o.la),(7,.aY 1 0 o.N o.N),(8,int (L3 (bl o.A)))] [(0,cd o.la (u32 0)),(1,cd o.N (u32 0))]:=by
  rw[oh,oh];have b:o.A/2^bl o.A=0:=ap3 (VF _);unfold sP;have f1:cK o.la (o.qF (bl o.A))=cK o.la (λ_=>0):=aV λj _=>by unfold ik.qF;rw[b,arV,aqH,arV]
  have f2:cK o.N (λj=>o.R (bl o.A)/BP j%4294967296)=cK o.N (λ_=>0):=aV λj _=>by unfold ik.R;rw[b,Nat.zero_mod,arV]
  rw[f1,f2]
 rw[e]at h;exact h
def CW(a:aa G)(d:0<b)(e:y6 (words c)<=2^44)(u:y6 (words b)<=2^44):
    xf G 334 [ak (words c),ak (words b)] (.aP [ak (words (c/b)),ak (words (c%b))]):=by
  have y:=dS;have w:=dR;have r:=dF;have k:(ik.mk c b).ok:=⟨d,e,by show y6 (words b)+1<=_;omega⟩
  have v:bl c<=32*y6 (words c):=by
    obtain h|h:=apv c
    · subst h;exact apJ _
    · have m:=(aS c _).1 (apc _)
      rcases apy (32*y6 (words c)) (bl c)with q|q
      · have t:=JF (x:=c) za
        rw[z_]at m;have s:2^(32*y6 (words c))<=2^(bl c-1):=apI za za
        omega
      · exact q
  have g:c/b<BP (words c).length:=aqh (aqg _ _) ((aS c _).1 (apc _));have f:c%b<BP (y6 (words b)+1):=by
    have:=apP c d;have:=(aS b _).1 (apc _);rw[c_];omega
  have t1:=jg a (d:=fw (words c).length (c/b)) (jQ _ _) (by rw[dz];omega)
  have t2:=jg a (d:=fw (y6 (words b)+1) (c%b)) (jQ _ _) (by rw[dz];omega)
  rw[jf g]at t1;rw[jf f]at t2;have p:D.row (words c).length aj (((cK (words c).length (ik.qF ⟨c,b⟩ 0)).drop 0).take (words c).length)=ak (fw (words c).length (c/b)):=by
    rw[<-rH];congr 3;exact aV λj _=>by unfold ik.qF;simp only[mb,ql,qg]
  have o:D.row (y6 (words b)+1) aj (((cK (y6 (words b)+1) (λj=>ik.R ⟨c,b⟩ 0/BP j%4294967296)).drop 0).take (y6 (words b)+1))=ak (fw (y6 (words b)+1) (c%b)):=by
    rw[<-rH];congr 3;exact aV λj _=>by unfold ik.R;simp only[mb,ql]
  exact Spec.r a func334 [] [yu (l8 (N:=y6 (words c)) za),.eq 16 (bL (b7 (a:=y6 (words b)) za)),yu (l8 (N:=y6 (words b)+1) za),z3 (R4 a e),.eq 20 (bL (mu (a:=bl c) za)),
     .code (SB a k),.freeze 0,.freeze 1,.eq 72 p,z3 t1,.eq 74 o,z3 t2]
def Cb{P:aw->Prop}:∀n,¬P n->∃T,(∀t<T,P t)/\¬P T:=by
 intro n;induction n with
 |zero=>intro h;exact⟨0,λt a=>api a za,h⟩
 |succ n i=>
  intro h;by_cases l:P n;by_cases f:∀t<n+1,P t;exact⟨n+1,f,h⟩;have:∃t,t<n+1/\¬P t:=arH λm=>f λt a=>arH λe=>m ⟨t,a,e⟩
  obtain⟨t,a,e⟩:=this;by_cases b:∃s,s<n+1/\¬P s/\∀r<s,P r;obtain⟨s,-,p,o⟩:=b;exact⟨s,o,p⟩;exfalso;have:∀k,∀s<k,s<n+1->P s:=by
   intro k;induction k with
   |zero=>intro s j;omega
   |succ k c=>
    intro s j d;by_cases g:P s;exact g;exact api ⟨s,d,g,λr q=>c r za za⟩ b
  exact e (this (n+1) t a a);exact i l
def xr(h:0<b):∃T,(∀i<T,b/2^i%2=0)/\¬b/2^T%2=0:=by
 refine Cb (P:=λi=>b/2^i%2=0) (bl b-1) ?_;have d:=JF (x:=b) za;have n:=VF b;have c:=TF (x:=b) za;have a:b/2^(bl b-1)=1:=by refine asE za ?_;rw[show(1+1)*2^(bl b-1)=2^bl b by rw[show bl b=(bl b-1)+1 by omega,apK];simp only[sr];omega];exact n
 rw[a];omega
noncomputable def tz(n:aw):aw:=if h:0<n then rm (xr h)else 0
def xj(h:0<b)(a:c<tz b):b/2^c%2=0:=by unfold tz at a;rw[dif_pos h]at a;exact(arX (xr h)).1 c a
def Mu(h:0<b):b/2^tz b%2=1:=by unfold tz;rw[dif_pos h];have:=(arX (xr h)).2;omega
noncomputable def fF(n:aw):aw:=n/2^tz n
def Pw(h:0<b):0<fF b:=by
 have:=Mu h;unfold fF;rcases apv (b/2^tz b)with e|e
 rw[e]at this;omega;exact e
def Am(n:aw):fF n<=n:=aqg _ _
def pd(a i:aw):a/2^(i+1)=a/2^i/2:=by rw[apK,<-apO]
def LG{a b:aw}(h:c8 a b%2=1):∀i,(∀k<i,a/2^k%2=0)->c8 (a/2^i) b=c8 a b
 |0,_=>by rw[asS,aqP]
 |i+1,d=>by
  have c:=LG h i λk f=>d k za
  have e:a/2^i=2*(a/2^(i+1)):=by rw[pd];have:=d i za;omega
  rw[e]at c;rw[<-c];exact acu (by rw[c];exact h)
def Qn(d:0<c)(h:c8 c b%2=1):c8 (fF c) b=c8 c b:=LG h _ λ_ a=>xj d a
structure GS where
 sw:b5
 a:aw
 b:aw
noncomputable def GS.next(s:GS):GS:=if fF s.a<fF s.b then⟨!s.sw,fF s.b-fF s.a,fF s.a⟩else⟨s.sw,fF s.a-fF s.b,fF s.b⟩
variable {w:GS}
def GS.abk(b:0<w.a)(a:0<w.b)(h:c8 w.a w.b%2=1):c8 w.next.a w.next.b=c8 w.a w.b/\0<w.next.b/\w.next.a+w.next.b<w.a+w.b:=by
 have d:=Qn b h;have c:c8 (fF w.a) (fF w.b)=c8 w.a w.b:=by rw[<-d,arW (fF w.a) w.b,<-Qn a (by rw[arW,d];exact h),arW]
 have g:=Pw b;have f:=Pw a;have j:=Am w.a;have i:=Am w.b;unfold GS.next
 split;rename_i e;refine⟨?_,g,?_⟩;show c8 (fF w.b-fF w.a) (fF w.a)=_;rw[Qo (apU e),arW,c];show fF w.b-fF w.a+fF w.a<_;omega;rename_i e;refine⟨?_,f,?_⟩;show c8 (fF w.a-fF w.b) (fF w.b)=_;rw[Qo za,c];show fF w.a-fF w.b+fF w.b<_;omega
noncomputable def GS.nth(s:GS):aw->GS
 |0=>s
 |i+1=>(s.nth i).next
def GS.fits(N0 N1:aw)(s:GS):Prop:=y6 (words (cond s.sw s.b s.a))<=N0/\y6 (words (cond s.sw s.a s.b))<=N1
def GS.W5(h:w.fits b c):w.next.fits b c:=by
 have i:=cz (Am w.a);have g:=cz (Am w.b);have f:=cz (arh (fF w.a) (fF w.b));have e:=cz (arh (fF w.b) (fF w.a));obtain⟨N0,a,s⟩:=w;unfold GS.fits GS.next at*
 simp only at i g f e;by_cases d:fF a<fF s;simp only[nT d];cases N0<;>simp only[cond,Bool.not_false,kn]at h⊢ <;>omega;simp only[ks d];cases N0<;>simp only[cond]at h⊢ <;>omega
def GS.run(g:0<w.b)(h:c8 w.a w.b%2=1)(i:aw)(b:∀t<i,0<(w.nth t).a):0<(w.nth i).b/\c8 (w.nth i).a (w.nth i).b=c8 w.a w.b/\(w.nth i).a+(w.nth i).b+i<=w.a+w.b:=by
 induction i with
 |zero=>exact⟨g,rfl,apc _⟩
 |succ i f=>
  obtain⟨c,a,j⟩:=f λt l=>b t za
  obtain⟨e,d,k⟩:=GS.abk (b i za) c (by rw[a];exact h);exact⟨d,by show c8 (w.nth i).next.a (w.nth i).next.b=_;rw[e,a],by show(w.nth i).next.a+(w.nth i).next.b+(i+1)<=_;omega⟩
def GS.stops(e:0<w.b)(h:c8 w.a w.b%2=1):∃T,(∀t<T,0<(w.nth t).a)/\(w.nth T).a=0:=by
 by_cases a:∀t<w.a+w.b+1,0<(w.nth t).a;have:=(GS.run e h _ a).2.2;omega;have:∃n,¬0<(w.nth n).a:=arH λd=>a λt _=>arH λb=>d ⟨t,b⟩
 obtain⟨n,c⟩:=this;obtain⟨T,f,g⟩:=Cb (P:=λt=>0<(w.nth t).a) n c;exact⟨T,f,by omega⟩
def GG(p:b5)(c o:ai D):ai (aw×ai D):=[(0,cond p o c),(1,cond p c o)]
def jR(N x:aw):ai D:=(fw N x).map u32
def Jj(N x:aw):y6 (jR N x)=N:=by unfold jR;rw[apq,dz]
def zI(N x:aw):cK N (λj=>x/BP j%4294967296)=jR N x:=DY N x
def zH{N x:aw}(h:y6 (words x)<=N):D.row (words x).length aj ((jR N x).take (y6 (words x)*1))=ak (words x):=by unfold ak jR;rw[aqx,<-arL,LV h,<-sD]
def Jk{N x:aw}(h:b<N):((jR N x).drop b).headD .any=u32 (x/BP b%4294967296):=by rw[<-zI];exact lZ h
def Oa(g:aa G){N:aw}(d:∀j,z j<4294967296)(n:b<=N):
  xf G 291 [yI b aj ((cK N z).take (b*1)),nat c] (u64 (if c<b then z c else 0)):=by
 have h:=gU g ((ch b).map z) (λx a=>by simp only[ky]at a;obtain⟨j,-,rfl⟩:=a;exact d j) c;have e:ak ((ch b).map z)=yI b aj ((cK N z).take (b*1)):=by unfold ak cK;rw[aqx,<-arL,List.take_range,arQ n];simp
 have k:((ch b).map z).getD c 0=if c<b then z c else 0:=by by_cases f:c<b;simp[bP,f];simp[bP,f]
 rw[e,k]at h;exact h
def Fg(p:b5)(N y:aw)(o:ai D)(k:aw):St:=lay 21 [(0,.bG (cond p 1 0) k 1)] (GG p (jR N y) o)
def X7{N y:aw}(h:b<N)(n:N<2^45)(hw:y6 (words y)<=b):
  af zZq G 2 (ae f229 0) (Fg f N y l (b+1)) y3 (Fg f N y l b):=by
 have q:=dR;have m:=dF;have g:y/BP b%4294967296=0:=by rw[ap3 ((aS y b).1 hw)]
 have p:bJ .i64 (zNq (b+1)-1)=zNq b:=lP (a:=b+1) za za
 have o:decide (zNq (b+1)>0)=bj:=by simp only[zKq,cm];omega
 have k:(0:cA)<=zNq b/\zNq b<((b+1:aw):cA):=by simp only[zKq];omega
 have e:0<1/\b+1<=y6 (jR N y):=by rw[Jj];omega
 have d:(0:cA)<=zNq b/\zNq b<=((b+1:aw):cA):=by simp only[zKq];omega
 have c:D.ptr (cond f 1 0) ((zNq b).toNat*1)=y0 (cond f 1 0) b:=zb
 have j:(zNq (y/BP b%4294967296)==0)=bj:=by rw[g];rfl
 cases f<;>exact af.r a [.eb 5 o,.eq 10 (bL p),yu k,.eq 11 c,yu e,.eq 12 (Jk (N:=N) (x:=y) h),.eb 13 j,.eq 18 (bL p),yu d]
def ac9{N y:aw}(r:y6 (words y)<=N)(s:N<2^45):
  af zZq G 2 (ae f229 0) (Fg f N y l (words y).length) (y5 0) (Fg f N y l (words y).length):=by
 have t:=dR;have q:=dF;obtain h|h:=apv y
 ·subst h
  have p:decide (zNq (words 0).length>0)=aj:=rfl;cases f<;>exact af.r a [.eb 5 p]
 ·have j:=dY (a:=y) za
  have g:=oI (a:=y) za
  rw[mC]at g;have p:decide (zNq (words y).length>0)=bj:=by simp only[zKq,cm];omega
  have o:bJ .i64 (zNq (words y).length-1)=zNq (y6 (words y)-1):=lP (a:=y6 (words y)) za j
  have c:(0:cA)<=zNq (y6 (words y)-1)/\zNq (y6 (words y)-1)<(y6 (words y):cA):=by simp only[zKq];omega
  have e:0<1/\y6 (words y)-1+1<=y6 (jR N y):=by rw[Jj];omega
  have d:D.ptr (cond f 1 0) ((zNq (y6 (words y)-1)).toNat*1)=y0 (cond f 1 0) (y6 (words y)-1):=zb
  have b:(zNq (y/BP (y6 (words y)-1)%4294967296)==0)=aj:=by rw[c4];simp only[zKq];omega
  have m:=Jk (N:=N) (x:=y) (b:=y6 (words y)-1) za
  cases f<;>exact af.r a [.eb 5 p,.eq 10 (bL o),yu c,.eq 11 d,yu e,.eq 12 m,.eb 13 b]
def oe(p:b5){N y:aw}(o:ai D)(d:b<=N)(n:N<2^45)(hw:y6 (words y)<=b):
  aI zZq G 21 2 (.loop (ae f229 0)) (lay 21 [(0,.bG (cond p 1 0) b 1)] (GG p (jR N y) o)) (y5 0) (Fg p N y o (words y).length):=by
 refine aI.rounds (λk:aw=>k<=N/\y6 (words y)<=k) (Fg p N y o) (λk=>k) (λm=>aO _ _ _) zb (λk e=>?_) b ⟨d,hw⟩;obtain⟨g,f⟩:=e;obtain h|h:=Nat.eq_or_lt_of_le f
 right;subst h;exact ac9 a g n;left;obtain⟨c,rfl⟩:∃c,k=c+1:=⟨k-1,by omega⟩;exact⟨c,⟨by omega,by omega⟩,by omega,X7 a za n za⟩
def AZ(x i j:aw):aw:=if j<i then x/2/BP j%4294967296 else x/BP j%4294967296
def Vd(x i j:aw):AZ x i j<4294967296:=by unfold AZ;split<;>exact apP _ za
def XF(N x:aw):cK N (AZ x 0)=jR N x:=by rw[<-zI];exact aV λj _=>by unfold AZ;rw[ape za]
def aci{N x:aw}:cK N (AZ x (words x).length)=jR N (x/2):=by
 rw[<-zI];refine aV λj _=>?_
 unfold AZ;split;rfl;rename_i h;have a:x<BP j:=(aS x j).1 za;rw[ap3 a,ap3 (aqh (aqg _ _) a)]
def XG{N x:aw}(h:b<N):aE (cK N (AZ x b)) b [u32 (x/2/BP b%4294967296)]=cK N (AZ x (b+1)):=by
 rw[fP _ _ h];refine aV λj _=>?_
 unfold AZ;by_cases a:j=b;subst a;rw[aph rfl,aph za];rw[ape a];by_cases t:j<b;rw[aph t,aph za];rw[ape t,ape za]
def af9(x i:aw):(x/BP i%4294967296/2+x/BP (i+1)%4294967296*2147483648)%4294967296=x/2/BP i%4294967296:=by rw[c_,apC 4294967296,<-apO,apO x 2,apC 2,<-apO];generalize x/BP i=q;omega
def B7(p:b5)(N x:aw)(o:ai D)(i:aw):St:=
 lay 26 [(0,.bG (cond p 1 0) (words x).length 1),(5,nat (words x).length),(6,nat i)] (GG p (cK N (AZ x i)) o)
def ZL(x:aw):(zNq x).fdiv (2^min (ga 1) (cn .u64))=zNq (x/2):=ahc (x:=x) (a:=1) za
def Wq{x:aw}(h:x<4294967296):bJ .u64 (zNq x*2^min (ga 31) (cn .u64))=zNq (x*2147483648):=by rw[show(2:cA)^min (ga 31) (cn .u64)=zNq 2147483648 by decide];exact wrap_mul za
def XE(d:aa G){N x:aw}(o:y6 (words x)<=N)(q:N<2^45)(p:b<y6 (words x)):
    af zZq G 2 (ae f226 0) (B7 f N x l b) y3 (B7 f N x l (b+1)):=by
  have r:=dR;have m:=dF;have a1:=Oa d (N:=N) (b:=y6 (words x)) (c:=b) (Vd x b) o;have g:=Oa d (N:=N) (b:=y6 (words x)) (c:=b+1) (Vd x b) o;have f1:(if b<y6 (words x) then AZ x b b else 0)=x/BP b%4294967296:=by rw[aph p];unfold AZ;rw[ape za]
  have f2:(if b+1<y6 (words x) then AZ x b (b+1)else 0)=x/BP (b+1)%4294967296:=by
    split
    · unfold AZ;rw[ape za]
    · rw[ap3 ((aS x (b+1)).1 za)]
  rw[f1]at a1;rw[f2]at g;have hw:x/BP b%4294967296<4294967296:=apP _ za
  have i:x/BP (b+1)%4294967296<4294967296:=apP _ za
  have a:bJ .u64 (((di (cn .u64) (zNq (x/BP b%4294967296/2))|||di (cn .u64) (zNq (x/BP (b+1)%4294967296*2147483648))).toNat:aw):cA)
      =zNq (x/BP b%4294967296/2+x/BP (b+1)%4294967296*2147483648):=by
    rw[Ak za za]
    have:=aaY (a:=31) (x:=x/BP (b+1)%4294967296) (y:=x/BP b%4294967296/2) (by rw[show(2:aw)^31=2147483648 by decide];omega)
    rw[show(2:aw)^31=2147483648 by decide]at this
    rw[this]
  have c:bJ .u32 (zNq (x/BP b%4294967296/2+x/BP (b+1)%4294967296*2147483648))=zNq (x/2/BP b%4294967296):=by rw[iL,af9]
  have k:(0:cA)<=zNq b/\zNq b<(y6 (words x):cA):=dk p;have h:D.ptr (cond f 1 0) ((zNq b).toNat*1)=y0 (cond f 1 0) b:=zb
  have j:b+1<=y6 (cK N (AZ x b)):=by rw[dw];omega
  have s1:bJ .i64 (zNq b+1)=zNq (b+1):=b7 za
  have e:B7 f N x l (b+1)=lay 26 [(0,.bG (cond f 1 0) (words x).length 1),(5,nat (words x).length),(6,nat (b+1))] (GG f (aE (cK N (AZ x b)) b [u32 (x/2/BP b%4294967296)]) l):=by
    rw[XG za];rfl
  rw[e];clear e;cases f<;>exact af.r d [.eb 7 (ah p),z3 a1,.eq 14 (bz (ZL (x/BP b%4294967296))),.eq 17 (bL s1),z3 g,.eq 19 (bz (Wq i)),.eq 20 (bz a),.eq 21 (gR c),
     yu k,.eq 22 h,yu j,.eq 23 (bL s1)]
def ach{N x:aw}:
  af zZq G 2 (ae f226 0) (B7 f N x l (words x).length) (y5 0) (B7 f N x l (words x).length):=by
 cases f<;>exact af.r a [.eb 7 (av (apc (words x).length))]
def wP(p:b5){N x:aw}(o:ai D)(b:y6 (words x)<=N)(d:N<2^45):
  aI zZq G 26 2 (.loop (ae f226 0)) (lay 26 [(0,.bG (cond p 1 0) (words x).length 1),(5,nat (words x).length),(6,nat 0)] (GG p (jR N x) o)) (y5 0)
   (lay 26 [(0,.bG (cond p 1 0) (words x).length 1),(5,nat (words x).length),(6,nat (words x).length)] (GG p (jR N (x/2)) o)):=by
 have h:=aI.count (B7 p N x o) (words x).length (λk=>aO _ _ _) zb (λi c=>XE a b d c) (ach a);unfold B7 at h;rw[XF,aci]at h;exact h
def HE(p:b5)(b a X Y t:aw):St:=
 lay 31 [(0,.bG (cond p 1 0) (words X).length 1),(1,.bG (cond p 0 1) (words Y).length 1),(4,u64 (fM X Y t)),(8,nat (words X).length),(9,nat t)] (GG p (cK b (tY X Y t)) (jR a Y))
def Zy(h:aa G)(A:y6 (words g)<=b)(z:y6 (words p)<=c)(hle:p<=g)(C:b<2^45)(t:r<y6 (words g)):
    af zZq G 2 (ae f228 0) (HE f b c g p r) y3 (HE f b c g p (r+1)):=by
  have H:=dR;have B:=dF;have w:=N2 (g:=r) hle;have v:=JE (c:=g) (b:=p) (g:=r);have m:g/BP r%4294967296<4294967296:=apP _ za
  have F:p/BP r%4294967296<4294967296:=apP _ za
  have E:=ye g p r;have a1:=Oa h (N:=b) (b:=y6 (words g)) (c:=r) (T_ g p r) A;have f1:(if r<y6 (words g) then tY g p r r else 0)=g/BP r%4294967296:=by rw[aph t];unfold tY;rw[ape za]
  rw[f1]at a1;have o:=gU h (words p) (aU _) r;rw[mC,<-zH z]at o;have u:=NZ (x:=g/BP r%4294967296) (y:=p/BP r%4294967296) (c:=fM g p r) m;have j:bJ .u32 (zNq (N3 (g/BP r%4294967296) (p/BP r%4294967296) (fM g p r)))=zNq ((g-p)/BP r%4294967296):=by rw[iL,w]
  have eb:bJ .u64 (1-zNq (N3 (g/BP r%4294967296) (p/BP r%4294967296) (fM g p r)/4294967296))=zNq (fM g p (r+1)):=by rw[Iq u,v]
  have k:bJ .u64 (zNq (4294967296+g/BP r%4294967296-p/BP r%4294967296)-zNq (fM g p r))=zNq (N3 (g/BP r%4294967296) (p/BP r%4294967296) (fM g p r)):=tD za za
  have l:bJ .u64 (zNq (4294967296+g/BP r%4294967296)-zNq (p/BP r%4294967296))=zNq (4294967296+g/BP r%4294967296-p/BP r%4294967296):=tD za za
  have s:(0:cA)<=zNq r/\zNq r<(y6 (words g):cA):=dk t;have q:D.ptr (cond f 1 0) ((zNq r).toNat*1)=y0 (cond f 1 0) r:=zb
  have Y:r+1<=y6 (cK b (tY g p r)):=by rw[dw];omega
  have s1:bJ .i64 (zNq r+1)=zNq (r+1):=b7 za
  have e:HE f b c g p (r+1)=lay 31 [(0,.bG (cond f 1 0) (words g).length 1),(1,.bG (cond f 0 1) (words p).length 1),(4,u64 (fM g p (r+1))),(8,nat (words g).length),(9,nat (r+1))]
      (GG f (aE (cK b (tY g p r)) r [u32 ((g-p)/BP r%4294967296)]) (jR c p)):=by
    rw[KW za];rfl
  rw[e];clear e;cases f<;>exact af.r h [.eb 10 (ah t),z3 a1,.eq 15 (bz (VO m)),z3 o,.eq 19 (bz l),.eq 21 (bz k),.eq 25 (gR j),.eq 27 (bz (sU (N3 (g/BP r%4294967296) (p/BP r%4294967296) (fM g p r)))),.eq 28 (bz eb),
     yu s,.eq 29 q,yu Y,.eq 30 (bL s1)]
def aeC:
  af zZq G 2 (ae f228 0) (HE f b c g p (words g).length) (y5 0) (HE f b c g p (words g).length):=by
 cases f<;>exact af.r a [.eb 10 (av (apc (words g).length))]
def We{N:aw}:cK N (tY b c (words b).length)=jR N (b-c):=by
 rw[<-zI];refine aV λj _=>?_
 unfold tY;split;rfl;rename_i h;have a:b<BP j:=(aS b j).1 za;rw[ap3 a,ap3 (aqh (arh _ _) a)]
def GM(Y:b5)(f:y6 (words g)<=c)(e:y6 (words p)<=b)(hle:p<=g)(X:c<2^45):
  aI zZq G 31 2 (.loop (ae f228 0))
   (lay 31 [(0,.bG (cond Y 1 0) (words g).length 1),(1,.bG (cond Y 0 1) (words p).length 1),(4,u64 0),(8,nat (words g).length),(9,nat 0)] (GG Y (jR c g) (jR b p))) (y5 0)
   (lay 31 [(0,.bG (cond Y 1 0) (words g).length 1),(1,.bG (cond Y 0 1) (words p).length 1),(4,u64 (fM g p (words g).length)),(8,nat (words g).length),(9,nat (words g).length)] (GG Y (jR c (g-p)) (jR b p))):=by
 have h:=aI.count (HE Y c b g p) (words g).length (λk=>aO _ _ _) zb (λi d=>Zy a f e hle X d) (aeC a);unfold HE at h;rw[We,KV,zI,wZ]at h;exact h
def AB(N0 N1 tw:aw)(s:GS):St:=
 lay 72 [(0,.bG (cond s.sw 1 0) (words s.a).length 1),(1,.bG (cond s.sw 0 1) (words s.b).length 1),(5,nat tw)] (GG s.sw (jR (cond s.sw N1 N0) s.a) (jR (cond s.sw N0 N1) s.b))
def pE(h:0<b):(0:cA)<=0/\(0:cA)<(y6 (words b):cA):=by have:=dY (a:=b) za;omega
def km{N:aw}(h:0<b)(a:y6 (words b)<=N):0<1/\0+1<=y6 (jR N b):=by have:=dY (a:=b) za;rw[Jj];omega
def mA{N:aw}(h:0<b)(a:y6 (words b)<=N):((jR N b).drop 0).headD .any=u32 (b/BP 0%4294967296):=Jk (by have:=dY (a:=b) za;omega)
def zero_and(a:aw):bJ .u32 (((di (cn .u32) (zNq (a/BP 0%4294967296))&&&di (cn .u32) 1).toNat:aw):cA)=zNq (a%2):=by rw[VK (apP _ za),iJ,aqP];congr 1;omega
def qY(h:b%2=0):(zNq (b%2)==0)=bj:=by rw[h];rfl
def xZ(h:¬b%2=0):(zNq (b%2)==0)=aj:=by rw[c4];simp only[zKq];omega
def wJ(a:aw):y6 (words (a/2))<=y6 (words a):=cz (aqg _ _)
def ZY(e:aa G){N0 N1 tw:aw}{sw:b5}{a b:aw}(d:0<a)(f:a%2=0)(c:(words a).length<=cond sw N1 N0)(h:N0<2^45)(g:N1<2^45):
    af zZq G 0 (ae f167 2) (AB N0 N1 tw ⟨sw,a,b⟩) .normal (AB N0 N1 tw ⟨sw,a/2,b⟩):=by
  cases sw;exact af.r e [.prop (pE d),.prop (km d c),.eq 41 (mA d c),.eq 42 (gR (zero_and a)),.eb 43 (qY f),
      .inl [] func226,.code (wP e aj (x:=a) (jR N1 b) c h),.inl [] func229,.code (oe e aj (y:=a/2) (jR N1 b) c h (wJ a))]
  exact af.r e [.prop (pE d),.prop (km d c),.eq 41 (mA d c),.eq 42 (gR (zero_and a)),.eb 43 (qY f),
      .inl [] func226,.code (wP e bj (x:=a) (jR N0 b) c g),.inl [] func229,.code (oe e bj (y:=a/2) (jR N0 b) c g (wJ a))]
def ae'(tw:0<p)(e:¬p%2=0)(d:y6 (words p)<=cond f c b):
  xo G (ae f167 2) (AB b c g ⟨f,p,r⟩) (y5 4) (AB b c g ⟨f,p,r⟩):=by
 cases f<;>exact af.r a [yu (pE tw),yu (km tw d),.eq 41 (mA tw d),.eq 42 (gR (zero_and p)),.eb 43 (xZ e)]
def jW(i:0<b)(h:∀k<c,b/2^k%2=0):0<b/2^c:=by
 induction c with
 |zero=>rw[asS,aqP];exact i
 |succ c a=>
  have f:=a λk d=>h k za
  have e:=h c za;rw[pd];omega
def GU(tw:aa G)(a:0<p)(N0:y6 (words p)<=cond f c b)(m:b<2^45)(l:c<2^45):
  aI zZq G 72 0 (.loop (ae f167 2)) (AB b c g ⟨f,p,r⟩) (y5 4) (AB b c g ⟨f,fF p,r⟩):=by
 have hlen:∀i,y6 (words (p/2^i))<=cond f c b:=λi=>apm (cz (aqg _ _)) N0
 have h:=aI.count (P:=zZq) (Good:=G) (a:=0) (l:=ae f167 2) (t:=y5 4) (j:=AB b c g ⟨f,p/2^tz p,r⟩) (λi=>AB b c g ⟨f,p/2^i,r⟩) (tz p) (λi=>aO _ _ _) zb
  (λi j=>by
   have:=ZY tw (tw:=g) (sw:=f) (b:=r) (jW a λk d=>xj a za) (xj a j) (hlen i) m l
   rwa [<-pd]at this)
  (ae' tw (jW a λk d=>xj a d) (by have:=Mu a;omega) (hlen _))
 simp only[mb,ql]at h;exact h
def ZW(e:aa G){N0 N1 tw:aw}{sw:b5}{a b:aw}(d:0<b)(f:b%2=0)(c:(words b).length<=cond sw N0 N1)(h:N0<2^45)(g:N1<2^45):
    af zZq G 0 (ae f167 3) (AB N0 N1 tw ⟨sw,a,b⟩) .normal (AB N0 N1 tw ⟨sw,a,b/2⟩):=by
  cases sw;exact af.r e [.prop (pE d),.prop (km d c),.eq 48 (mA d c),.eq 49 (gR (zero_and b)),.eb 50 (qY f),
      .inl [] func226,.code (wP e bj (x:=b) (jR N0 a) c g),.inl [] func229,.code (oe e bj (y:=b/2) (jR N0 a) c g (wJ b))]
  exact af.r e [.prop (pE d),.prop (km d c),.eq 48 (mA d c),.eq 49 (gR (zero_and b)),.eb 50 (qY f),
      .inl [] func226,.code (wP e aj (x:=b) (jR N1 a) c h),.inl [] func229,.code (oe e aj (y:=b/2) (jR N1 a) c h (wJ b))]
def ae_(tw:0<r)(e:¬r%2=0)(d:y6 (words r)<=cond f b c):
  xo G (ae f167 3) (AB b c g ⟨f,p,r⟩) (y5 6) (AB b c g ⟨f,p,r⟩):=by
 cases f<;>exact af.r a [yu (pE tw),yu (km tw d),.eq 48 (mA tw d),.eq 49 (gR (zero_and r)),.eb 50 (xZ e)]
def GR(tw:aa G)(a:0<r)(N0:y6 (words r)<=cond f b c)(m:b<2^45)(l:c<2^45):
  aI zZq G 72 0 (.loop (ae f167 3)) (AB b c g ⟨f,p,r⟩) (y5 6) (AB b c g ⟨f,p,fF r⟩):=by
 have hlen:∀i,y6 (words (r/2^i))<=cond f b c:=λi=>apm (cz (aqg _ _)) N0
 have h:=aI.count (P:=zZq) (Good:=G) (a:=0) (l:=ae f167 3) (t:=y5 6) (j:=AB b c g ⟨f,p,r/2^tz r⟩) (λi=>AB b c g ⟨f,p,r/2^i⟩) (tz r) (λi=>aO _ _ _) zb
  (λi j=>by
   have:=ZW tw (tw:=g) (sw:=f) (a:=p) (jW a λk d=>xj a za) (xj a j) (hlen i) m l
   rwa [<-pd]at this)
  (ae_ tw (jW a λk d=>xj a d) (by have:=Mu a;omega) (hlen _))
 simp only[mb,ql]at h;exact h
def DT(h:c<b):decide (j9 c b<0)=bj:=by unfold j9;rw[aph h];rfl
def Bk(h:¬c<b):decide (j9 c b<0)=aj:=by unfold j9;rw[ape h];split<;>rfl
def AL(d:aa G)(f:y6 (words p)<=g)(e:y6 (words b)<=c)(j:g<2^45)(i:c<2^45):
  xf G 227 [yI (words p).length aj ((jR g p).take (y6 (words p)*1)),yI (words b).length aj ((jR c b).take (y6 (words b)*1))] (int (j9 p b)):=by
 have h:=vF d (d:=words p) (e:=words b) (aU _) (aU _) za za;rw[aK,aK]at h;rw[zH f,zH e];exact h
def acq(c:aa G){N0 N1 tw:aw}(e:N0<2^45)(d:N1<2^45){s:GS}(l:s.fits N0 N1)(j:0<s.a)(k:0<s.b):
    af zZq G 0 (ae f167 1) (AB N0 N1 tw s) .normal (AB N0 N1 tw s.next):=by
  obtain⟨sw,a,b⟩:=s;have n:=cz (Am a);have o:=cz (Am b);have m:decide (zNq (words a).length>0)=bj:=by rw[o_];exact apE j
  unfold GS.next
  simp only at j k⊢;by_cases i:fF a<fF b
  · rw[aph i]
    have h:=cz (arh (fF b) (fF a));cases sw
    · obtain⟨f1,f2⟩:=l
      have f1:(words a).length<=N0:=f1;have f2:(words b).length<=N1:=f2;have g:(words (fF a)).length<=N0:=za
      have f:(words (fF b)).length<=N1:=za
      exact af.r c [.eb 38 m,.code (GU c (g:=tw) (f:=aj) (r:=b) j f1 e d),.code (GR c (g:=tw) (f:=aj) (p:=fF a) k f2 e d),.call (AL c g f e d),.eb 56 (DT i),
         .inl [] func228,.code (GM c bj f g (apU i) d),.inl [] func229,.code (oe c bj (y:=fF b-fF a) (jR N0 (fF a)) f d h)]
    · obtain⟨f1,f2⟩:=l
      have f1:(words b).length<=N0:=f1;have f2:(words a).length<=N1:=f2;have g:(words (fF b)).length<=N0:=za
      have f:(words (fF a)).length<=N1:=za
      exact af.r c [.eb 38 m,.code (GU c (g:=tw) (f:=bj) (r:=b) j f2 e d),.code (GR c (g:=tw) (f:=bj) (p:=fF a) k f1 e d),.call (AL c f g d e),.eb 56 (DT i),
         .inl [] func228,.code (GM c aj g f (apU i) e),.inl [] func229,.code (oe c aj (y:=fF b-fF a) (jR N1 (fF a)) g e h)]
  · rw[ape i]
    have h:=cz (arh (fF a) (fF b));cases sw
    · obtain⟨f1,f2⟩:=l
      have f1:(words a).length<=N0:=f1;have f2:(words b).length<=N1:=f2;have g:(words (fF a)).length<=N0:=za
      have f:(words (fF b)).length<=N1:=za
      exact af.r c [.eb 38 m,.code (GU c (g:=tw) (f:=aj) (r:=b) j f1 e d),.code (GR c (g:=tw) (f:=aj) (p:=fF a) k f2 e d),.call (AL c g f e d),.eb 56 (Bk i),
         .inl [] func228,.code (GM c aj g f za e),.inl [] func229,.code (oe c aj (y:=fF a-fF b) (jR N1 (fF b)) g e h)]
    · obtain⟨f1,f2⟩:=l
      have f1:(words b).length<=N0:=f1;have f2:(words a).length<=N1:=f2;have g:(words (fF b)).length<=N0:=za
      have f:(words (fF a)).length<=N1:=za
      exact af.r c [.eb 38 m,.code (GU c (g:=tw) (f:=bj) (r:=b) j f2 e d),.code (GR c (g:=tw) (f:=bj) (p:=fF a) k f1 e d),.call (AL c f g d e),.eb 56 (Bk i),
         .inl [] func228,.code (GM c bj f g za d),.inl [] func229,.code (oe c bj (y:=fF a-fF b) (jR N0 (fF b)) f d h)]
def aga:xo G (ae f167 1) (AB c g p ⟨f,0,b⟩) (y5 2) (AB c g p ⟨f,0,b⟩):=by have tw:decide (zNq (words 0).length>0)=aj:=rfl;cases f<;>exact af.r a [.eb 38 tw]
def af'(j:aa G)(r:b<2^45)(q:c<2^45)(p:w.fits b c)(d:0<w.b)(h:c8 w.a w.b%2=1):
  ∃sw,(GS.mk sw 0 (c8 w.a w.b)).fits b c/\aI zZq G 72 0 (.loop (ae f167 1)) (AB b c g w) (y5 2) (AB b c g ⟨sw,0,c8 w.a w.b⟩):=by
 obtain⟨T,f,a⟩:=GS.stops d h;have N0:∀i,(w.nth i).fits b c:=λi=>by
  induction i with
  |zero=>exact p
  |succ i l=>exact GS.W5 l
 have k:w.nth T=⟨(w.nth T).sw,0,c8 w.a w.b⟩:=by obtain⟨-,tw,-⟩:=GS.run d h T f;rw[a,asN]at tw;cases m:w.nth T;rw[m]at a tw;simp only at a tw⊢;rw[a,tw]
 refine⟨(w.nth T).sw,by rw[<-k];exact N0 T,?_⟩;have n:=aI.count (P:=zZq) (Good:=G) (a:=0) (l:=ae f167 1) (t:=y5 2) (j:=AB b c g ⟨(w.nth T).sw,0,c8 w.a w.b⟩) (λi=>AB b c g (w.nth i)) T (λi=>aO _ _ _) zb
  (λi o=>acq j r q (N0 i) (f i o) (GS.run d h i λt u=>f t za).1)
  (by have:=aga j (c:=b) (g:=c) (p:=g) (b:=c8 w.a w.b) (f:=(w.nth T).sw);rw[<-k]at this⊢;exact this)
 exact n
def TE(c:aa G){N0 N1 k a b:aw}(j:0<a)(h:0<b)(g:a%2=0)(f:b%2=0)(m:N0<2^45)(l:N1<2^45)(d:(words a).length<=N0)(e:(words b).length<=N1)(p:k<2^59):
    af zZq G 0 (ae f167 0) (AB N0 N1 k ⟨aj,a,b⟩) .normal (AB N0 N1 (k+1) ⟨aj,a/2,b/2⟩):=by
  have n:=Hp;have o:=dF;exact af.r c [.prop (pE j),.prop (km j d),.eq 20 (mA j d),.eq 21 (gR (zero_and a)),.eb 22 (qY g),
     .prop (pE h),.prop (km h e),.eq 26 (mA h e),.eq 27 (gR (zero_and b)),.eb 28 (qY f),
     .inl [] func226,.code (wP c aj (x:=a) (jR N1 b) d m),.inl [] func229,.code (oe c aj (y:=a/2) (jR N1 b) d m (wJ a)),
     .inl [] func226,.code (wP c bj (x:=b) (jR N0 (a/2)) e l),.inl [] func229,.code (oe c bj (y:=b/2) (jR N0 (a/2)) e l (wJ b)),
     .eq 35 (bL (b7 (a:=k) za))]
def Yr(d:0<r)(k:0<b)(l:¬(r%2=0/\b%2=0))(e:y6 (words r)<=c)(i:y6 (words b)<=g):
    xo G (ae f167 0) (AB c g p ⟨aj,r,b⟩) (y5 0) (AB c g p ⟨aj,r,b⟩):=by
  by_cases j:r%2=0
  · have f:¬b%2=0:=λh=>l ⟨j,h⟩
    exact af.r a [yu (pE d),yu (km d e),.eq 20 (mA d e),.eq 21 (gR (zero_and r)),.eb 22 (qY j),
       yu (pE k),yu (km k i),.eq 26 (mA k i),.eq 27 (gR (zero_and b)),.eb 28 (xZ f)]
  · exact af.r a [yu (pE d),yu (km d e),.eq 20 (mA d e),.eq 21 (gR (zero_and r)),.eb 22 (xZ j)]
def Rv(a:0<c):∃T,(∀t<T,c/2^t%2=0/\b/2^t%2=0)/\¬(c/2^T%2=0/\b/2^T%2=0):=
 Cb (P:=λt=>c/2^t%2=0/\b/2^t%2=0) (tz c) λh=>by have:=Mu a;omega
def OC{a b:aw}:∀T,(∀t<T,a/2^t%2=0/\b/2^t%2=0)->2^T*c8 (a/2^T) (b/2^T)=c8 a b
 |0,_=>by rw[asS,aqP,aqP,aqw]
 |T+1,h=>by
  have c:=OC T λt f=>h t za
  obtain⟨i,g⟩:=h T za
  have e:a/2^T=2*(a/2^(T+1)):=by rw[pd];omega
  have d:b/2^T=2*(b/2^(T+1)):=by rw[pd];omega
  rw[<-c,e,d,gcd_both,apK,apx]
def agb(h:¬(c%2=0/\b%2=0)):c8 c b%2=1:=by
 rcases sn (c8 c b)with e|e
 have a:2∣c8 c b:=vy e;have f:=Nat.dvd_trans a (asl c b);have d:=Nat.dvd_trans a (asf c b);exact api ⟨ash f,ash d⟩ h;exact e
def Yq(m:aa G){T:aw}(l:0<p)(j:0<b)(u:c<2^45)(s:g<2^45)(N0:y6 (words p)<=c)(q:y6 (words b)<=g)
  (a:∀t<T,p/2^t%2=0/\b/2^t%2=0) (o:¬(p/2^T%2=0/\b/2^T%2=0)) (r:T<2^59):
  aI zZq G 72 0 (.loop (ae f167 0)) (AB c g 0 ⟨aj,p,b⟩) (y5 0) (AB c g T ⟨aj,p/2^T,b/2^T⟩):=by
 have d:∀i,y6 (words (p/2^i))<=c:=λi=>apm (cz (aqg _ _)) N0
 have n:∀i,y6 (words (b/2^i))<=g:=λi=>apm (cz (aqg _ _)) q
 have h:=aI.count (P:=zZq) (Good:=G) (a:=0) (l:=ae f167 0) (t:=y5 0) (j:=AB c g T ⟨aj,p/2^T,b/2^T⟩) (λi=>AB c g i ⟨aj,p/2^i,b/2^i⟩) T (λi=>aO _ _ _) zb
  (λi N1=>by
   have:=TE m (k:=i) (jW l λk f=>(a k za).1) (jW j λk f=>(a k za).2) (a i N1).1 (a i N1).2 u s (d i) (n i) za
   rwa [<-pd,<-pd]at this)
  (Yr m (jW l λk f=>(a k f).1) (jW j λk f=>(a k f).2) o (d _) (n _))
 simp only[mb,ql]at h;exact h
def FQ(d:y6 (words c)<=2^44)(e:y6 (words b)<=2^44):xf G 230 [ak (words c),ak (words b)] (ak (words (c+b))):=by
 have:=RV a (aU c) (aU b) d e
 rwa [aK,aK]at this
def QF(T g i:aw):St:=lay 72 [(1,ak (words (2^i*g))),(64,nat T),(65,nat i)] []
def agr(a:aa G){T:aw}(j:T<2^59)(c:y6 (words (2^T*g))<=2^44):
  aI zZq G 72 0 (.loop (ae f167 4)) (lay 72 [(1,ak (words g)),(64,nat T),(65,nat 0)] []) (y5 8) (QF T g T):=by
 have d:=Hp;have f:=dF;have h:=aI.count (P:=zZq) (Good:=G) (a:=0) (l:=ae f167 4) (t:=y5 8) (j:=QF T g T) (QF T g) T (λi=>aO _ _ _) zb
  (λi b=>by
   have hle:y6 (words (2^i*g))<=2^44:=apm (cz (apB g (apI za (apU b)))) c
   have e:2^(i+1)*g=2^i*g+2^i*g:=by rw[apK];grind
   unfold QF;rw[e];exact af.r a [.eb 66 (ah b),z3 (FQ a hle hle),.eq 70 (bL (b7 (a:=i) za))])
  (af.r a [.eb 66 (av (apc T))])
 unfold QF at h;simp only[mb,Nat.one_mul]at h;exact h
def KP(n:aw)(b:0<n)(h:n<=2^44)(l:ai D)(c:y6 l=n):0<n/\y6 ([]:ai D)=0*1/\y6 l=n*1/\0+n<=2^62/\(0+n)*4<=2^47:=by have e:=dS;have a:=Bv;have d:=xe;exact⟨b,rfl,by omega,by omega,by omega⟩
def O5(c:y6 (words b)<=2^44):xf G 167 [ak (words 0),ak (words b)] (ak (words b)):=by have e:=dS;have d:=dR;have t1:=jg a (aU 0) zv;have t2:=jg a (aU b) za;rw[aK]at t1 t2;exact Spec.r a func167 [] [z3 t1,z3 t2,.eb 12 (x:=(zNq (words 0).length==0)) (y:=bj) rfl]
def O4(h:0<b)(c:y6 (words b)<=2^44):xf G 167 [ak (words b),ak (words 0)] (ak (words b)):=by have e:=dS;have d:=dR;have t1:=jg a (aU b) za;have t2:=jg a (aU 0) zv;rw[aK]at t1 t2;exact Spec.r a func167 [] [z3 t1,z3 t2,.eb 12 (mB h),.eb 16 (x:=(zNq (words 0).length==0)) (y:=bj) rfl]
def WA(j:aa G){a b:aw}(o:0<a)(B:0<b)(O:(words a).length<=2^44)(V:(words b).length<=2^44):
    Spec zZq G 167 [ak (words a),ak (words b)] (ak (words (c8 a b))):=by
  have AA:=dS;have Bi:=dR;have X:=Hp;have Z:=dF;have la:=dY (a:=a) za
  have K:=dY (a:=b) za
  obtain⟨T,m,L⟩:=Rv (b:=b) o;have W:T<=32*(words a).length:=by
    obtain e|e:=apv T
    · omega
    · have U:=jW o (c:=T) λk p=>(m k p).1
      have h1:2^T<=a:=by
        rcases apy a (2^T)with q|q
        · rw[ap3 q]at U;omega
        · exact q
      have Y:=(aS a _).1 (apc _);rw[z_]at Y;obtain q|q:=apy (32*(words a).length) T
      · have:=apI (n:=2) za (apU q);omega
      · exact q
  have N:=OC T m;have u:=agb L;have s:=jW B (c:=T) λk p=>(m k p).2
  have f:=Yq j (c:=(words a).length) (g:=(words b).length) o B za za (apc _) (apc _) m L za
  have t:AB (words a).length (words b).length 0 ⟨aj,a,b⟩=lay 72 [(0,.bG 0 (0+(words a).length) 1),(1,.bG 1 (0+(words b).length) 1),(5,nat 0)] [(0,[]++(words a).map u32),(1,[]++(words b).map u32)]:=by
    unfold AB GG jR;simp only[cond,qq,lp];rw[<-sD,<-sD]
  rw[t]at f;have S:(GS.mk aj (a/2^T) (b/2^T)).fits (words a).length (words b).length:=⟨cz (aqg _ _),cz (aqg _ _)⟩;obtain⟨R,r,h⟩:=af' j (b:=(words a).length) (c:=(words b).length) (g:=T) za za S s u
  simp only at r h;generalize G9:c8 (a/2^T) (b/2^T)=g at*;have hle:(words (2^T*g)).length<=2^44:=by rw[N];exact apm (cz (Nat.gcd_le_left b o)) O
  have c:=agr j (T:=T) (g:=g) za hle
  have Q:decide (zNq (0+(words a).length)>0)=bj:=by simp only[zKq,cm];omega
  have P:decide (zNq (0+(words b).length)>0)=bj:=by simp only[zKq,cm];omega
  have H:bJ .i64 (zNq (0+(words a).length)-1)=zNq ((words a).length-1):=by rw[aqa];exact lP za la
  have F:bJ .i64 (zNq (0+(words b).length)-1)=zNq ((words b).length-1):=by rw[aqa];exact lP za K
  have M:(0:cA)<=zNq ((words a).length-1)/\zNq ((words a).length-1)<((0+(words a).length:aw):cA):=by simp only[zKq];omega
  have ib:(0:cA)<=zNq ((words b).length-1)/\zNq ((words b).length-1)<((0+(words b).length:aw):cA):=by simp only[zKq];omega
  have E:D.ptr 0 ((zNq ((words a).length-1)).toNat*1)=.ptr 0 ((words a).length-1):=zb
  have C:D.ptr 1 ((zNq ((words b).length-1)).toNat*1)=.ptr 1 ((words b).length-1):=zb
  have A:0<1/\(words a).length-1+1<=([]++(words a).map u32).length:=by rw[aq0,apq];omega
  have z:0<1/\(words b).length-1+1<=([]++(words b).map u32).length:=by rw[aq0,apq];omega
  have ca:(([]++(words a).map u32).drop ((words a).length-1)).headD .any=u32 ((words a).getD ((words a).length-1) 0):=by
    have:=EX (b:=words a) (a:=(words a).length-1) za
    rw[aqx]at this;exact this
  have cb:(([]++(words b).map u32).drop ((words b).length-1)).headD .any=u32 ((words b).getD ((words b).length-1) 0):=by
    have:=EX (b:=words b) (a:=(words b).length-1) za
    rw[aqx]at this;exact this
  have w:(zNq ((words a).getD ((words a).length-1) 0)==0)=aj:=by rw[c4];have:=oI (a:=a) za;simp only[zKq];omega
  have v:(zNq ((words b).getD ((words b).length-1) 0)==0)=aj:=by rw[c4];have:=oI (a:=b) za;simp only[zKq];omega
  have y:(zNq (0+(words a).length)==0)=aj:=by rw[c4];simp only[zKq];omega
  have x:(zNq (0+(words b).length)==0)=aj:=by rw[c4];simp only[zKq];omega
  have J:=KP (words a).length la O ((words a).map u32) zb
  have I:=KP (words b).length K V ((words b).map u32) zb
  rw[<-N];cases R
  · have d:(words g).length<=(words b).length:=r.2
    rw[<-zH d]at c;exact Spec.r j func167 [] [.inl [] func225,.prop J,.eb 9 Q,.eq 14 (bL H),.prop M,.eq 15 E,.prop A,.eq 16 ca,.eb 17 w,
       .inl [] func225,.prop I,.eb 9 P,.eq 14 (bL F),.prop ib,.eq 15 C,.prop z,.eq 16 cb,.eb 17 v,
       .eb 12 y,.eb 16 x,.code f,.code h,.freeze 1,.code c]
  · have d:(words g).length<=(words a).length:=r.1
    rw[<-zH d]at c;exact Spec.r j func167 [] [.inl [] func225,.prop J,.eb 9 Q,.eq 14 (bL H),.prop M,.eq 15 E,.prop A,.eq 16 ca,.eb 17 w,
       .inl [] func225,.prop I,.eb 9 P,.eq 14 (bL F),.prop ib,.eq 15 C,.prop z,.eq 16 cb,.eb 17 v,
       .eb 12 y,.eb 16 x,.code f,.code h,.freeze 0,.code c]
def Wz(f:y6 (words c)<=2^44)(e:y6 (words b)<=2^44):
  xf G 167 [ak (words c),ak (words b)] (ak (words (c8 c b))):=by
 obtain h|h:=apv c
 subst h;rw[asN];exact O5 a e;obtain d|d:=apv b
 subst d;rw[Nat.gcd_zero_right];exact O4 a h f;exact WA a h d f e
def MF(d:y6 (words c)<=2^44)(e:y6 (words b)<=2^44):xf G 327 [ak (words c),ak (words b)] (ak (words (c*b))):=by
 have:=OV a (aU c) (aU b) d e
 rwa [aK,aK]at this
def CV(d:y6 (words c)<=2^44)(h:b<=c):xf G 290 [ak (words c),ak (words b)] (ak (words (c-b))):=by
 have:=O1 a (aU c) (aU b) (by rw[aK,aK];exact h) d
 rwa [aK,aK]at this
def H9(e:y6 (words c)<=2^44)(d:y6 (words b)<=2^44):xf G 227 [ak (words c),ak (words b)] (int (j9 c b)):=by
 have g:=dS;have f:=dR;have:=vF a (aU c) (aU b) za za
 rwa [aK,aK]at this
def uP(hs:f=bj->0<b)(n:y6 (words b)<=2^44):xf G 106 [wv f b] (int (if b=0 then 0 else if f then -1 else 1)):=by
 obtain rfl|h:=apv b
 exact Spec.r a func106 [1] [z3 (eU a hs n)];rw[ape za];cases f<;>exact Spec.r a func106 [1] [z3 (eU a hs n),.eb 6 (mB h),z3 (dC a hs n)]
def Oe(a:aa G){s:b5}{n:aw}(hs:s=bj->0<n)(b:(words n).length<=2^44):Spec zZq G 224 [wv s n] (wv (!s&&decide (0<n)) n):=by
 cases s with
 |false=>exact Spec.r a func224 [1] [.call (dC a hs b),.call (eU a hs b),.call (lI a bj b)]
 |true=>exact Spec.r a func224 [1] [.call (dC a hs b),.call (eU a hs b),.call (lI a aj b)]
def agV(hs:f=bj->0<b)(n:u=bj->0<c)(e:Sz b)(d:Sz c):
  xf G 299 [wv f b,wv u c] (wv (rf f u&&decide (0<b*c)) (b*c)):=by
 have h:=tP;have i:=dS;have g:y6 (words (b*c))<=2^44:=by have:=G2 (c:=b) (b:=c);unfold Sz at e d;omega
 have hw:=lI a (rf f u) g;cases f<;>cases u<;>
  exact Spec.r a func299 [2,3] [z3 (dC a hs e.aW),z3 (dC a n d.aW),z3 (eU a hs e.aW),z3 (eU a n d.aW),z3 (MF a e.aW d.aW),z3 hw]
def YG(s:b5)(hs:s=bj->0<b)(f:s=bj->0<c)(d:Sz b)(e:Sz c):
  xf G 223 [wv s b,wv s c] (wv (s&&decide (0<b+c)) (b+c)):=by
 have h:=tP;have i:=dS;have g:y6 (words (b+c))<=2^44:=by have:=G3 (c:=b) (b:=c);unfold Sz at d e;omega
 have hw:=lI a s g;cases s<;>
  exact Spec.r a func223 [2,3] [z3 (eU a hs d.aW),z3 (eU a f e.aW),z3 (dC a hs d.aW),z3 (dC a f e.aW),z3 (dC a hs d.aW),z3 (FQ a d.aW e.aW),z3 hw]
def ad5(s:b5)(hs:s=bj->0<b)(d:(!s)=bj->0<c)(m:Sz b)(n:Sz c)(h:c<=b):
    xf G 223 [wv s b,wv (!s) c] (wv (s&&decide (0<b-c)) (b-c)):=by
  have e:y6 (words (b-c))<=2^44:=apm (cz (arh _ _)) m.aW;have hw:=lI a s e;cases s<;>
    exact Spec.r a func223 [2,3] [z3 (eU a hs m.aW),z3 (eU a d n.aW),z3 (dC a hs m.aW),z3 (dC a d n.aW),z3 (H9 a m.aW n.aW),.eb 25 (NS h),
       z3 (dC a hs m.aW),z3 (CV a m.aW h),z3 hw]
def TQ(s:b5)(hs:s=bj->0<b)(n:(!s)=bj->0<c)(d:Sz b)(m:Sz c)(h:b<c):
    xf G 223 [wv s b,wv (!s) c] (wv (!s&&decide (0<c-b)) (c-b)):=by
  have e:y6 (words (c-b))<=2^44:=apm (cz (arh _ _)) m.aW;have hw:=lI a (!s) e;cases s<;>
    exact Spec.r a func223 [2,3] [z3 (eU a hs d.aW),z3 (eU a n m.aW),z3 (dC a hs d.aW),z3 (dC a n m.aW),z3 (H9 a d.aW m.aW),.eb 25 (NR h),
       z3 (dC a n m.aW),z3 (CV a m.aW (apU h)),z3 hw]
def Me(b:oZ i)(j:oZ h):xf G 223 [W i,W h] (W (i+h)):=by
 obtain⟨s,m,rfl,d,l⟩:=nE i;obtain⟨t,n,rfl,c,k⟩:=nE h;unfold oZ at b j;rw[<-l]at b;rw[<-k]at j;rw[pA d,pA c];by_cases g:t=s
 ·subst g
  have e:iH t m+iH t n=iH t (m+n):=by unfold iH;cases t<;>simp;omega
  rw[e,uO];exact YG a t d c b j
 ·have:t= !s:=by cases s<;>cases t<;>first|rfl|exact api rfl g
  subst this;obtain f|f:=apy m n
  ·have e:iH s m+iH (!s) n=iH (!s) (n-m):=by unfold iH;cases s<;>simp<;>omega
   rw[e,uO];exact TQ a s d c b j f
  ·have e:iH s m+iH (!s) n=iH s (m-n):=by unfold iH;cases s<;>simp<;>omega
   rw[e,uO];exact ad5 a s d c b j f
def Fu(b:oZ i)(j:oZ h):xf G 299 [W i,W h] (W (i*h)):=by
 obtain⟨s,m,rfl,d,g⟩:=nE i;obtain⟨t,n,rfl,c,f⟩:=nE h;unfold oZ at b j;rw[<-g]at b;rw[<-f]at j;rw[pA d,pA c];have e:iH s m*iH t n=iH (rf s t) (m*n):=by unfold iH;cases s<;>cases t<;>simp[Int.mul_neg,Int.neg_mul]
 rw[e,uO];exact agV a d c b j
def Md(d:oZ i):xf G 224 [W i] (W (-i)):=by
 obtain⟨s,m,rfl,b,c⟩:=nE i;unfold oZ at d;rw[<-c]at d;rw[pA b];have e: -iH s m=iH (!s) m:=by unfold iH;cases s<;>simp
 rw[e,uO];exact Oe a b d.aW
def Cl(b:oZ i):xf G 106 [W i] (int i.sign):=by
 obtain⟨s,m,rfl,d,c⟩:=nE i;unfold oZ at b;rw[<-c]at b;rw[pA d];have:=uP a d b.aW;have e:(iH s m).sign=if m=0 then 0 else if s then -1 else 1:=by
  cases s with
  |false=>
   show((m:cA)).sign=if m=0 then 0 else if aj=bj then -1 else 1
   by_cases h:m=0;subst h;rfl;rw[ape h,ape zb];exact arz za
  |true=>
   have:=d rfl;show(-(m:cA)).sign=if m=0 then 0 else if bj=bj then -1 else 1
   rw[ape (show¬m=0 by omega),aph rfl];exact ari za
 rw[e];exact this
def YE(hs:f=bj->0<b)(d:u=bj->0<c)(n:0<c)(m:Sz b)(s:Sz c)(j:f=aj\/b%c=0):
    xf G 326 [wv f b,wv u c] (.aP [wv (rf f u&&decide (0<b/c)) (b/c),wv (aj&&decide (0<b%c)) (b%c),int 0]):=by
  have k:y6 (words (b/c))<=2^44:=apm (cz (aqg _ _)) m.aW;have i:y6 (words (b%c))<=2^44:=apm (cz (Nat.mod_le _ _)) m.aW;have e:((if c=0 then 0 else if u then -1 else 1:cA)==0)=aj:=by rw[ape za];cases u<;>rfl
  have hw:=lI a (rf f u) k;have g:=lI a aj i;cases f with
  |false=>
    cases u<;>
      exact Spec.r a func326 [2,3] [z3 (uP a d s.aW),.eb 11 e,z3 (eU a hs m.aW),z3 (eU a d s.aW),z3 (CW a n m.aW s.aW),z3 (dC a hs m.aW),
         z3 (dC a hs m.aW),z3 (dC a d s.aW),z3 hw,z3 g]
  |true=>
    have o:b%c=0:=by obtain h|h:=j;cases h;exact h
    have l:decide (zNq (words (b%c)).length>0)=aj:=by rw[o_,o];rfl
    cases u<;>
      exact Spec.r a func326 [2,3] [z3 (uP a d s.aW),.eb 11 e,z3 (eU a hs m.aW),z3 (eU a d s.aW),z3 (CW a n m.aW s.aW),z3 (dC a hs m.aW),.eb 27 l,
         z3 (dC a hs m.aW),z3 (dC a d s.aW),z3 hw,z3 g]
def YD(b:oZ i)(j:oZ h):xf G 103 [W i,W h] (W ((gx i h:aw):cA)):=by
 obtain⟨s,m,rfl,f,c⟩:=nE i;obtain⟨t,n,rfl,d,g⟩:=nE h;unfold oZ at b j;rw[<-c]at b;rw[<-g]at j;rw[pA f,pA d,Gj];have e:gx (iH s m) (iH t n)=c8 m n:=by unfold gx;rw[<-c,<-g]
 rw[e];exact Spec.r a func103 [2,3] [z3 (eU a f b.aW),z3 (eU a d j.aW),z3 (Wz a b.aW j.aW),z3 (lI a aj (vh b.aW j.aW))]
def YC(b:aa G){i j:cA}(c:oZ i)(a:oZ j):Spec zZq G 165 [W i,W j] (W (i-j)):=by have h:=Me b (i:=i) (h:= -j) c (by unfold oZ at a⊢;rw[arw];exact a);rw[<-Int.sub_eq_add_neg]at h;exact Spec.r b func165 [2,3] [.call (Md b a),.call h]
def X8(i j:cA):(i-j).sign=A2 i j:=by
 unfold A2;rcases mJ (i-j)with⟨a,b⟩|⟨a,b⟩|⟨a,b⟩
 rw[b,aph za];rw[b,ape za,ape za];rw[b,ape za,aph za]
def YF(c:aa G)(f:y6 (words i.natAbs)<2^43)(e:y6 (words h.natAbs)<2^43):xf G 102 [W i,W h] (int (A2 i h)):=by
 have d:oZ (i-h):=by have k:=cz (Int.natAbs_sub_le i h);have g:=G3 (c:=i.natAbs) (b:=h.natAbs);unfold oZ Sz;omega
 have j:=Cl c d;rw[X8]at j;exact Spec.r c func102 [2,3] [z3 (YC c (i:=i) (j:=h) (apU f) (apU e)),z3 j]
def agU(a:aa G){x:aw}(f:0<x)(h:x<=9223372036854775808):xf G 169 [int (-(x:cA))] (W (-(x:cA))):=by
 have hw:=Ev a bj (d:=[x%4294967296,x/4294967296]) (GJ za) zb
 rw[Aa]at hw;have e:=uO bj x;have b:iH bj x= -(x:cA):=rfl;rw[b]at e;rw[e];have d:bJ .u64 (-(x:cA))=zNq (18446744073709551616-x):=by rw[rk];simp only[zKq];omega
 have c:bJ .u64 (0-zNq (18446744073709551616-x))=zNq x:=by rw[rk];simp only[zKq];omega
 have lt:decide (-(x:cA)<0)=bj:=zT
 exact Spec.r a func169 [] [.eq 5 (bz d),.eb 7 lt,.eq 9 (bz c),.eb 11 lt,.eq 13 (gR (iL x)),.eq 15 (bz (sU x)),.eq 16 (gR (x:=bJ .u32 (zNq (x/4294967296))) (y:=zNq (x/4294967296)) (by rw[iL,apW za])),z3 hw]
def agT(a:aa G){x:aw}(h:x<9223372036854775808):xf G 169 [int (x:cA)] (W (x:cA)):=by
  have hw:=Ev a aj (d:=[x%4294967296,x/4294967296]) (GJ za) zb;rw[Aa]at hw;have e:=uO aj x;have b:iH aj x=(x:cA):=rfl;rw[b]at e;rw[e];have lt:decide ((x:cA)<0)=aj:=zb
  exact Spec.r a func169 [] [.eq 5 (bz (x:=bJ .u64 (x:cA)) (y:=zNq x) (wrap64 za)),.eb 7 lt,.eb 11 lt,.eq 13 (gR (iL x)),.eq 15 (bz (sU x)),
     .eq 16 (gR (x:=bJ .u32 (zNq (x/4294967296))) (y:=zNq (x/4294967296)) (by rw[iL,apW za])),z3 hw]
def ad3(h: -9223372036854775808<=i)(c:i<9223372036854775808):xf G 169 [int i] (W i):=by by_cases b:i<0;obtain⟨x,rfl⟩:∃x:aw,i= -(x:cA):=⟨i.natAbs,by omega⟩;exact agU a za za;obtain⟨x,rfl⟩:∃x:aw,i=(x:cA):=⟨i.natAbs,by omega⟩;exact agT a za
open Go Go.RowKit
structure Raw where
 s:b5
 n:ai aw
 d:ai aw
def Raw.Cd(r:Raw):D:=y4 [bool r.s,ak r.n,ak r.d]
def Raw.ok(k:aw)(r:Raw):Prop:=gg r.n/\gg r.d/\y6 r.n<=k/\y6 r.d<=k/\0<k
def Raw.mz(r:Raw):Prop:=r.n≠[]/\r.d≠[]/\r.n=words (val r.n)/\r.d=words (val r.d)/\c8 (val r.n) (val r.d)=1
instance(r:Raw):vp r.mz:=by unfold Raw.mz;infer_instance
def Raw.valid(r:Raw):b5:=if r.n=[]/\r.d=[]then !r.s else decide r.mz
def Raw.q(r:Raw):cl:=if r.mz then mkRat (iH r.s (val r.n)) (val r.d)else 0
def gM(q:cl):Raw:=if q.num=0 then⟨aj,[],[]⟩else⟨decide (q.num<0),words q.num.natAbs,words q.den⟩
def F(q:cl):D:=(gM q).Cd
def yw(k:aw)(x:D)(q:cl):Prop:=∃r:Raw,x=r.Cd/\r.ok k/\r.q=q
def gY(k:aw)(q:cl):Prop:=y6 (words q.num.natAbs)<=k/\y6 (words q.den)<=k/\0<k
def tQ(h:0<b):words b≠[]:=λe=>by have:=aK b;rw[e]at this;have a:val []=0:=rfl;omega
def e_(s:b5)(n:aw):(iH s n).natAbs=n:=by cases s<;>simp[iH]
variable {j m:cl} {k:Raw}
def Raw.I_(h:k.mz):0<val k.d:=by
 rcases apv (val k.d)with e|e
 obtain⟨-,b,-,a,-⟩:=h;rw[e]at a;exact api a b;exact e
def Raw.I9(h:k.mz):0<val k.n:=by
 rcases apv (val k.n)with e|e
 obtain⟨b,-,a,-,-⟩:=h;rw[e]at a;exact api a b;exact e
def Raw.CY(h:k.mz):k.q.num=iH k.s (val k.n)/\k.q.den=val k.d:=by have b:=Raw.I_ h;obtain⟨-,-,-,-,a⟩:=id h;unfold Raw.q;rw[aph h,Rat.num_mkRat,Rat.den_mkRat,ape za,ape za,e_,arW,a];exact⟨Int.ediv_one _,aqP _⟩
def Raw.R7(h:¬k.mz):k.q=0:=by unfold Raw.q;rw[ape h]
def H_(h:j.num≠0):(gM j).mz:=by unfold gM;rw[ape h];refine⟨tQ za,tQ j.den_pos,?_,?_,?_⟩;rw[aK];rw[aK];rw[aK,aK];exact j.reduced
def afP(i:cA):iH (decide (i<0)) i.natAbs=i:=by by_cases h:i<0;rw[apE h];show -(i.natAbs:cA)=i;omega;rw[apG h];show(i.natAbs:cA)=i;omega
def ti(q:cl):(gM q).q=q:=by by_cases h:q.num=0;have:q=0:=asx.1 h;subst this;rfl;have b:=H_ h;have a:=Raw.CY b;refine Rat.ext ?_ ?_;rw[a.1];unfold gM;rw[ape h];rw[aK,afP];rw[a.2];unfold gM;rw[ape h];exact aK _
def gY.ok{k:aw}{q:cl}(h:gY k q):(gM q).ok k:=by unfold gM;split;exact⟨(λx a=>by cases a),(λx a=>by cases a),apJ _,apJ _,h.2.2⟩;exact⟨aU _,aU _,h.1,h.2.1,h.2.2⟩
def gY.uV(h:gY b j):yw b (F j) j:=⟨gM j,rfl,h.ok,ti j⟩
def G1:y6 (words 1)=1:=rfl
def Raw.ok.sz(h:k.ok b):gY b k.q:=by obtain⟨l,j,d,c,r⟩:=h;by_cases a:k.mz;obtain⟨i,g⟩:=Raw.CY a;obtain⟨-,-,f,e,-⟩:=a;refine⟨?_,?_,r⟩;rw[i,e_,<-f];exact d;rw[g,<-e];exact c;rw[Raw.R7 a];exact⟨apJ _,by show y6 (words 1)<=b;rw[G1];omega,r⟩
def yw.sz{k:aw}{x:D}{q:cl}(h:yw k x q):gY k q:=by obtain⟨r,-,h,rfl⟩:=h;exact h.sz
def gY.mono(h:gY b j)(a:b<=c):gY c j:=⟨apm h.1 a,apm h.2.1 a,by have:=h.2.2;omega⟩
def GO(h:0<b):gY b 0:=⟨apJ _,by show y6 (words 1)<=b;rw[G1];omega,h⟩
def KX(n:0<b)(c:y6 (words h.natAbs)<=b)(f:y6 (words i.natAbs)<=b):gY b (hU h i):=by
 by_cases a:i=0;subst a;rw[Rat.divInt_zero];exact GO n;refine⟨?_,?_,n⟩;rw[Rat.num_divInt];refine apm (cz ?_) c;have k:i.sign*h=h\/i.sign*h= -h:=by
  rcases mJ i with⟨_,e⟩|⟨_,e⟩|⟨_,e⟩
  right;rw[e];omega;omega;left;rw[e];omega
 have g:∀m:cA,(m/((i.gcd h:aw):cA)).natAbs<=m.natAbs:=λm=>sH m _
 have:=g (i.sign*h);obtain e|e:=k
 rw[e]at this⊢;exact this;rw[e,arw]at this;rw[e];exact this;rw[Rat.den_divInt,ape a];exact apm (cz (aqg _ _)) f
def ZD(k:0<b)(a:y6 (words h.natAbs)<=b)(n:y6 (words c)<=b):gY b (mkRat h c):=by rw[<-asU];exact KX k a n
def zj:y6 (words (h*i).natAbs)<=y6 (words h.natAbs)+y6 (words i.natAbs):=by rw[ara];exact G2
def PT:y6 (words (h+i).natAbs)<=max (words h.natAbs).length (words i.natAbs).length+1:=by refine apm (cz (Int.natAbs_add_le h i)) G3
def gY.neg(h:gY b j):gY b (-j):=by unfold gY;rw[Rat.neg_num,Rat.neg_den,arw];exact h
def gY.add(d:gY b j)(a:gY c m):gY (b+c+1) (j+m):=by rw[Rat.add_def'];have f:=zj (h:=j.num) (i:=(m.den:cA));have e:=zj (h:=m.num) (i:=(j.den:cA));have h:=PT (h:=j.num*m.den) (i:=m.num*j.den);have g:=G2 (c:=j.den) (b:=m.den);rw[aqv]at f e;unfold gY at d a;exact ZD za za za
def gY.sub(d:gY b j)(a:gY c m):gY (b+c+1) (j-m):=by rw[arM];exact d.add a.neg
def ag3(n:h≠0)(j:0<i):F (hU h i)=y4 [bool (decide (h<0)),ak (words (h.natAbs/gx h i)),ak (words (i.natAbs/gx h i))]:=by
 have s:0<gx h i:=by unfold gx;exact art _ za
 have g:i.sign=1:=arz j;have b:((gx h i:aw):cA)∣h:=Int.gcd_dvd_left h i;have r:(hU h i).num=h/(gx h i:aw):=by rw[Rat.num_divInt,g,Int.one_mul,Int.gcd_comm]
 have q:(hU h i).den=i.natAbs/gx h i:=by rw[Rat.den_divInt,ape za,Int.gcd_comm]
 obtain⟨m,a⟩:=b;have p:h/((gx h i:aw):cA)=m:=Int.ediv_eq_of_eq_mul_right za a
 have o:h.natAbs=gx h i*m.natAbs:=by have:=aql Int.natAbs a;rwa [ara,aqv]at this
 have l:h.natAbs/gx h i=m.natAbs:=Nat.div_eq_of_eq_mul_right s o;have c:m≠0:=λe=>by rw[e,Int.mul_zero]at a;exact n a
 have k:(m<0)↔(h<0):=by
  have f:(0:cA)<(gx h i:aw):=za
  obtain d|d:=Int.lt_or_gt_of_ne c
  ·have:=Int.mul_neg_of_pos_of_neg f d
   exact⟨λ_=>by rw[a];exact this,λ_=>d⟩
  ·have:=Int.mul_pos f d
   rw[<-a]at this;constructor<;>intro<;>omega
 unfold F gM;rw[r,p,ape c,q,l];show D.agg [bool (decide (m<0)),_,_]=_;rw[uL.2 k]
def wW(a b:cl):cA:=if a<b then -1 else if b<a then 1 else 0
def Tq(a b:cl):A2 (a.num*b.den) (b.num*a.den)=wW a b:=by unfold A2 wW;simp only[Rat.lt_iff]
def nV(a:cl):cA:=a.num.sign
def HV:nV j=0↔j=0:=by unfold nV;rw[sE,asx]
def ae3:nV j<0↔j<0:=by unfold nV;rw[Rat.lt_iff];simp only[Rat.zero_num,Rat.zero_den,Int.zero_mul];rcases mJ j.num with⟨h,e⟩|⟨h,e⟩|⟨h,e⟩<;>omega
def vY(a:cl):(a<0/\nV a= -1)\/(a=0/\nV a=0)\/(0<a/\nV a=1):=by
 have f:=HV (j:=a);have d:=ae3 (j:=a);rcases mJ a.num with⟨h,e⟩|⟨h,e⟩|⟨h,e⟩
 ·exact y1 ⟨d.1 (by unfold nV;omega),e⟩
 ·exact y2 (y1 ⟨f.1 e,e⟩)
 ·refine y2 (y2 ⟨?_,e⟩)
  have c:¬a<0:=λb=>by have:=d.2 b;unfold nV at this;omega
  have g:a≠0:=λb=>by have:=f.2 b;unfold nV at this;omega
  rw[Rat.not_lt]at c;exact Rat.lt_of_le_of_ne c (aqZ g)
def adm(a b:cl):nV (a-b)=wW a b:=by
 unfold wW;rcases vY (a-b)with⟨h,e⟩|⟨h,e⟩|⟨h,e⟩
 have:a<b:=by grind
 rw[aph this,e];have:a=b:=by grind
 subst this;rw[e,ape ar7,ape ar7];have d:b<a:=by grind
 have c:¬a<b:=by grind
 rw[ape c,aph d,e]
def C6(a:aa G):xf G 72 [] (W 1):=
 Spec.r a func72 [] [z3 (VR a (i:=1) za za)]
def ym(n:aw):Full (words n)=bj:=by unfold Full;rw[aK];simp
def DE(h:Full d=bj):∃n,d=words n:=⟨val d,by unfold Full at h;simpa using h⟩
def Qm(s:b5)(N M:aw)(a:0<N)(b:0<M):(Raw.mk s (words N) (words M)).mz↔c8 N M=1:=by unfold Raw.mz;simp only[aK];exact⟨λh=>h.2.2.2.2,λh=>⟨tQ a,tQ b,trivial,trivial,h⟩⟩
def Vz(g:aw):(A2 (g:cA) 1==0)=decide (g=1):=by unfold A2;by_cases h:g=1;subst h;rfl;rw[apG h];by_cases a:(g:cA)<1;rw[aph a];rfl;rw[ape a,aph za];rfl
def lJ(h:d≠[]):(zNq (y6 d)==0)=aj:=by rw[c4];have:=aqd.2 h;simp only[rI];omega
def KB:aw:=2199023255552
def pn:KB=2199023255552:=rfl
def TV(d:aa G)(hs:f=bj->0<b)(a:u=bj->0<c)(m:Sz b)(n:Sz c):xf G 108 [wv f b,wv u c] (wv aj (c8 b c)):=by
 have h:=aef d (i:=iH f b) (h:=iH u c) (by unfold oZ;rw[e_];exact m) (by unfold oZ;rw[e_];exact n)
 rw[pA hs,pA a,Gj]at h;have e:gx (iH f b) (iH u c)=c8 b c:=by unfold gx;rw[e_,e_]
 rw[e]at h;exact h
def Ho(d:0<c)(n:Sz b)(m:Sz c):xf G 133 [wv aj b,wv aj c] (.aP [wv aj (b/c),wv aj (b%c),xc]):=
 aei a (f:=aj) (u:=aj) zb zb d n m (y1 rfl)
def ag4(a:aa G)(h:Sz g):xf G 67 [wv aj g,W 1] (int (A2 (g:cA) 1)):=by have:=D_ a (i:=(g:cA)) (j:=1) h (by unfold oZ Sz;decide);rw[Gj]at this;exact this
def sk(a:aa G)(q:k.ok b)(u:b<=KB):xf G 42 [k.Cd] (bool k.valid):=by
 have x:=tP;have A:=dS;obtain⟨s,n,d⟩:=k;obtain⟨j,l,o,p,-⟩:=q;simp only at j l o p;rw[pn]at u;by_cases r:n=[]
 ·subst r
  by_cases f:d=[]
  ·subst f
   exact Spec.r a func42 [1] []
  ·have c:(Raw.mk s [] d).valid=aj:=by
    unfold Raw.valid;rw[ape (λh=>f h.2)]
    exact apG λh=>h.1 rfl
   rw[c];exact Spec.r a func42 [1] [.eb 13 (lJ f)]
 ·have g:(Raw.mk s n d).valid=decide (Raw.mk s n d).mz:=by unfold Raw.valid;rw[ape (λh=>r h.1)]
  by_cases f:d=[]
  ·subst f
   have c:(Raw.mk s n []).valid=aj:=by rw[g];exact apG λh=>h.2.1 rfl
   rw[c];exact Spec.r a func42 [1] [.eb 8 (lJ r),.eb 27 (lJ r)]
  ·have v1:=Mc a j za
   have v2:=Mc a l za
   cases f1:Full n with
   |false=>
    rw[f1]at v1;have c:(Raw.mk s n d).valid=aj:=by
     rw[g];refine apG λh=>?_
     have i:n=words (val n):=h.2.2.1;rw[i,ym]at f1;cases f1
    rw[c];exact Spec.r a func42 [1] [.eb 8 (lJ r),.eb 27 (lJ r),.eb 32 (lJ f),z3 v1]
   |true=>
    rw[f1]at v1;cases f2:Full d with
    |false=>
     rw[f2]at v2;have c:(Raw.mk s n d).valid=aj:=by
      rw[g];refine apG λh=>?_
      have i:d=words (val d):=h.2.2.2.1;rw[i,ym]at f2;cases f2
     rw[c];exact Spec.r a func42 [1] [.eb 8 (lJ r),.eb 27 (lJ r),.eb 32 (lJ f),z3 v1,z3 v2]
    |true=>
     rw[f2]at v2;obtain⟨N,rfl⟩:=DE f1;obtain⟨M,rfl⟩:=DE f2;have v:0<N:=by obtain e|e:=apv N;(·subst e;exact api rfl r);exact e
     have w:0<M:=by obtain e|e:=apv M;(·subst e;exact api rfl f);exact e
     have z:Sz (c8 N M):=by unfold Sz;exact vh za za
     have y:=TV a (f:=aj) (u:=aj) (b:=N) (c:=M) zb zb (by unfold Sz;omega) (by unfold Sz;omega)
     have c:(Raw.mk s (words N) (words M)).valid=decide (c8 N M=1):=by rw[g];exact uL.2 (Qm s N M v w)
     rw[c];exact Spec.r a func42 [1] [.eb 8 (lJ r),.eb 27 (lJ r),.eb 32 (lJ f),z3 v1,z3 v2,z3 y,z3 (C6 a),z3 (ag4 a z),.eb 49 (Vz (c8 N M))]
def JM(n:aw)(h:n<=2^44)(l:ai D)(b:y6 l=n):y6 ([]:ai D)=0*1/\y6 l=n*1/\0+n<=2^62/\(0+n)*4<=2^47:=by have d:=dS;have a:=Bv;have c:=xe;exact⟨rfl,by omega,by omega,by omega⟩
def AS(l:ai aw):D.row (0+y6 l) aj ([]++l.map u32)=ak l:=by unfold ak;rw[aqa,aq0]
def Raw.bad(h:¬k.mz):k.valid=aj\/k=⟨aj,[],[]⟩:=by
 obtain⟨s,n,d⟩:=k;unfold Raw.valid;split;rename_i a;simp only at a;obtain⟨rfl,rfl⟩:=a;cases s with
 |true=>exact y1 rfl
 |false=>exact y2 rfl
 exact y1 (apG h)
def Raw.B8(h:k.mz):k.valid=bj:=by unfold Raw.valid;rw[ape (λa=>h.1 a.1)];exact apE h
def TR(f:k.ok b)(g:b<=KB):xf G 66 [k.Cd] (.aP [W k.q.num,W k.q.den]):=by
 have y:=dS;have c:=sk a f g;by_cases r:k.mz
 ·obtain⟨x,w⟩:=Raw.CY r
  have e:=Raw.I9 r;have q:=Raw.I_ r;rw[Raw.B8 r]at c;rw[x,w,pA (λ_=>e),Gj]
  obtain⟨s,n,d⟩:=k;obtain⟨-,-,t,u,-⟩:=f;obtain⟨l,v,j,i,-⟩:=r;simp only at t u l v j i e q⊢;rw[pn]at g;have o:wv s (val n)=y4 [bool s,ak n]:=by unfold wv;rw[<-j]
  have m:wv (aj&&decide (0<val d)) (val d)=y4 [bool aj,ak d]:=by unfold wv;rw[<-i];rfl
  rw[o,m];exact Spec.r a func66 [1,20,26] [z3 c,.eb 11 (lJ l),yu (p:=0<1/\1<=3) zv,yu (p:=0<1/\1<=2) zv,yu (JM (y6 n) za (n.map u32) zb),.eq 20 (AS n),yu (p:=0+2<=2) zv,yu (p:=0<2/\0+2<=2) zv,yu (p:=0<1/\1<=1) zv,yu (JM (y6 d) za (d.map u32) zb),.eq 26 (AS d)]
 ·rw[Raw.R7 r]
  obtain h|h:=Raw.bad r
  ·rw[h]at c
   exact Spec.r a func66 [1] [z3 c,z3 (C6 a)]
  ·subst h
   exact Spec.r a func66 [1] [z3 c,z3 (C6 a)]
def acy(a:aa G)(d:0<b)(p:0<c)(e:Sz b)(s:Sz c):
  xf G 71 [wv f b,wv aj c] (y4 [bool f,ak (words (b/c8 b c)),ak (words (c/c8 b c))]):=by
 have k:0<c8 b c:=art _ d;have l:Sz (c8 b c):=by unfold Sz at*;exact vh e s
 have m:=Ae a (f:=f) (b:=b) (λ_=>d) e.aW
 have g:=Ae a (f:=aj) (b:=c) zb s.aW
 rw[ape za]at m g
 have j:=TV a (f:=f) (u:=aj) (b:=b) (c:=c) (λ_=>d) zb e s
 have i:=Ho a k e l;have h:=Ho a k s l;cases f with
 |false=>exact Spec.r a func71 [] [z3 m,z3 g,z3 j,z3 m,z3 i,z3 h]
 |true=>
  have o:=JS a (s:=bj) (n:=b) (λ_=>d) e.aW
  exact Spec.r a func71 [] [z3 m,z3 g,z3 j,z3 m,z3 o,z3 i,z3 h]
def acz(a:aa G){s:b5}{m e:aw}(b:0<m)(p:0<e)(c:Sz m)(f:Sz e):
  Spec zZq G 71 [wv s m,wv bj e] (.agg [bool !s,ak (words (m/c8 m e)),ak (words (e/c8 m e))]):=by
 have q:0<c8 m e:=art _ b;have r:Sz (c8 m e):=by unfold Sz at*;exact vh c f
 have i:=Ae a (f:=s) (b:=m) (λ_=>b) c.aW
 have d:=Ae a (f:= !s) (b:=m) (λ_=>b) c.aW
 have h:=Ae a (f:=bj) (b:=e) (λ_=>p) f.aW
 rw[ape za]at i d h
 have o:=TV a (f:= !s) (u:=aj) (b:=m) (c:=e) (λ_=>b) zb c f
 have l:=Ho a q c r;have k:=Ho a q f r;have g:=JS a (s:=s) (n:=m) (λ_=>b) c.aW
 have j:=JS a (s:=bj) (n:=e) (λ_=>p) f.aW
 have u:decide (0<m)=bj:=apE b;rw[u,ar6]at g;cases s with
 |true=>exact Spec.r a func71 [] [.call i,.call h,.call g,.call j,.call o,.call d,.call l,.call k]
 |false=>
  have v:=JS a (s:=bj) (n:=m) (λ_=>b) c.aW
  exact Spec.r a func71 [] [.call i,.call h,.call g,.call j,.call o,.call d,.call v,.call l,.call k]
def XN(a:aa G)(d:cA):xf G 71 [W 0,W d] (F 0):=by have b:=ph a (i:=0) (by unfold oZ Sz;decide);exact Spec.r a func71 [3] [z3 b]
def DL(s:b5)(h:0<b):decide (iH s b<0)=s:=by
 cases s with
 |false=>exact apG (by show¬(b:cA)<0;omega)
 |true=>exact apE (by show -(b:cA)<0;omega)
def IC(s:b5)(h:0<b):iH s b≠0:=by cases s<;>simp[iH]<;>omega
def wT(u:i≠0)(b:oZ h)(c:oZ i):xf G 71 [W h,W i] (F (hU h i)):=by
 by_cases f:h=0
 ·subst f;rw[Rat.zero_divInt];exact XN a _
 ·obtain⟨s,m,rfl,k,l⟩:=nE h
  obtain⟨t,e,rfl,j,o⟩:=nE i;unfold oZ at b c;rw[<-l]at b;rw[<-o]at c;have d:0<m:=by obtain q|q:=apv m;(·subst q;exact api (by cases s<;>rfl) f);exact q
  have n:0<e:=by obtain q|q:=apv e;(·subst q;exact api (by cases t<;>rfl) u);exact q
  rw[pA k,pA j];cases t with
  |false=>
   rw[ag3 (IC s d) (by show(0:cA)<(e:cA);omega),DL s d,e_,e_]
   have g:gx (iH s m) (iH aj e)=c8 m e:=by unfold gx;rw[e_,e_]
   rw[g];exact acy a d n b c
  |true=>
   have r:iH s m= -(iH (!s) m):=by cases s<;>simp[iH]
   have p:iH bj e= -(iH aj e):=rfl;rw[r,p,Rat.neg_divInt_neg,ag3 (IC (!s) d) (by show(0:cA)<(e:cA);omega),DL (!s) d,e_,e_]
   have g:gx (iH (!s) m) (iH aj e)=c8 m e:=by unfold gx;rw[e_,e_]
   rw[g];exact acz a d n b c
def Mb(a b:cl):hU (a.num*b.den+b.num*a.den) ((a.den:cA)*b.den)=a+b:=by rw[Rat.add_def',<-Int.natCast_mul,asU]
def W7(a b:cl):hU (a.num*b.num) ((a.den:cA)*b.den)=a*b:=by rw[Rat.mul_def',<-Int.natCast_mul,asU]
def Lr(a:cl):hU (-a.num) a.den= -a:=by rw[<-Rat.neg_divInt,arR]
def XX(a b:cl):hU (a.num*b.den) ((a.den:cA)*b.num)=a/b:=by
 rw[asi,Rat.inv_def]
 conv=>rhs;rw[<-arR a]
 rw[Rat.divInt_mul_divInt]
def Ff(a:cl):((a.den:aw):cA)≠0:=by have:=a.den_pos;omega
def NP(a b:cl):((a.den:aw):cA)*(b.den:aw)≠0:=by rw[<-Int.natCast_mul];have:=aqm a.den_pos b.den_pos;omega
def Kg(n:cA):hU n 1=(n:cl):=by have:=arR (n:cl);rw[Rat.num_intCast,Rat.den_intCast]at this;exact this
def yw.num{k:aw}{x:D}{a:cl}(h:yw k x a)(b:k<=KB):oZ a.num:=by have d:=h.sz.1;rw[pn]at b;unfold oZ Sz;have c:=tP;omega
def yw.den{k:aw}{x:D}{a:cl}(h:yw k x a)(b:k<=KB):oZ ((a.den:aw):cA):=by have d:=h.sz.2.1;rw[pn]at b;unfold oZ Sz;have c:=tP;rw[aqv];omega
def oy(g:y6 (words i.natAbs)<=b)(f:y6 (words h.natAbs)<=c)(d:b<=KB)(l:c<=KB):oZ (i*h):=by have:=zj (h:=i) (i:=h);rw[pn]at d l;unfold oZ Sz;have e:=tP;omega
def yw.A1{x:D}(h:yw b x j):y6 (words ((j.den:aw):cA).natAbs)<=b:=by rw[aqv];exact h.sz.2.1
def Ud{x y:D}(d:yw b x j)(a:yw c y m)(f:b<=KB)(e:c<=KB):oZ (j.num*m.den+m.num*j.den):=by have l:=zj (h:=j.num) (i:=((m.den:aw):cA));have i:=zj (h:=m.num) (i:=((j.den:aw):cA));have h:=PT (h:=j.num*m.den) (i:=m.num*j.den);have:=d.sz.1;have:=a.sz.1;have:=d.A1;have:=a.A1;rw[pn]at f e;unfold oZ Sz;have g:=tP;omega
def yw.parts{x:D}(h:yw b x j)(c:b<=KB):xf G 66 [x] (.aP [W j.num,W j.den]):=by obtain⟨r,rfl,d,rfl⟩:=h;exact TR a d c
def xa{x y:D}(d:yw b x j)(g:yw c y m)(f:b<=KB)(e:c<=KB):xf G 112 [x,y] (F (j+m)):=by have i:=d.parts a f;have h:=g.parts a e;have n:=l6 a (d.num f) (g.den e);have k:=l6 a (g.num e) (d.den f);have l:=l6 a (d.den f) (g.den e);have s1:=Ea a (oy d.sz.1 g.A1 f e) (oy g.sz.1 d.A1 e f);have f1:=wT a (NP j m) (Ud d g f e) (oy d.A1 g.A1 f e);rw[Mb]at f1;obtain⟨r,rfl,-,rfl⟩:=d;obtain⟨q,rfl,-,rfl⟩:=g;exact Spec.r a func112 [2,3] [z3 i,z3 h,z3 n,z3 k,z3 s1,z3 l,z3 f1]
def FC{x y:D}(d:yw b x j)(e:yw c y m)(g:b<=KB)(f:c<=KB):xf G 45 [x,y] (F (j*m)):=by have i:=d.parts a g;have h:=e.parts a f;have k:=l6 a (d.num g) (e.num f);have l:=l6 a (d.den g) (e.den f);have f1:=wT a (NP j m) (oy d.sz.1 e.sz.1 g f) (oy d.A1 e.A1 g f);rw[W7]at f1;obtain⟨r,rfl,-,rfl⟩:=d;obtain⟨q,rfl,-,rfl⟩:=e;exact Spec.r a func45 [2,3] [z3 i,z3 h,z3 k,z3 l,z3 f1]
def Mi(d:aa G){x:D}(a:yw b x j)(c:b<=KB):xf G 134 [x] (F (-j)):=by have e:=a.parts d c;have f:=z6 d (a.num c);have f1:=wT d (Ff j) (h:= -j.num) (by have:=a.num c;unfold oZ at this⊢;rw[arw];exact this) (a.den c);rw[Lr]at f1;obtain⟨r,rfl,-,rfl⟩:=a;exact Spec.r d func134 [1] [z3 e,z3 f,z3 f1]
def Mh{x y:D}(e:yw b x j)(d:yw c y m)(h:b<=KB)(f:c<=KB):xf G 70 [x,y] (F (j-m)):=by have g:=Mi a d f;have s1:=xa a e d.sz.neg.uV h f;rw[<-arM]at s1;obtain⟨r,rfl,-,rfl⟩:=e;obtain⟨q,rfl,-,rfl⟩:=d;exact Spec.r a func70 [2,3] [z3 g,z3 s1]
def uQ{x:D}(c:yw b x j)(d:b<=KB):xf G 43 [x] (int (nV j)):=by have e:=c.parts a d;have f:=ph a (c.num d);obtain⟨r,rfl,-,rfl⟩:=c;exact Spec.r a func43 [1] [z3 e,z3 f]
def Mj{x y:D}(d:yw b x j)(e:yw c y m)(g:b<=KB)(f:c<=KB):xf G 25 [x,y] (int (wW j m)):=by have l:=d.parts a g;have i:=e.parts a f;have n:=l6 a (d.num g) (e.den f);have k:=l6 a (e.num f) (d.den g);have h:=D_ a (oy d.sz.1 e.A1 g f) (oy e.sz.1 d.A1 f g);rw[Tq]at h;obtain⟨r,rfl,-,rfl⟩:=d;obtain⟨q,rfl,-,rfl⟩:=e;exact Spec.r a func25 [2,3] [z3 l,z3 i,z3 n,z3 k,z3 h]
def aeE:oZ 1:=by unfold oZ Sz;decide
def Wf(h: -9223372036854775808<=i)(c:i<9223372036854775808):oZ i:=by unfold oZ Sz;have b:y6 (words i.natAbs)<=2:=(aS _ _).2 (by rw[show BP 2=18446744073709551616 from rfl];omega);have a:=tP;omega
def dM(a:aa G)(h: -9223372036854775808<=i)(b:i<9223372036854775808):xf G 28 [int i] (F (i:cl)):=by have f1:=wT a (h:=i) (i:=1) za (Wf h b) aeE;rw[Kg]at f1;exact Spec.r a func28 [] [z3 (VR a h b),z3 (C6 a),z3 f1]
def aeX(h:i≠0):(i.sign==0)=aj:=by rw[c4];intro a;exact h (sE.1 a)
def YN(c:i≠0)(e:oZ h)(b:oZ i):xf G 61 [W h,W i] (.aP [F (hU h i),xc]):=
 Spec.r a func61 [2,3] [z3 (ph a b),.eb 8 (aeX c),z3 (wT a c e b)]
def FD{x y:D}(d:yw b x j)(e:yw c y m)(g:b<=KB)(f:c<=KB)(p:m≠0):
  xf G 320 [x,y] (.aP [F (j/m),xc]):=by
 have l:=d.parts a g;have i:=e.parts a f;have n:=l6 a (d.num g) (e.den f);have k:=l6 a (d.den g) (e.num f);have o:((j.den:aw):cA)*m.num≠0:=Int.mul_ne_zero (Ff j) (λh=>p (asx.1 h));have f1:=YN a o (oy d.sz.1 e.A1 g f) (oy d.A1 e.sz.1 g f);rw[XX]at f1;obtain⟨r,rfl,-,rfl⟩:=d;obtain⟨q,rfl,-,rfl⟩:=e;exact Spec.r a func320 [2,3] [z3 l,z3 i,z3 n,z3 k,z3 f1]
def Eu(a:aa G):xf G 104 [] (W 1):=
 Spec.r a func104 [] [z3 (ad3 a (i:=1) za za)]
def Ld:xf G 101 [ak []] (bool aj):=
 Spec.r a func101 [] []
def Ih(b:gg d)(l:y6 d<=2^44)(h:d≠[]):xf G 101 [ak d] (bool (Full d)):=by
  have e:=dS;have c:0<y6 d:=aqd.2 h;rw[LH b h];exact Spec.r a func101 [] [.eb 5 (x:=decide (zNq (y6 d)>0)) (y:=bj) zT,.eq 10 (bL (lP (a:=y6 d) za c)),yu (cU (b:=d) (a:=y6 d-1) za),yu (a7 (b:=d) (a:=y6 d-1) za),.eq 12 (aT (b:=d) (a:=y6 d-1) za),
     .eb 13 (x:=(zNq (y7 d (y6 d-1) 0) !=0)) (y:= !(y7 d (y6 d-1) 0==0)) (by rw[aqf];simp)]
def Of(d:aa G)(hs:f=bj->0<b)(a:u=bj->0<c)(m:Sz b)(n:Sz c):xf G 103 [wv f b,wv u c] (wv aj (c8 b c)):=by
 have h:=YD d (i:=iH f b) (h:=iH u c) (by unfold oZ;rw[e_];exact m) (by unfold oZ;rw[e_];exact n)
 rw[pA hs,pA a,Gj]at h;have e:gx (iH f b) (iH u c)=c8 b c:=by unfold gx;rw[e_,e_]
 rw[e]at h;exact h
def ad4(a:aa G)(h:y6 (words g)<2^43):xf G 102 [wv aj g,W 1] (int (A2 (g:cA) 1)):=by have:=YF a (i:=(g:cA)) (h:=1) h zv;rw[Gj]at this;exact this
def lK(a:aa G)(q:k.ok b)(u:b<=KB):xf G 40 [k.Cd] (bool k.valid):=by
 have x:=tP;have A:=dS;obtain⟨s,n,d⟩:=k;obtain⟨o,p,j,l,-⟩:=q;simp only at o p j l;rw[pn]at u;by_cases c:n=[]
 ·subst c
  by_cases f:d=[]
  ·subst f
   exact Spec.r a func40 [1] []
  ·have r:(Raw.mk s [] d).valid=aj:=by
    unfold Raw.valid;rw[ape (λh=>f h.2)]
    exact apG λh=>h.1 rfl
   rw[r];exact Spec.r a func40 [1] [.eb 11 (lJ f),z3 (Ld a)]
 ·have g:(Raw.mk s n d).valid=decide (Raw.mk s n d).mz:=by unfold Raw.valid;rw[ape (λh=>c h.1)]
  have v1:=Ih a o za c
  cases f1:Full n with
  |false=>
   rw[f1]at v1;have r:(Raw.mk s n d).valid=aj:=by
    rw[g];refine apG λh=>?_
    have i:n=words (val n):=h.2.2.1;rw[i,ym]at f1;cases f1
   rw[r];exact Spec.r a func40 [1] [.eb 6 (lJ c),z3 v1]
  |true=>
   rw[f1]at v1;by_cases f:d=[]
   ·subst f
    have r:(Raw.mk s n []).valid=aj:=by rw[g];exact apG λh=>h.2.1 rfl
    rw[r];exact Spec.r a func40 [1] [.eb 6 (lJ c),z3 v1,z3 (Ld a)]
   ·have v2:=Ih a p za f
    cases f2:Full d with
    |false=>
     rw[f2]at v2;have r:(Raw.mk s n d).valid=aj:=by
      rw[g];refine apG λh=>?_
      have i:d=words (val d):=h.2.2.2.1;rw[i,ym]at f2;cases f2
     rw[r];exact Spec.r a func40 [1] [.eb 6 (lJ c),z3 v1,z3 v2]
    |true=>
     rw[f2]at v2;obtain⟨N,rfl⟩:=DE f1;obtain⟨M,rfl⟩:=DE f2;have v:0<N:=by obtain e|e:=apv N;(·subst e;exact api rfl c);exact e
     have w:0<M:=by obtain e|e:=apv M;(·subst e;exact api rfl f);exact e
     have z:y6 (words (c8 N M))<2^43:=by have:=vh (g:=b) j l;omega
     have y:=Of a (f:=aj) (u:=aj) (b:=N) (c:=M) zb zb (by unfold Sz;omega) (by unfold Sz;omega)
     have r:(Raw.mk s (words N) (words M)).valid=decide (c8 N M=1):=by rw[g];exact uL.2 (Qm s N M v w)
     rw[r];exact Spec.r a func40 [1] [.eb 6 (lJ c),z3 v1,z3 v2,z3 y,z3 (Eu a),z3 (ad4 a z),.eb 34 (Vz (c8 N M))]
def Q9(o:k.ok b)(p:b<=KB):xf G 105 [k.Cd] (.aP [W k.q.num,W k.q.den]):=by
 have c:=lK a o p;by_cases r:k.mz
 ·obtain⟨u,t⟩:=Raw.CY r
  have e:=Raw.I9 r;have m:=Raw.I_ r;rw[Raw.B8 r]at c;rw[u,t,pA (λ_=>e),Gj]
  obtain⟨s,n,d⟩:=k;obtain⟨i,q,g,f,-⟩:=r;simp only at i q g f e m⊢;have l:wv s (val n)=y4 [bool s,ak n]:=by unfold wv;rw[<-g]
  have j:wv (aj&&decide (0<val d)) (val d)=y4 [bool aj,ak d]:=by unfold wv;rw[<-f];rfl
  rw[l,j];exact Spec.r a func105 [1] [z3 c,.eb 11 (lJ i)]
 ·rw[Raw.R7 r]
  obtain h|h:=Raw.bad r
  ·rw[h]at c
   exact Spec.r a func105 [1] [z3 c,z3 (Eu a)]
  ·subst h
   exact Spec.r a func105 [1] [z3 c,z3 (Eu a)]
def yk(i:aa G)(m:0<b)(a:0<g)(c:g∣b)(e:Sz b)(s:Sz g):
  xf G 326 [wv f b,wv aj g] (.aP [wv f (b/g),wv (aj&&decide (0<b%g)) (b%g),int 0]):=by
 have h:=YE i (f:=f) (u:=aj) (b:=b) (c:=g) (λ_=>m) zb a e s (y2 (ash c));have d:0<b/g:=Nat.div_pos (Nat.le_of_dvd m c) a;rw[apE d,ar6,Bool.xor_false]at h;exact h
def WB(a:aa G)(e:0<b)(o:0<c)(m:Sz b)(d:Sz c):
  xf G 298 [wv f b,wv aj c] (y4 [bool f,ak (words (b/c8 b c)),ak (words (c/c8 b c))]):=by
 have h:0<c8 b c:=art _ e;have i:Sz (c8 b c):=by unfold Sz at*;exact vh m d
 have g:=uP a (f:=f) (b:=b) (λ_=>e) m.aW
 have s:=uP a (f:=aj) (b:=c) zb d.aW
 rw[ape za]at g s
 have l:=Of a (f:=f) (u:=aj) (b:=b) (c:=c) (λ_=>e) zb m d
 have k:=yk a (f:=f) e h (asl b c) m i;have j:=yk a (f:=aj) o h (asf b c) d i;cases f<;>exact Spec.r a func298 [] [z3 g,z3 s,z3 l,z3 k,z3 j]
def WC(a:aa G){s:b5}{m e:aw}(b:0<m)(f:0<e)(c:Sz m)(d:Sz e):
  Spec zZq G 298 [wv s m,wv bj e] (.agg [bool !s,ak (words (m/c8 m e)),ak (words (e/c8 m e))]):=by
 have j:0<c8 m e:=art _ b;have k:Sz (c8 m e):=by unfold Sz at*;exact vh c d
 have i:=uP a (f:=s) (b:=m) (λ_=>b) c.aW
 have h:=uP a (f:=bj) (b:=e) (λ_=>f) d.aW
 rw[ape za]at i h
 have q:=Of a (f:= !s) (u:=aj) (b:=m) (c:=e) (λ_=>b) zb c d
 have p:=yk a (f:= !s) b j (asl m e) c k;have o:=yk a (f:=aj) f j (asf m e) d k;have g:=Oe a (s:=s) (n:=m) (λ_=>b) c.aW
 have l:=Oe a (s:=bj) (n:=e) (λ_=>f) d.aW
 rw[apE b,ar6]at g;cases s<;>exact Spec.r a func298 [] [.call i,.call h,.call g,.call l,.call q,.call p,.call o]
def RZ(a:aa G)(d:cA):xf G 298 [W 0,W d] (F 0):=by have b:=Cl a (i:=0) (by unfold oZ Sz;decide);exact Spec.r a func298 [3] [z3 b]
def K6(u:i≠0)(b:oZ h)(c:oZ i):xf G 298 [W h,W i] (F (hU h i)):=by
 by_cases f:h=0
 ·subst f;rw[Rat.zero_divInt];exact RZ a _
 ·obtain⟨s,m,rfl,k,l⟩:=nE h
  obtain⟨t,e,rfl,j,o⟩:=nE i;unfold oZ at b c;rw[<-l]at b;rw[<-o]at c;have d:0<m:=by obtain q|q:=apv m;(·subst q;exact api (by cases s<;>rfl) f);exact q
  have n:0<e:=by obtain q|q:=apv e;(·subst q;exact api (by cases t<;>rfl) u);exact q
  rw[pA k,pA j];cases t with
  |false=>
   rw[ag3 (IC s d) (by show(0:cA)<(e:cA);omega),DL s d,e_,e_]
   have g:gx (iH s m) (iH aj e)=c8 m e:=by unfold gx;rw[e_,e_]
   rw[g];exact WB a d n b c
  |true=>
   have r:iH s m= -(iH (!s) m):=by cases s<;>simp[iH]
   have p:iH bj e= -(iH aj e):=rfl;rw[r,p,Rat.neg_divInt_neg,ag3 (IC (!s) d) (by show(0:cA)<(e:cA);omega),DL (!s) d,e_,e_]
   have g:gx (iH (!s) m) (iH aj e)=c8 m e:=by unfold gx;rw[e_,e_]
   rw[g];exact WC a d n b c
def yw.MH{x:D}(h:yw b x j)(c:b<=KB):xf G 105 [x] (.aP [W j.num,W j.den]):=by obtain⟨r,rfl,d,rfl⟩:=h;exact Q9 a d c
def TP{x y:D}(d:yw b x j)(g:yw c y m)(f:b<=KB)(e:c<=KB):xf G 241 [x,y] (F (j+m)):=by have i:=d.MH a f;have h:=g.MH a e;have n:=Fu a (d.num f) (g.den e);have k:=Fu a (g.num e) (d.den f);have l:=Fu a (d.den f) (g.den e);have s1:=Me a (oy d.sz.1 g.A1 f e) (oy g.sz.1 d.A1 e f);have f1:=K6 a (NP j m) (Ud d g f e) (oy d.A1 g.A1 f e);rw[Mb]at f1;obtain⟨r,rfl,-,rfl⟩:=d;obtain⟨q,rfl,-,rfl⟩:=g;exact Spec.r a func241 [2,3] [z3 i,z3 h,z3 n,z3 k,z3 s1,z3 l,z3 f1]
def TO(d:aa G){x:D}(a:yw b x j)(c:b<=KB):xf G 243 [x] (F (-j)):=by have e:=a.MH d c;have f:=Md d (a.num c);have f1:=K6 d (Ff j) (h:= -j.num) (by have:=a.num c;unfold oZ at this⊢;rw[arw];exact this) (a.den c);rw[Lr]at f1;obtain⟨r,rfl,-,rfl⟩:=a;exact Spec.r d func243 [1] [z3 e,z3 f,z3 f1]
def TN{x y:D}(e:yw b x j)(d:yw c y m)(h:b<=KB)(f:c<=KB):xf G 244 [x,y] (F (j-m)):=by have g:=TO a d f;have s1:=TP a e d.sz.neg.uV h f;rw[<-arM]at s1;obtain⟨r,rfl,-,rfl⟩:=e;obtain⟨q,rfl,-,rfl⟩:=d;exact Spec.r a func244 [2,3] [z3 g,z3 s1]
def z4{x:D}(c:yw b x j)(d:b<=KB):xf G 41 [x] (int (nV j)):=by have e:=c.MH a d;have f:=Cl a (c.num d);obtain⟨r,rfl,-,rfl⟩:=c;exact Spec.r a func41 [1] [z3 e,z3 f]
def JQ{x y:D}(d:yw b x j)(e:yw c y m)(g:b+c<KB):xf G 187 [x,y] (int (wW j m)):=by have s1:=TN a d e za za;have f:=z4 a (d.sz.sub e.sz).uV za;rw[adm]at f;obtain⟨r,rfl,-,rfl⟩:=d;obtain⟨q,rfl,-,rfl⟩:=e;exact Spec.r a func187 [2,3] [z3 s1,z3 f]
def aal(a:cl):a+0=a:=asQ a
def abY:yw 1 (F 0) 0:=(GO za).uV
def ZE(a:0<b)(n:y6 (words h.natAbs)<=b):gY b (h:cl):=by unfold gY;rw[Rat.num_intCast,Rat.den_intCast];exact⟨n,by rw[G1];omega,a⟩
def Oy(h:k.valid=bj):k=gM k.q:=by
 by_cases a:k.mz;obtain⟨g,f⟩:=Raw.CY a;have c:=Raw.I9 a;obtain⟨-,-,e,d,-⟩:=id a;unfold gM;rw[g,f,ape (IC _ c),DL _ c,e_,<-e,<-d];obtain b|b:=Raw.bad a
 rw[b]at h;cases h;subst b;rfl
def vd(q:cl):(gM q).valid=bj:=by
 by_cases h:q.num=0
 ·have e:gM q=⟨aj,[],[]⟩:=by unfold gM;rw[aph h]
  rw[e];rfl
 ·exact Raw.B8 (H_ h)
def Raw.ok.uV(h:k.ok b):yw b k.Cd k.q:=⟨k,rfl,h,rfl⟩
def ah4{x:D}(d:yw b x j)(c:b<=KB):xf G 112 [x,F 0] (F j):=by
 have:=xa a d abY c (by rw[pn];omega)
 rwa [aal]at this
def cF(q:cl):ai D:=[bool (gM q).s,ak (gM q).n,ak (gM q).d]
def FG:ai D:=[bool aj,ak [],ak []]
def aij(h:0<b):gY b ((1:cA):cl):=ZE h (by show y6 (words 1)<=b;rw[G1];omega)
namespace fb
open zY dH
abbrev aM:=ai (ai cl)
section val
variable {K:Type} [dH K] (ι:pD cl K) (s:aw->K)
def V:aw->(aw->cl)->K
 |0,f=>ι.φ (f 0)
 |k+1,f=>V k f+V k (λi=>f (i+2^k))*s k
def rK:∀(k:aw)(f g:aw->cl),(∀i,i<2^k->f i=g i)->V ι s k f=V ι s k g
 |0,f,g,h=>by simp only[V];rw[h 0 zb]
 |k+1,f,g,h=>by
  have e:2^(k+1)=2^k+2^k:=by rw[apK];omega
  simp only[V];rw[rK k f g λi a=>h i za,rK k _ (λi=>g (i+2^k)) λi a=>h _ za]
def Ob:∀k,V ι s k (λ_=>0)=0
 |0=>ι.zero
 |k+1=>by simp only[V,Ob k];exact rg [s k]
def ad0:∀(k:aw)(f g:aw->cl),V ι s k (λi=>f i+g i)=V ι s k f+V ι s k g
 |0,f,g=>ι.add _ _
 |k+1,f,g=>by simp only[V];rw[ad0 k f g,ad0 k (λi=>f (i+2^k)) (λi=>g (i+2^k))];exact rg [V ι s k f,V ι s k g,V ι s k (λi=>f (i+2^k)),V ι s k (λi=>g (i+2^k)),s k]
def adZ:∀(k:aw)(f:aw->cl),V ι s k (λi=> -(f i))= -V ι s k f
 |0,f=>ι.neg _
 |k+1,f=>by simp only[V];rw[adZ k f,adZ k (λi=>f (i+2^k))];exact rg [V ι s k f,V ι s k (λi=>f (i+2^k)),s k]
def am5{k:aw}{f:aw->cl}(h:∀i,2^k<=i->i<2^(k+1)->f i=0):V ι s (k+1) f=V ι s k f:=by
 have e:2^(k+1)=2^k+2^k:=by rw[apK];omega
 simp only[V];rw[rK ι s k (λi=>f (i+2^k)) (λ_=>0) λi a=>h _ za za,Ob]
 exact rg [V ι s k f,s k]
def ao8{j:aw}:∀{k:aw}{f:aw->cl},j<=k->(∀i,2^j<=i->f i=0)->V ι s k f=V ι s j f:=by
 intro k f b h;obtain⟨d,rfl⟩:∃d,k=j+d:=⟨k-j,by omega⟩;clear b;induction d with
 |zero=>rfl
 |succ d a=>
  rw[<-a];refine am5 ι s λi c _=>h i ?_
  exact apm (apI za (ar3 j d)) c
def lv(k:aw)(l:ai cl):K:=V ι s k λi=>y7 l i 0
def BV(k:aw):lv ι s k []=0:=by
 show V ι s k (λi=>([]:ai cl).getD i 0)=0
 have:(λi=>([]:ai cl).getD i 0)=λ_=>(0:cl):=by funext i;simp
 rw[this,Ob]
def pX{l:ai cl}{i:aw}(h:y6 l<=i):y7 l i 0=0:=by rw[apf,apL h];rfl
def nI{j k:aw}{l:ai cl}(b:y6 l<=2^j)(a:j<=k):lv ι s k l=lv ι s j l:=ao8 ι s a λ_ c=>pX za
def abD(q:cl):lv ι s 0 [q]=ι.φ q:=rfl
def Ap{k:aw}(l:ai cl):lv ι s (k+1) l=lv ι s k (l.take (2^k))+lv ι s k (l.drop (2^k))*s k:=by
 unfold lv;simp only[V];congr 1;refine rK ι s k _ _ λi a=>?_
 simp only[bP,gi,nT a];congr 1;refine rK ι s k _ _ λi a=>?_
 simp only[bP,lf,vT]
def Lu{k:aw}{a b:ai cl}(c:y6 a=2^k):lv ι s (k+1) (a++b)=lv ι s k a+lv ι s k b*s k:=by rw[Ap,<-c,asG,List.drop_left]
end val
def fp(a:ai cl):b5:=a.all λq=>decide (q=0)
def aZ(a:ai cl)(n:aw):ai cl:=(ch n).map λi=>y7 a i 0
def dV(a b:ai cl):ai cl:=(ch (max (y6 a) (y6 b))).map λi=>y7 a i 0+y7 b i 0
def gD(a:ai cl):ai cl:=a.map λq=> -q
def fW(a b:ai cl)(n:aw):ai cl:=aZ a n++aZ b n
def GD:aw->ai cl->ai cl
 |0,a=>if fp a then []else a
 |k+1,a=>if fp (a.drop (2^k))then GD k (a.take (2^k))else a
def dN(a:ai cl):ai cl:=if y6 a=0 then []else GD (kG (y6 a)) a
def bH(t:aM):aw->ai cl->ai cl->ai cl
 |0,a,b=>if fp a||fp b then []else [y7 a 0 0*y7 b 0 0]
 |k+1,a,b=>
  if fp a||fp b then []else
  let p:=if y6 a<y6 b then b else a
  let q:=if y6 a<y6 b then a else b
  if y6 p=1 then [y7 p 0 0*y7 q 0 0]else
  let n:=y6 p/2
  if y6 q<=n then fW (bH t k (p.take n) q) (bH t k (p.drop n) q) n else
  fW (dV (bH t k (p.take n) (q.take n)) (bH t k (bH t k (p.drop n) (q.drop n)) (y7 t (kG n) [])))
   (dV (bH t k (p.take n) (q.drop n)) (bH t k (p.drop n) (q.take n))) n
def gC(t:aM)(k:aw)(a:ai cl):ai cl:=
 let n:=y6 a/2
 dV (bH t k (a.take n) (a.take n)) (gD (bH t k (bH t k (a.drop n) (a.drop n)) (y7 t (kG n) [])))
def iN(t:aM):aw->ai cl->cA
 |0,a=>nV (y7 a 0 0)
 |k+1,a=>
  let a:=dN a
  if y6 a=0 then 0 else
  if y6 a=1 then nV (y7 a 0 0)else
  let n:=y6 a/2
  let x:=iN t k (a.take n)
  let y:=iN t k (a.drop n)
  if iN t k (y7 t (kG n) [])=0 then x else
  if x=y\/y=0 then x else
  if x=0 then y else x*iN t k (gC t k a)
def Sh(k:aw)(a:ai cl):Prop:=a=[]\/∃j,j<=k/\y6 a=2^j
def eJ(k:aw)(t:aM):Prop:=∀j<k,y6 (y7 t j [])=2^j
def Sh.nil(k:aw):Sh k []:=y1 rfl
def Sh.mono{k m:aw}{a:ai cl}(h:Sh k a)(c:k<=m):Sh m a:=by
 obtain h|⟨j,d,b⟩:=h
 exact y1 h;exact y2 ⟨j,by omega,b⟩
def Sh.len{k:aw}{a:ai cl}(h:Sh k a):y6 a<=2^k:=by
 obtain rfl|⟨j,c,b⟩:=h
 simp;rw[b];exact apI za c
def Sh.of{k:aw}{a:ai cl}(h:y6 a=2^k):Sh k a:=y2 ⟨k,apc _,h⟩
def qz{a:ai cl}:fp a=bj↔∀i,y7 a i 0=0:=by
 unfold fp;rw[apH];constructor;intro h i;obtain b|b:=apy i (y6 a)
 rw[apf,apj b];exact hJ (h _ (apD b));exact pX b;intro h q c;obtain⟨i,b,rfl⟩:=apF.1 c;have:=h i;rw[apf,apj b]at this;exact apE this
def jF:fp []=bj:=rfl
def fy(a:ai cl)(n:aw):y6 (aZ a n)=n:=by simp[aZ]
def lh(a:ai cl)(n i:aw):(aZ a n).getD i 0=if i<n then y7 a i 0 else 0:=by unfold aZ;rw[apf,aqz];by_cases h:i<n;rw[aph h,asF h];rfl;rw[ape h,apL (by simpa using h)];rfl
def wo(a b:ai cl):y6 (dV a b)=max (y6 a) (y6 b):=by simp[dV]
def Ig(a b:ai cl)(i:aw):(dV a b).getD i 0=y7 a i 0+y7 b i 0:=by unfold dV;rw[apf,aqz];by_cases h:i<max (y6 a) (y6 b);rw[asF h];rfl;rw[apL (by simpa using h),pX za,pX (l:=b) za];show(0:cl)=0+0;rw[asQ]
def xL(a:ai cl):y6 (gD a)=y6 a:=by simp[gD]
def F0(a:ai cl)(i:aw):(gD a).getD i 0= -(y7 a i 0):=by
 unfold gD;rw[apf,aqz,apf];cases a[i]?with
 |none=>show(0:cl)= -0;rw[Rat.neg_zero]
 |some q=>rfl
def iP(k:aw):kG (2^k)=k:=Nat.log2_two_pow
def fY(k:aw):2^(k+1)/2=2^k:=by rw[apK];omega
def da(k:aw):0<2^k:=aqC za
def Sh.plus{k:aw}{a b:ai cl}(l:Sh k a)(e:Sh k b):Sh k (dV a b):=by
 obtain rfl|⟨i,g,f⟩:=l
 obtain rfl|⟨j,d,c⟩:=e
 exact y1 rfl;exact y2 ⟨j,d,by rw[wo,c];simp⟩;obtain rfl|⟨j,d,c⟩:=e
 exact y2 ⟨i,g,by rw[wo,f];simp⟩;rw[Sh,wo,f,c];right;obtain h|h:=Nat.le_total i j
 exact⟨j,d,asT (apI za h)⟩;exact⟨i,g,Nat.max_eq_left (apI za h)⟩
def Sh.minus{k:aw}{a:ai cl}(b:Sh k a):Sh k (gD a):=by
 obtain rfl|⟨i,d,c⟩:=b
 exact y1 rfl;exact y2 ⟨i,d,by rw[xL,c]⟩
def Vt:∀(k:aw)(a:ai cl),y6 a=2^k->Sh k (GD k a)
 |0,a,h=>by
  unfold GD;split
  ·exact y1 rfl
  ·exact .of h
 |k+1,a,h=>by
  unfold GD;have e:2^(k+1)=2^k+2^k:=by rw[apK];omega
  split
  ·exact(Vt k _ (by rw[apr];omega)).mono za
  ·exact .of h
def LW:∀(k:aw)(a:ai cl),y6 a=2^k->∀i,(GD k a).getD i 0=y7 a i 0
 |0,a,h,i=>by
  unfold GD;split
  ·rename_i b;rw[qz.1 b i];rfl
  ·rfl
 |k+1,a,h,i=>by
  unfold GD;have e:2^(k+1)=2^k+2^k:=by rw[apK];omega
  split
  ·rename_i b
   rw[LW k _ (by rw[apr];omega)]
   by_cases c:i<2^k
   ·simp only[bP,gi,nT c]
   ·have:=qz.1 b (i-2^k)
    simp only[bP,lf,gi,ks c]at this⊢;rw[show 2^k+(i-2^k)=i by omega]at this
    rw[this];rfl
  ·rfl
def iF{k:aw}{a:ai cl}(h:Sh k a):Sh k (dN a):=by
 unfold dN;obtain rfl|⟨j,c,b⟩:=h
 exact y1 rfl;have:=da j;rw[ape za,b,iP];exact(Vt j a b).mono c
def kU{k:aw}{a:ai cl}(h:Sh k a)(i:aw):(dN a).getD i 0=y7 a i 0:=by
 unfold dN;obtain rfl|⟨j,c,b⟩:=h
 rfl;have:=da j;rw[ape za,b,iP];exact LW j a b i
section anl
variable {K:Type} [dH K] (ι:pD cl K) (s:aw->K)
def ahv{k:aw}{a b:ai cl}(h:∀i,y7 a i 0=y7 b i 0):lv ι s k a=lv ι s k b:=rK ι s k _ _ λi _=>h i
def rD(k:aw)(a b:ai cl):lv ι s k (dV a b)=lv ι s k a+lv ι s k b:=by unfold lv;rw[<-ad0];exact rK ι s k _ _ λi _=>Ig a b i
def uq(k:aw)(a:ai cl):lv ι s k (gD a)= -lv ι s k a:=by unfold lv;rw[<-adZ];exact rK ι s k _ _ λi _=>F0 a i
def Ao{k:aw}(a:ai cl):lv ι s k (aZ a (2^k))=lv ι s k a:=rK ι s k _ _ λi b=>by rw[lh,aph b]
def UW{k:aw}(a b:ai cl):lv ι s (k+1) (fW a b (2^k))=lv ι s k a+lv ι s k b*s k:=by unfold fW;rw[Lu ι s (fy a _),Ao,Ao]
def G0{k:aw}{a:ai cl}(h:fp a=bj):lv ι s k a=0:=by unfold lv;rw[rK ι s k _ (λ_=>0) λi _=>qz.1 h i,Ob]
def n9{k j:aw}{a:ai cl}(h:Sh j a):lv ι s k (dN a)=lv ι s k a:=ahv ι s (kU h)
def kD(a b:ai cl)(n:aw):y6 (fW a b n)=n+n:=by unfold fW;rw[ap4,fy,fy]
structure Model(t:aM)(n:aw):Prop where
 nn:∀k<n,dH.nn (s k)
 sq:∀k<n,s k*s k=lv ι s k (t.getD k [])
def gT{t:aM}:∀(k:aw)(a b:ai cl),eJ k t->Model ι s t k->Sh k a->Sh k b->
  Sh k (bH t k a b)/\lv ι s k (bH t k a b)=lv ι s k a*lv ι s k b/\y6 (bH t k a b)<=max (y6 a) (y6 b)
 |0,a,b,_,_,m,n=>by
  unfold bH;have la:=m.len;have lb:=n.len;split
  ·rename_i h
   rw[ap6]at h;refine⟨y1 rfl,?_,by simp⟩
   rw[BV];obtain h|h:=h
   ·rw[G0 ι s h,jE]
   ·rw[G0 ι s h,bB]
  ·rename_i h
   refine⟨.of rfl,ι.mul _ _,?_⟩;obtain rfl|⟨j,o,h2⟩:=m
   ·exact api (by rw[jF];rfl) h
   ·have:=da j;simp only[ey,fl];omega
 |k+1,a,b,G,y,m,n=>by
  have d:eJ k t:=λj F=>G j za
  have c:Model ι s t k:=⟨λj F=>y.nn j za,λj F=>y.sq j za⟩
  unfold bH;split
  ·rename_i h
   rw[ap6]at h;refine⟨y1 rfl,?_,by simp⟩
   rw[BV];obtain h|h:=h
   ·rw[G0 ι s h,jE]
   ·rw[G0 ι s h,bB]
  ·rename_i x
   rw[ap6]at x;have key:∀p q:ai cl,Sh (k+1) p->Sh (k+1) q->y6 q<=y6 p->p≠[]->
     Sh (k+1) (if y6 p=1 then [y7 p 0 0*y7 q 0 0]else if y6 q<=y6 p/2 then fW (bH t k (p.take (y6 p/2)) q) (bH t k (p.drop (y6 p/2)) q) (y6 p/2)else
      fW (dV (bH t k (p.take (y6 p/2)) (q.take (y6 p/2))) (bH t k (bH t k (p.drop (y6 p/2)) (q.drop (y6 p/2))) (y7 t (kG (y6 p/2)) [])))
       (dV (bH t k (p.take (y6 p/2)) (q.drop (y6 p/2))) (bH t k (p.drop (y6 p/2)) (q.take (y6 p/2)))) (y6 p/2))/\
     lv ι s (k+1) (if y6 p=1 then [y7 p 0 0*y7 q 0 0]else if y6 q<=y6 p/2 then fW (bH t k (p.take (y6 p/2)) q) (bH t k (p.drop (y6 p/2)) q) (y6 p/2)else
      fW (dV (bH t k (p.take (y6 p/2)) (q.take (y6 p/2))) (bH t k (bH t k (p.drop (y6 p/2)) (q.drop (y6 p/2))) (y7 t (kG (y6 p/2)) [])))
       (dV (bH t k (p.take (y6 p/2)) (q.drop (y6 p/2))) (bH t k (p.drop (y6 p/2)) (q.take (y6 p/2)))) (y6 p/2))=lv ι s (k+1) p*lv ι s (k+1) q/\
     y6 (if y6 p=1 then [y7 p 0 0*y7 q 0 0]else if y6 q<=y6 p/2 then fW (bH t k (p.take (y6 p/2)) q) (bH t k (p.drop (y6 p/2)) q) (y6 p/2)else
      fW (dV (bH t k (p.take (y6 p/2)) (q.take (y6 p/2))) (bH t k (bH t k (p.drop (y6 p/2)) (q.drop (y6 p/2))) (y7 t (kG (y6 p/2)) [])))
       (dV (bH t k (p.take (y6 p/2)) (q.drop (y6 p/2))) (bH t k (p.drop (y6 p/2)) (q.take (y6 p/2)))) (y6 p/2))<=y6 p:=by
    intro p q S E hle Q;obtain rfl|⟨j,V,u⟩:=S
    ·exact api rfl Q
    ·cases j with
     |zero=>
      have o:y6 p=1:=u;rw[aph o];refine⟨y2 ⟨0,by omega,rfl⟩,?_,by rw[o];simp⟩
      rw[nI ι s (j:=0) zb za,nI ι s (j:=0) (l:=p) (by rw[o];simp) za,nI ι s (j:=0) (l:=q) zT za]
      exact ι.mul _ _
     |succ j=>
      have T:y6 p/2=2^j:=by rw[u,fY]
      have e2:2^(j+1)=2^j+2^j:=by rw[apK];omega
      have pj:=da j;rw[ape za,T,iP]
      have w:Sh k (p.take (2^j)):=y2 ⟨j,by omega,by rw[apr];omega⟩
      have v:Sh k (p.drop (2^j)):=y2 ⟨j,by omega,by rw[apu];omega⟩
      have lx:y6 (p.take (2^j))=2^j:=by rw[apr];omega
      have ly:y6 (p.drop (2^j))=2^j:=by rw[apu];omega
      have low:∀l:ai cl,y6 l<=2^j->lv ι s k l=lv ι s j l:=λl U=>nI ι s U za
      have z:lv ι s (k+1) p=lv ι s k (p.take (2^j))+lv ι s k (p.drop (2^j))*s j:=by
       rw[nI ι s (j:=j+1) za za,Ap,low _ za,low _ za]
      have fin:∀A B:ai cl,y6 A<=2^j->y6 B<=2^j->Sh (k+1) (fW A B (2^j))/\lv ι s (k+1) (fW A B (2^j))=lv ι s k A+lv ι s k B*s j:=λA B Y X=>
       ⟨y2 ⟨j+1,by omega,by rw[kD];omega⟩,by
        rw[nI ι s (j:=j+1) (by rw[kD];omega) za,UW,low _ Y,low _ X]⟩
      by_cases f:y6 q<=2^j
      ·rw[aph f]
       have sq:Sh k q:=by
        obtain rfl|⟨i,hi1,r⟩:=E
        ·exact y1 rfl
        ·refine y2 ⟨i,?_,r⟩
         rw[r]at f;have:=(arJ (a:=2) za).1 f
         omega
       obtain⟨s1,v1,P⟩:=gT k _ q d c w sq;obtain⟨s2,v2,O⟩:=gT k _ q d c v sq;obtain⟨f1,f2⟩:=fin (bH t k (p.take (2^j)) q) (bH t k (p.drop (2^j)) q) za za
       refine⟨f1,?_,by rw[kD];omega⟩
       rw[f2,v1,v2,z,nI ι s (j:=k) (k:=k+1) (l:=q) sq.len za]
       exact rg [lv ι s k (p.take (2^j)),lv ι s k (p.drop (2^j)),lv ι s k q,s j]
      ·rw[ape f]
       have R:y6 q=2^(j+1):=by
        obtain rfl|⟨i,hi1,r⟩:=E
        ·simp at f
        ·rw[r]at hle f⊢
         rw[u]at hle;have g1:=(arJ (a:=2) za).1 hle
         have g2:j<i:=(uc (a:=2) za).1 za
         rw[show i=j+1 by omega]
       have D:Sh k (q.take (2^j)):=y2 ⟨j,by omega,by rw[apr];omega⟩
       have C:Sh k (q.drop (2^j)):=y2 ⟨j,by omega,by rw[apu];omega⟩
       have lu:y6 (q.take (2^j))=2^j:=by rw[apr];omega
       have lw:y6 (q.drop (2^j))=2^j:=by rw[apu];omega
       have W:=G j za
       have M:Sh k (y7 t j []):=y2 ⟨j,by omega,W⟩
       obtain⟨s1,v1,P⟩:=gT k _ _ d c w D;obtain⟨s2,v2,O⟩:=gT k _ _ d c v C;obtain⟨s3,L,l3⟩:=gT k _ _ d c s2 M;obtain⟨s4,v4,l4⟩:=gT k _ _ d c w C;obtain⟨s5,J,l5⟩:=gT k _ _ d c v D;obtain⟨f1,f2⟩:=fin (dV (bH t k (p.take (2^j)) (q.take (2^j))) (bH t k (bH t k (p.drop (2^j)) (q.drop (2^j))) (y7 t j [])))
        (dV (bH t k (p.take (2^j)) (q.drop (2^j))) (bH t k (p.drop (2^j)) (q.take (2^j)))) (by rw[wo];omega) (by rw[wo];omega)
       refine⟨f1,?_,by rw[kD];omega⟩
       have I:lv ι s (k+1) q=lv ι s k (q.take (2^j))+lv ι s k (q.drop (2^j))*s j:=by
        rw[nI ι s (j:=j+1) za za,Ap,low _ za,low _ za]
       have g:=y.sq j za
       rw[<-nI ι s (k:=k) za za]at g
       rw[f2,rD,rD,v1,L,v2,v4,J,z,I];exact rg1 [lv ι s k (p.take (2^j)),lv ι s k (p.drop (2^j)),lv ι s k (q.take (2^j)),lv ι s k (q.drop (2^j)),s j,lv ι s k (y7 t j [])]
        (-(lv ι s k (p.drop (2^j))*lv ι s k (q.drop (2^j)))) g zk
   have Z:a≠[]:=λe=>x (y1 (by rw[e];rfl))
   have N:b≠[]:=λe=>x (y2 (by rw[e];rfl))
   by_cases H:y6 a<y6 b
   ·simp only[nT H]
    obtain⟨k1,k2,k3⟩:=key b a n m za N
    refine⟨k1,by rw[k2,fT],by omega⟩
   ·simp only[ks H]
    obtain⟨k1,k2,k3⟩:=key a b m n za Z
    exact⟨k1,k2,by omega⟩
def abh{t:aM}{k j:aw}{a:ai cl}(g:eJ k t)(h:Model ι s t k)(p:j<k)(q:y6 a=2^(j+1)):
  Sh j (gC t j a)/\lv ι s j (gC t j a)=lv ι s j (a.take (2^j))*lv ι s j (a.take (2^j))-lv ι s j (a.drop (2^j))*lv ι s j (a.drop (2^j))*lv ι s j (y7 t j []):=by
 have r:2^(j+1)=2^j+2^j:=by rw[apK];omega
 have o:y6 a/2=2^j:=by rw[q,fY]
 have c:eJ j t:=λi f=>g i za
 have b:Model ι s t j:=⟨λi f=>h.nn i za,λi f=>h.sq i za⟩
 have e:Sh j (a.take (2^j)):=.of (by rw[apr];omega)
 have d:Sh j (a.drop (2^j)):=.of (by rw[apu];omega)
 have m:Sh j (y7 t j []):=.of (g j p);obtain⟨s1,v1,-⟩:=gT ι s j _ _ c b e e;obtain⟨s2,v2,-⟩:=gT ι s j _ _ c b d d;obtain⟨n,l,-⟩:=gT ι s j _ _ c b s2 m;unfold gC;simp only[o,iP];refine⟨s1.plus n.minus,?_⟩;rw[rD,uq,v1,l,v2,sub_def']
def BG(q:cl):nV q=sg (ι.φ q):=by
 rw[ι.nV];rcases vY q with⟨h,e⟩|⟨h,e⟩|⟨h,e⟩
 rw[e,yO (show(0:cl)< -q by grind)];rw[e,h,iU];rw[e,sG (show(0:cl)<q from h)]
def ais{X Y r D:K}(j:dH.nn r)(h:r*r=D):sg (X+Y*r)=
  if sg D=0 then sg X else if sg X=sg Y\/sg Y=0 then sg X else if sg X=0 then sg Y else sg X*sg (X*X-Y*Y*D):=by
 by_cases f:sg D=0
 ·rw[aph f]
  have e:r=0:=qI (by rw[h];exact oL.1 f)
  rw[e,bB,add_zero']
 ·rw[ape f]
  have d:dH.pos r:=by
   obtain g|g:=j
   ·exact g
   ·exfalso;apply f;rw[<-h,g,bB,iU]
  have e:(X+Y*r)*(X-Y*r)=X*X-Y*Y*D:=rg1 [X,Y,r,D] (-(Y*Y)) h;have i:sg (Y*r)=sg Y:=by rw[HW,sG d];simp
  rcases pI X with⟨a,ex⟩|⟨a,ex⟩|⟨a,ex⟩<;>rcases pI Y with⟨b,c⟩|⟨b,c⟩|⟨b,c⟩<;>rw[ex,c]
  ·simp;exact sG (gB a (cQ b d))
  ·simp;rw[b,jE,add_zero',ex]
  ·simp
   have hm:dH.pos (X-Y*r):=of_eq (gB a (of_eq (cQ b d) rfl)) (by rw[y_];exact sub_def' _ _)
   rw[<-e,HW,sG hm];simp
  ·simp;rw[a,iD,i,c]
  ·simp;rw[a,iD,i,c]
  ·simp;rw[a,iD,i,c]
  ·simp
   have hm:dH.pos (-(X-Y*r)):=of_eq (gB a (cQ b d)) (rg [X,Y,r]);rw[<-e,HW,yO hm];simp
  ·simp;rw[b,jE,add_zero',ex]
  ·simp
   exact yO (of_eq (gB a (of_eq (cQ b d) rfl)) (rg [X,Y,r]))
def nU{t:aM}:∀(k:aw)(a:ai cl),eJ k t->Model ι s t k->Sh k a->iN t k a=sg (lv ι s k a)
 |0,a,_,_,i=>by
  unfold iN;exact BG ι _
 |k+1,a,m,e,i=>by
  have d:eJ k t:=λj q=>m j za
  have c:Model ι s t k:=⟨λj q=>e.nn j za,λj q=>e.sq j za⟩
  unfold iN;have o:=iF i;rw[<-n9 ι s i];generalize dN a=b at o;obtain rfl|⟨j,y,f⟩:=o
  ·simp only[fl,nT]
   rw[BV,iU]
  ·have D:=da j
   simp only;rw[ape za]
   cases j with
   |zero=>
    have A:y6 b=1:=f;rw[aph A,nI ι s (j:=0) za za]
    exact BG ι _
   |succ j=>
    have F:2^(j+1)=2^j+2^j:=by rw[apK];omega
    have w:=da j;have p:y6 b/2=2^j:=by rw[f,fY]
    rw[ape za,p,iP]
    have low:∀l:ai cl,y6 l<=2^j->lv ι s k l=lv ι s j l:=λl x=>nI ι s x za
    have h:Sh k (b.take (2^j)):=y2 ⟨j,by omega,by rw[apr];omega⟩
    have g:Sh k (b.drop (2^j)):=y2 ⟨j,by omega,by rw[apu];omega⟩
    have z:=m j za
    have n:Sh k (y7 t j []):=y2 ⟨j,by omega,z⟩
    obtain⟨C,B⟩:=abh ι s m e za f
    have E:gC t k b=gC t j b\/True:=y2 trivial;have r:Sh k (gC t k b)/\lv ι s k (gC t k b)=lv ι s j (b.take (2^j))*lv ι s j (b.take (2^j))-lv ι s j (b.drop (2^j))*lv ι s j (b.drop (2^j))*lv ι s j (y7 t j []):=by
     obtain⟨s1,v1,-⟩:=gT ι s k _ _ d c h h;obtain⟨s2,v2,-⟩:=gT ι s k _ _ d c g g;obtain⟨v,u,-⟩:=gT ι s k _ _ d c s2 n;unfold gC;simp only[p,iP];refine⟨s1.plus v.minus,?_⟩;rw[rD,uq,v1,u,v2,sub_def',low (b.take (2^j)) (by rw[apr];omega),low (b.drop (2^j)) (by rw[apu];omega),low (y7 t j []) za]
    rw[nU k _ d c h,nU k _ d c g,nU k _ d c n,nU k _ d c r.1,r.2,nI ι s (j:=j+1) (k:=k+1) (l:=b) za za,Ap ι s b,
     low (b.take (2^j)) (by rw[apr];omega),low (b.drop (2^j)) (by rw[apu];omega),low (y7 t j []) za,ais (e.nn j za) (e.sq j za)]
end anl
section ank
variable {K:Type} [dH K] (ι:pD cl K) (s:aw->K)
def EN(k:aw)(q:cl):lv ι s k [q]=ι.φ q:=by rw[nI ι s (j:=0) zb za,abD]
def Sh.single(k:aw)(q:cl):Sh k [q]:=y2 ⟨0,by omega,rfl⟩
end ank
end fb
def Mx(a:0<b)(k: -4294967296<h)(n:h<4294967296):gY b (h:cl):=ZE a (apm ((aS _ 1).2 (by rw[show BP 1=4294967296 from rfl];omega)) a)
section
open Go Go.RowKit Go.Proofs Go.ChangeShapes Go.WideShapes Go.ChangeAt
variable {H:Type} {enc:c5×b3->H} {W:bn} {fuel:aw} {cs:ai b3} {x:qm H×ai oA}
def JR:aw->Prop:=λ_=>False
def Yj:Tryz.prog.cellsOf 206=1:=zk
def AN:Tryz.prog.cellsOf 51=3:=zk
def Gf:Tryz.prog.cellsOf 49=1:=zk
def Jq:Tryz.prog.cellsOf 4=1:=zk
def wf_u32(n:(Lit.int .u32 h).wf=bj):0<=h/\h<4294967296:=by simp[Lit.wf,IntKind.min,IntKind.max,rb,cn]at n;omega
def Ip(h:dO enc zZq W 0 (λ_=>bj) bj fuel 49 cs=a6 x):∃l:ai aw,gg l/\aR W JR cs [ak l]:=by
 rcases open_ints tc Tryz.underlying206 Yj h with⟨rfl,-⟩|⟨a,len,g,b,rfl,-,v,u,q,-,p,f⟩
 ·exact⟨[],(λx r=>by cases r),aR.cons (Db W JR aj) aR.nil⟩
 ·simp only[gn]at q
  have m:∀i(c:i<len),∃n:aw,b.getD i 0=(n:cA)/\n<4294967296:=λi c=>by
   have o:i<b.length:=za
   have z:b.getD i 0∈b:=by rw[apf,apj o];exact apD o
   obtain⟨B,A⟩:=wf_u32 (f _ z);exact⟨(b.getD i 0).toNat,by omega,by omega⟩
  let l:=(ch len).map λi=>(b.getD i 0).toNat
  have d:l.length=len:=by simp[l]
  refine⟨l,λy k=>?_,aR.cons ?_ aR.nil⟩
  ·simp only[l,ky,List.mem_range]at k
   obtain⟨i,c,rfl⟩:=k;obtain⟨n,e,t⟩:=m i c;rw[e];omega
  ·have s:=b9.row (w:=W) (X:=JR) (a6 a) len g aj (l.map λn=>Value.int .u32 (zNq n)) (l.map u32) zb v u (λh=>by cases h)
    (λi c=>by
     have j:i<len:=by simpa [d]using c
     obtain⟨n,e,t⟩:=m i j;refine⟨a,rfl,λh=>h,?_⟩
     rw[p i za,e]
     simp only[kz,l,kT,e];rfl)
    (λi c j=>by
     simp only[kz];exact .lit _)
   unfold ak;rw[d];exact s
def three{α:Type}{l:ai α}(h:y6 l=3):∃a b c,l=[a,b,c]:=by
 match l,h with
 |[a,b,c],_=>exact⟨a,b,c,rfl⟩
def gq{α:Type}{l:ai α}{i:aw}(h:i<y6 l):∃y,l[i]? =a6 y:=⟨l[i],apj h⟩
def cC{fs:eY Field}{xs:ai (qm H×ai oA)}{n:aw}(c:∀(i:aw)(f:Field),fs[i]? =a6 f->dO enc zZq W 0 (λ_=>bj) bj n f.type ((cs.drop f.offset).take (Tryz.prog.cellsOf f.type))=xs[i]?)
  (i:aw) (f:Field) (h:fs[i]? =a6 f) {t:c5} {off sz:aw} (a:f.type=t) (b:f.offset=off) (d:Tryz.prog.cellsOf t=sz):dO enc zZq W 0 (λ_=>bj) bj n t ((cs.drop off).take sz)=xs[i]? :=by
 subst a b d;exact c i f h
def akH{v:b3}{n:aw}(h:v.cells.toList.length=n+2):v=.agg v.cells.toList.toArray:=by cases v<;>first|rfl|(simp[Value.cells]at h)
def afl{X:aw->Prop}{v:b3}{ds:ai D}{n:aw}(h:v.cells.toList.length=n+2)(a:aR W X v.cells.toList ds):b9 W X v (.agg ds):=by rw[akH h];exact .agg _ _ a.1 a.2
end
def Raw.cells(r:Raw):ai D:=[bool r.s,ak r.n,ak r.d]
end Lw
