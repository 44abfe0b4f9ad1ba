/- Part 5. -/
import Derived.Test.YtmcpfihkambgnaaGreatLs04
import Derived.RangeFuncNested
import Derived.RangeFuncLeaves
import Derived.Shelf.Abstract
set_option maxHeartbeats 2000000
set_option linter.all false
open Option renaming some->a6,none->bk,map_some->dm,getD_some->uS
open _root_ renaming List->ai,Nat->aw,Bool->b5,Option->bF,beq_eq_false_iff_ne->c4,Int->cA,ByteArray->cB,Rat->cl,decide_eq_true_eq->cm,Array->eY,beq_iff_eq->ec,beq_self_eq_true->gp,Inhabited->ka,Decidable->vp
open Bool renaming false->aj,true->bj,false_eq_true->cy,and_eq_true->dT,or_eq_true->hO,false_and->im
open Go renaming Value->b3,World->bn,Operand->c6,FuncId->c7,Program->cp,Oper->e9,undef->fg,Func->kf,cell_of_row->l0,callsIn_wide->n2,callsIn_of_wp->oi,wpIn_loop_ghost->rX,Exit->sx,Calls->vx
open List renaming mem_cons->b4,not_mem_nil->bI,getD_eq_getElem?_getD->bP,replicate->cd,range->ch,mem_singleton->dc,map_cons->eZ,length_cons->ey,map_nil->fB,length_nil->fl,all_eq_true->gv,getD_cons_succ->iz,getD_cons_zero->kt,foldl_cons->lr,map->m4,append_nil->r8,getElem?_append->rB,flatMap_cons->tu,length_eq_zero_iff->u4,not_of_lt_findIdx->v3,filter_cons_of_pos->vc,length->y6,getD->y7
open Inhabited renaming default->bc
open Nat renaming blt->c3,ble->hM,add_zero->n5
open Go.Fence renaming wide->eD
open Option.some renaming injEq->eE
open List.cons renaming injEq->en
open Prod.mk renaming injEq->gu
open Array renaming replicate->jj
open Go.World renaming cell?_of_block->ma
open Go.Ending renaming returned->og
open Go.Deferred renaming ofValue->vn
open Lw.Item renaming call->z3,prop->yu
open Lw.D renaming row->yI,lit->yT,ptr->y0,agg->y4
open Or renaming inl->y1,inr->y2
open Lw.iw renaming normal->y3,exit->y5
open Go.Proofs.Tryz renaming prog->zZq
open Go.Proofs.Tryz
open Int renaming ofNat->zNq
open Bool renaming and_eq_true->zLq
namespace Lw
namespace Tw
open Go Go.RowKit Go.Proofs
open fb
variable {G:bn->Prop} {t T:aM} {δ η:aw}
def V2.sq_pos{v:V2}(h:v.sq≠0):nV v.sq=1:=by
 have a:dH.nn v.sq:=dH.Sy (dH.rN v.x) (dH.rN v.y);rw[BG (pD.id cl)];obtain a|a:=a
 exact dH.sG a;exact api a h
structure Ol(r n:aw)(t:aM)(h:Hd):Prop where
 p:V2.B r h.p
 c:V2.B r h.c
 o:mR n t h.o
def Ol.v{r n:aw}{h:Hd}(H:Ol r n t h):V2.B (2*r+1) h.v:=(H.c.sub H.p).mono za
variable {H:Hd} {M O:Pt} (a:aa G) {h:ai cl}
def Ol.rho{r n:aw}(h:Ol r n t H):iC (8*r+5) H.v.sq:=h.v.sq.mono za
def Ol.up{r n:aw}{h:Hd}(H:Ol r n t h)(d:ai cl):Ol r n (mK t d) h:=⟨H.p,H.c,H.o.up d⟩
def Ck.of{n m:aw}(a:aH n t h)(b:n<=m)(hs:sb δ (y6 t) m<=NB):Ck δ t h:=⟨n,a,apm (pJ _ _ b) hs⟩
def Ol.cr{r n m:aw}{h:Hd}(c:j7 t)(H:Ol r n t h)(a:h.v.sq≠0)(d:n<=m)(b:8*r+5<=m)(e:m<=MB)(hs:sb δ (y6 t) m<=NB):A7 δ t h.cr:=
 ⟨H.o.ok za,(H.rho.num t).mono za,.of (H.rho.num t) b hs,by show aL t (iq h.v.sq)=1;rw[Uo c];exact V2.sq_pos a⟩
structure CSz(t:aM)(a b:Cr)(n1 nd nS nX:aw):Prop where
 v:mR (2*n1+1) t (cV a b)
 d:aH nd t (cD t a b)
 s:aH nS t (cS t a b)
 x:aH nX t (cX t a b)
def adq(j:dn δ t){B:Hd}{r d b nS c:aw}(q:Ol r d t H)(p:Ol r d t B)
  (v:b=4*d+3+tb δ (y6 t)) (eS:nS=b+2*(8*r+5)+2) (w:c=(8*r+5+b+2*tb δ (y6 t)+3)+(2*nS+tb δ (y6 t))+1) (x:c<=MB) (n:sb δ (y6 t) c<=NB):
  YQ δ t H.cr B.cr/\CSz t H.cr B.cr d b nS c:=by
 have a:mR (2*d+1) t (cV H.cr B.cr):=(Ab p.o q.o).mono za;have s:=Ib j.b a a;have h:aH b t (cD t H.cr B.cr):=(gP.num (QD j.b a a) (by simp[cD])).mono za;have o:=q.rho.num t;have u:=p.rho.num t;have i:=aH.add o h;have k:aH nS t (cS t H.cr B.cr):=(aH.sub i u).mono za;have f4:aH 3 t (iq 4):=iC.num (iC.int (m:=3) 4 zv) t;have e:=aH.mul j.b o h;have g:=aH.mul j.b f4 e;have f:=aH.mul j.b k k;have l:aH c t (cX t H.cr B.cr):=(aH.sub g f).mono za;refine⟨⟨a.ok za,(s.num zb).mono za,(s.num zb).mono za,h.mono za,.of h za n,i.mono za,k.mono za,f4.mono za,e.mono za,g.mono za,f.mono za,l.mono za,.of l (apc _) n⟩,⟨a,h,k,l⟩⟩
def aia(b:oY δ t)(c:Sh (y6 t) h)(f:aL t h≠0):aL t (mulL t (iq 2) h)≠0:=by
 obtain⟨K,_,ι,s,d⟩:=b.ok.model (y6 t) (apc _);rw[ku ι s b.ok.sh d c]at f;rw[ku ι s b.ok.sh d (Sh.mul b.ok.sh (Sh.l7 _ _) c),cZ ι s b.ok.sh d (Sh.l7 _ _) c,gV,dH.HW];intro e;obtain e|e:=Int.mul_eq_zero.1 e
 rw[<-BG]at e;exact api e zv;exact f e
def Yh(e:dn δ t){B:Hd}{d j nS p b I f g:aw}(r:mR d t H.o)(c:CSz t H.cr B.cr d j nS p)(d0:aL t (cD t H.cr B.cr)≠0)
  (u:b=j+2+tb δ (y6 t)) (s:I=ib δ (y6 t) b) (v:f=nS+I+tb δ (y6 t)) (w:g=f+(2*d+1)+tb δ (y6 t)+d+1) (o:sb δ (y6 t) b<=NB) (x:g<=MB):
  aej δ t H.cr B.cr/\mR g t (Eh t H.cr B.cr)/\aH b t (Bl t H.cr B.cr)/\aL t (Bl t H.cr B.cr)≠0/\aH I t (jq t (y6 t) (Bl t H.cr B.cr)):=by
 have f2:aH 2 t (iq 2):=iC.num (iC.int (m:=2) 2 zv) t
 have hw:aH b t (Bl t H.cr B.cr):=(aH.mul e.b f2 c.d).mono za
 have h:aL t (Bl t H.cr B.cr)≠0:=aia e.b c.d.sh d0;have n:aH I t (jq t (y6 t) (Bl t H.cr B.cr)):=by rw[s];exact hw.inv e.b h
 have l:aH f t (cG t H.cr B.cr):=(aH.mul e.b c.s n).mono za
 have k:gP (f+(2*d+1)+tb δ (y6 t)) t [mulL t (cG t H.cr B.cr) (cV H.cr B.cr).1,mulL t (cG t H.cr B.cr) (cV H.cr B.cr).2]:=by
  refine gP.Ic e.b (gP.one l) c.v λa i=>?_
  obtain rfl|rfl:=vJ i
  ·exact⟨_,(cV H.cr B.cr).1,apg.2 rfl,by simp,y1 rfl⟩
  ·exact⟨_,(cV H.cr B.cr).2,apg.2 rfl,by simp,y1 rfl⟩
 have q:mR g t (Eh t H.cr B.cr):=by
  refine gP.mono ((gP.both k r).grow λa i=>?_) za
  obtain rfl|rfl:=vJ i
  ·exact y2 ⟨H.o.1,mulL t (cG t H.cr B.cr) (cV H.cr B.cr).1,by simp,by simp,y1 rfl⟩
  ·exact y2 ⟨H.o.2,mulL t (cG t H.cr B.cr) (cV H.cr B.cr).2,by simp,by simp,y1 rfl⟩
 exact⟨⟨f2.mono za,⟨b,hw,o,by omega⟩,h,l.mono za,(k.num zb).mono za,(k.num zb).mono za⟩,q,hw,h,n⟩
def QO(D:dn δ t){B:Hd}{i A nS J e I o f d:aw}(c:CSz t H.cr B.cr i A nS J)(q:dn η (cT t H.cr B.cr))(M:mR o t (Eh t H.cr B.cr))(hw:aH e t (Bl t H.cr B.cr))(v:aL t (Bl t H.cr B.cr)≠0)
  (P:I=ib δ (y6 t) e) (S:f=I+tb η (y6 t+1)) (R:d=f+(2*i+1)+tb η (y6 t+1)+o+1) (F:sb η (y6 t+1) e<=NB) (K:ib η (y6 t+1) e<=MB) (n:d<=MB):
  anh η t H.cr B.cr/\mR d (cT t H.cr B.cr) (Za t H.cr B.cr)/\mR d (cT t H.cr B.cr) (Y_ t H.cr B.cr):=by
 have Q:cT t H.cr B.cr=mK t (cX t H.cr B.cr):=rfl;have l:(cT t H.cr B.cr).length=y6 t+1:=bW _;have w:=q.b.ok.sh;have z:aH 0 (cT t H.cr B.cr) (cg (y6 t)):=iO _;have N:aH I (cT t H.cr B.cr) (jq (cT t H.cr B.cr) (cT t H.cr B.cr).length (Bl t H.cr B.cr)):=by rw[P];exact SV D.b hw v _
 have u:aH f (cT t H.cr B.cr) (cH t H.cr B.cr):=(aH.mul q.b z N).mono (by rw[l];omega)
 have g:iC 0 (-1:cl):=(iC.int (m:=0) 1 zv).neg
 have O:aH 0 (cT t H.cr B.cr) (iq (-1)):=g.num _;have y:mR (2*i+1) (cT t H.cr B.cr) (cV H.cr B.cr):=c.v.up _;have C:mR (2*i+1) (cT t H.cr B.cr) (cN t H.cr B.cr):=by
  refine gP.aak w y g g λa b=>?_
  obtain rfl|rfl:=vJ b
  ·exact y2 ⟨(cV H.cr B.cr).2,-1,by simp,y1 rfl,y2 rfl⟩
  ·exact y1 (by simp[cN])
 have E:aH f (cT t H.cr B.cr) (Yo t H.cr B.cr):=by
  refine gP.num (gP.alF w (gP.one u) g g (p:=[Yo t H.cr B.cr]) λa b=>?_) (apg.2 rfl)
  rw[apg]at b;exact⟨cH t H.cr B.cr,-1,apg.2 rfl,y1 rfl,y2 (b.trans (by simp only[Yo]))⟩
 have j:mR o (cT t H.cr B.cr) (Eh t H.cr B.cr):=M.up (cX t H.cr B.cr);have r:aH e (cT t H.cr B.cr) (Bl t H.cr B.cr):=hw.up (cX t H.cr B.cr);have s:aL (cT t H.cr B.cr) (Bl t H.cr B.cr)≠0:=by
  show aL (t++[aZ (cX t H.cr B.cr) (2^y6 t)]) (Bl t H.cr B.cr)≠0;rw[RM hw.sh D.b.ok.sh];exact v
 have step:∀{x:ai cl},aH f (cT t H.cr B.cr) x->aH (d) (cT t H.cr B.cr) (mulL (cT t H.cr B.cr) x (cN t H.cr B.cr).1)/\aH d (cT t H.cr B.cr) (mulL (cT t H.cr B.cr) x (cN t H.cr B.cr).2)/\mR d (cT t H.cr B.cr) (cM (cT t H.cr B.cr) (Eh t H.cr B.cr) x (cN t H.cr B.cr)):=by
  intro x L;have k:gP (f+(2*i+1)+tb η (cT t H.cr B.cr).length) (cT t H.cr B.cr) [mulL (cT t H.cr B.cr) x (cN t H.cr B.cr).1,mulL (cT t H.cr B.cr) x (cN t H.cr B.cr).2]:=by
   refine gP.Ic q.b (gP.one L) C λa b=>?_
   obtain rfl|rfl:=vJ b
   ·exact⟨_,(cN t H.cr B.cr).1,apg.2 rfl,by simp,y1 rfl⟩
   ·exact⟨_,(cN t H.cr B.cr).2,apg.2 rfl,by simp,y1 rfl⟩
  rw[l]at k;refine⟨(k.num zb).mono za,(k.num zb).mono za,gP.mono ((gP.both k j).grow λa b=>?_) za⟩
  obtain h|h:=vJ b
  ·exact y2 ⟨(Eh t H.cr B.cr).1,mulL (cT t H.cr B.cr) x (cN t H.cr B.cr).1,by simp,by simp,y1 (h.trans (by simp only[cM]))⟩
  ·exact y2 ⟨(Eh t H.cr B.cr).2,mulL (cT t H.cr B.cr) x (cN t H.cr B.cr).2,by simp,by simp,y1 (h.trans (by simp only[cM]))⟩
 have s1:=step u;have s2:=step E;exact⟨⟨z.mono za,⟨e,r,by rw[l];exact F,by rw[l];exact K⟩,s,O.mono za,y.ok za,j.ok za,u.mono za,(C.x.mono za),s1.1.mono n,s1.2.1.mono n,E.mono za,s2.1.mono n,s2.2.1.mono n⟩,s1.2.2,s2.2.2⟩
def JN{m n i:aw}(f:oY δ t)(d:mR m t M)(e:aH i t h)(c:mR n t O):
  aH (i+n+tb δ (y6 t)) t (mulL t h O.1)/\aH (i+n+tb δ (y6 t)) t (mulL t h O.2)/\mR (i+n+tb δ (y6 t)+m+1) t (cM t M h O):=by
 have p:gP (i+n+tb δ (y6 t)) t [mulL t h O.1,mulL t h O.2]:=by
  refine gP.Ic f (gP.one e) c λa b=>?_
  obtain rfl|rfl:=vJ b
  exact⟨_,O.1,apg.2 rfl,by simp,y1 rfl⟩;exact⟨_,O.2,apg.2 rfl,by simp,y1 rfl⟩
 refine⟨p.num zb,p.num zb,(gP.both p d).grow λa b=>?_⟩;obtain p|p:=vJ b
 exact y2 ⟨M.1,mulL t h O.1,by simp,by simp,y1 (p.trans (by simp only[cM]))⟩;exact y2 ⟨M.2,mulL t h O.2,by simp,by simp,y1 (p.trans (by simp only[cM]))⟩
structure LSz(t:aM)(c:Cr)(p q:Pt)(n1 nQ nX:aw):Prop where
 bv:mR (2*n1+1) t (lV p q)
 bq:aH nQ t (lQ t p q)
 be:aH nQ t (lE t c p q)
 bx:aH nX t (lX t c p q)
def abK(p:dn δ t){r c b f:aw}(w:Ol r c t H)(j:mR c t M)(u:mR c t O)(x:aL t (lQ t M O)=1)
  (C:b=4*c+3+tb δ (y6 t)) (B:f=(b+(8*r+5)+tb δ (y6 t))+(2*b+tb δ (y6 t))+1) (D:f<=MB) (i:sb δ (y6 t) f<=NB) (y:ib δ (y6 t) b<=MB):
  ag0 G δ t H.cr M O/\LSz t H.cr M O c b f:=by
 have d:mR (2*c+1) t (lV M O):=(Ab u j).mono za;have hw:mR (2*c+1) t (lW H.cr M):=(Ab w.o j).mono za;have v4:=Ib p.b d d;have h:=Ib p.b d hw;have g:aH b t (lQ t M O):=(gP.num (QD p.b d d) (by simp[lQ])).mono za;have v:aH b t (lE t H.cr M O):=(gP.num (QD p.b d hw) (by simp[lE])).mono za;have m:aH b t (lC t H.cr M O):=(gP.num (QD p.b d hw) (by simp[lC])).mono za;have z:aH (8*r+5) t H.cr.r:=w.rho.num t;have s:=aH.mul p.b g z;have o:=aH.mul p.b m m;have k:aH f t (lX t H.cr M O):=(aH.sub s o).mono za;have e:=d.ok (show 2*c+1<=MB by omega);have n:=hw.ok (show 2*c+1<=MB by omega);exact⟨⟨j.ok za,u.ok za,e,Hc a p e e (v4.num zb) (v4.num zb) za,g.mono za,.of g za i,x,Hc a p e n (h.num zb) (h.num zb) za,LY a p e n (h.num zb) (h.num zb) za,
  v.mono za,m.mono za,s.mono za,o.mono za,k.mono za,.of k (apc _) i,⟨b,g,apm (pJ _ _ za) i,y⟩⟩,⟨d,g,v,k⟩⟩
def Xi(e:dn δ t){b a h I d:aw}(i:mR b t M)(c:LSz t H.cr M O b a h)(g:aL t (lQ t M O)=1)(l:I=ib δ (y6 t) a)(m:d=a+I+tb δ (y6 t)+(2*b+1)+tb δ (y6 t)+b+1)(n:d<=MB):
  ah2 t H.cr M O/\mR d t (cM t M (lF t H.cr M O) (lV M O)):=by
 have j:aH I t (jq t (y6 t) (lQ t M O)):=by rw[l];exact c.bq.inv e.b (by rw[g];decide)
 have f:aH (a+I+tb δ (y6 t)) t (lF t H.cr M O):=aH.mul e.b c.be j;have k:=JN e.b i f c.bv;exact⟨⟨f.mono za,k.1.mono za,k.2.1.mono za⟩,k.2.2.mono za⟩
def PQ(r:dn δ t){d a v I f:aw}(x:mR d t M)(c:LSz t H.cr M O d a v)(k:aL t (lQ t M O)=1)(g:dn η (lT t H.cr M O))
  (z:I=ib δ (y6 t) a) (B:f=a+1+I+tb η (y6 t+1)+(2*d+1)+tb η (y6 t+1)+d+1) (u:sb η (y6 t+1) a<=NB) (w:ib η (y6 t+1) a<=MB) (C:f<=MB):
  ane η t H.cr M O/\mR f (lT t H.cr M O) (cM (lT t H.cr M O) M (lG t H.cr M O) (lV M O))/\mR f (lT t H.cr M O) (cM (lT t H.cr M O) M (lH t H.cr M O) (lV M O)):=by
 have e:y6 (lT t H.cr M O)=y6 t+1:=bW _;have i:aH 0 (lT t H.cr M O) (cg (y6 t)):=iO _;have s:aH I (lT t H.cr M O) (jq (lT t H.cr M O) (lT t H.cr M O).length (lQ t M O)):=by rw[z];exact SV r.b c.bq (by rw[k];decide) _
 have j:aH a (lT t H.cr M O) (lE t H.cr M O):=c.be.up (lX t H.cr M O);have y:aH a (lT t H.cr M O) (lQ t M O):=c.bq.up (lX t H.cr M O);have h:mR (2*d+1) (lT t H.cr M O) (lV M O):=c.bv.up (lX t H.cr M O);have b:mR d (lT t H.cr M O) M:=x.up (lX t H.cr M O);have o:aH (a+1) (lT t H.cr M O) (lA t H.cr M O):=aH.add j i;have n:aH (a+1) (lT t H.cr M O) (lB t H.cr M O):=aH.sub j i;have m:aH (a+1+I+tb η (y6 t+1)) (lT t H.cr M O) (lG t H.cr M O):=(aH.mul g.b o s).mono (by rw[e];omega)
 have l:aH (a+1+I+tb η (y6 t+1)) (lT t H.cr M O) (lH t H.cr M O):=(aH.mul g.b n s).mono (by rw[e];omega)
 have k1:=JN g.b b m h;have k2:=JN g.b b l h;rw[e]at k1 k2;have d0:aL (lT t H.cr M O) (lQ t M O)≠0:=by
  show aL (t++[aZ (lX t H.cr M O) (2^y6 t)]) (lQ t M O)≠0;rw[RM c.bq.sh r.b.ok.sh,k];decide
 exact⟨⟨i.mono za,j.mono za,o.mono za,n.mono za,⟨a,y,by rw[e];exact u,by rw[e];exact w⟩,d0,h.ok za,b.ok za,m.mono za,l.mono za,k1.1.mono za,k1.2.1.mono za,k2.1.mono za,k2.2.1.mono za⟩,k1.2.2.mono za,k2.2.2.mono za⟩
structure RpB(r n1:aw)(t:aM)(x:Rp)(to:V2):Prop where
 bp:V2.B r x.p
 bf:V2.B r x.f
 bt:V2.B r to
 hv:x.v=to.sub x.f
 bo:mR n1 t x.o
 bq:mR n1 t x.q
def RpB.v{r a:aw}{x:Rp}{to:V2}(h:RpB r a t x to):V2.B (2*r+1) x.v:=by rw[h.hv];exact(h.bt.sub h.bf).mono za
def RpB.u{r a:aw}{x:Rp}{to:V2}(h:RpB r a t x to):V2.B (2*r+1) x.u:=(h.bf.sub h.bp).mono za
structure RSz(t:aM)(x:Rp)(r n1 nd nX:aw):Prop where
 bw:mR (2*n1+1) t x.mc
 bd:aH nd t (x.d t)
 bh:aH (8*r+5) t x.h
 bx:aH nX t (x.r t)
def aiE(d:dn δ t){x:Rp}{to:V2}{r b e o:aw}(H:RpB r b t x to)(q:e=4*b+3+tb δ (y6 t))
  (s:o=(8*r+5+e+tb δ (y6 t))+(2*(8*r+5)+tb δ (y6 t))+1) (u:o<=MB) (g:sb δ (y6 t) o<=NB):am8 G δ t x to/\RSz t x r b e o:=by
 have p:MB<=NB:=z8;have hw:mR (2*b+1) t x.mc:=(Ab H.bq H.bo).mono za;have j:=Ib d.b hw hw;have h:=hw.ok (show 2*b+1<=MB by omega);have f:aH e t (x.d t):=(gP.num (QD d.b hw hw) (by simp[Rp.d])).mono za;have n:iC (8*r+5) (x.v.qw x.u):=(H.v.qw H.u).mono za;have c:aH (8*r+5) t x.h:=n.num t;have m:aH (8*r+5) t x.n:=(show iC (8*r+5) x.v.sq from H.v.sq.mono za).num t;have l:=aH.mul d.b m f;have k:=aH.mul d.b c c;have i:aH o t (x.r t):=(aH.sub l k).mono za;exact⟨⟨H.bp.fit za,H.bf.fit za,H.bt.fit za,H.hv,H.v.ZG za,H.u.fit za,(H.v.x.mul H.u.y).qk za,(H.v.y.mul H.u.x).qk za,n.qk za,H.bo.ok za,H.bq.ok za,h,Hc a d h h (j.num zb) (j.num zb) za,
  c.mono za,.of c za g,m.mono za,f.mono za,.of f za g,l.mono za,k.mono za,i.mono za,.of i (apc _) g⟩,⟨hw,f,c,i⟩⟩
def Z9(d:dn η T){x:Rp}{to:V2}{r b e I g j i:aw}(H:RpB r b T x to)(f:x.v.sq≠0)(hw:mR (2*b+1) T x.mc)(y:aH e T (x.d t))(o:aH (8*r+5) T x.h)(m:aH 0 T h)(A:aH I T (jq T (y6 T) (x.d t)))(d0:aL T (x.d t)≠0)
  (s:sb η (y6 T) e<=NB) (id:ib η (y6 T) e<=MB) (M:g=(2*b+1+tb η (y6 T))+(8*r+5+(2*b+1)+tb η (y6 T))+1+I+tb η (y6 T))
  (J:j=g+2*(2*r+1)+1+2*(4*(2*r+1)+1)) (K:i=j+2*r+2+b) (z:i<=MB) (hs:sb η (y6 T) (4*(2*r+1)+1)<=NB) (w:ib η (y6 T) (4*(2*r+1)+1)<=MB):
  agS G η t T x h/\z5 i T (x.pl t T h):=by
 have u:=hw.ok (show 2*b+1<=MB by omega);have l:mR (2*b+1+tb η (y6 T)) T (yQ T h x.mc):=by
  refine gP.mono (gP.Ic d.b (gP.one m) hw (p:=[(yQ T h x.mc).1,(yQ T h x.mc).2]) λa c=>?_) za;obtain rfl|rfl:=vJ c
  exact⟨h,x.mc.1,apg.2 rfl,by simp,y1 rfl⟩;exact⟨h,x.mc.2,apg.2 rfl,by simp,y1 rfl⟩
 have n:mR (2*b+1) T (wH x.mc.2,x.mc.1):=by
  obtain⟨D,B,F,E,C,q⟩:=hw.ms;refine⟨λa c=>?_,D,B,F,E,C,λa c=>?_⟩;obtain rfl|rfl:=vJ c
  exact(hw.sh _ zb).neg;exact hw.sh _ zb;obtain rfl|rfl:=vJ c
  exact(q _ zb).minus.short (hw.sh _ zb).minus;exact q _ zb
 have on:=n.ok (show 2*b+1<=MB by omega);have k:mR (8*r+5+(2*b+1)+tb η (y6 T)) T (x.b T):=by
  refine gP.Ic d.b (gP.one o) n (p:=[(x.b T).1,(x.b T).2]) λa c=>?_
  obtain rfl|rfl:=vJ c
  exact⟨x.h,wH x.mc.2,apg.2 rfl,by simp,y1 rfl⟩;exact⟨x.h,x.mc.1,apg.2 rfl,by simp,y1 rfl⟩
 have kw:mR ((2*b+1+tb η (y6 T))+(8*r+5+(2*b+1)+tb η (y6 T))+1) T (x.w T h):=Ab l k;have v:mR g T (x.z t T h):=by
  refine gP.mono (gP.quot d.b kw A (p:=[(x.z t T h).1,(x.z t T h).2]) λa c=>?_) za;obtain rfl|rfl:=vJ c
  exact⟨(x.w T h).1,by simp,rfl⟩;exact⟨(x.w T h).2,by simp,rfl⟩
 obtain⟨L,bl⟩:=N5 a d H.v H.bp f v H.bo J K z hs w;exact⟨⟨Mf a d (m.mono za) u,hw.y.mono za,Mf a d (o.mono za) on,l.ok za,k.ok za,kw.ok za,⟨e,y,s,id⟩,d0,L⟩,bl⟩
def Y9(x:Tn):ai D:=cF x.t++[bool x.half]
def NX(x:Tn):y6 (Y9 x)=4:=rfl
def DS(l:ai cl):aw->St
 |0=>lay 20 [(3,yI 0 bj []),(6,au l),(7,nat (y6 l)),(8,nat 0)] []
 |i+1=>lay 20 [(3,.bG 1 (i+1) 3),(6,au l),(7,nat (y6 l)),(8,nat (i+1))] [(1,(l.take (i+1)).flatMap cF)]
def adk{i:aw}(d:i<y6 h)(j:y6 h<=1073741824)(g:yH KB h):
  xo G (ae f147 0) (DS h i) y3 (DS h (i+1)):=by
 have e:=fO bS d 0;have c:=iv a (g _ (aA d 0));have l:=Bv;have k:=xe;have b:=HI d;generalize y7 h i 0=q at e b c;cases i with
 |zero=>
  rw[aqY,asV]at b;simp only[DS];rw[b];exact af.r a [.eb 9 (ah d),yu (ay bS za d),yu (aq bS za d),.eq 11 e,z3 c,.eq 18 (bL (ax d za))]
 |succ i=>
  have f:(cF q).all D.bV=bj/\0<1/\y6 ((h.take (i+1)).flatMap cF)=(i+1)*3/\y6 (cF q)=1*3/\i+1+1<=2^62/\(i+1+1)*56<=2^47:=by rw[dq bS,apr];exact⟨rfl,by omega,by omega,rfl,by omega,by omega⟩
  simp only[DS];rw[b];exact af.r a [.eb 9 (ah d),yu (ay bS za d),yu (aq bS za d),.eq 11 e,z3 c,yu f,.eq 18 (bL (ax d za))]
def Jn(d:y6 h<=1073741824)(f:yH KB h):xf G 147 [au h] (au h):=by
 have c:=aI.count (P:=zZq) (Good:=G) (a:=0) (l:=ae f147 0) (t:=y5 0) (j:=DS h (y6 h)) (λi=>DS h i) (y6 h) (λi=>by cases i<;>exact aO ..) (by intro l;cases l)
  (λi g=>adk a g d f) (by
   obtain l|l:=apv (y6 h)
   have:h=[]:=ap8 l;subst this;exact af.r a [];obtain⟨m,hm⟩:∃m,y6 h=m+1:=⟨y6 h-1,by omega⟩;have b:=eqB (av (apc (y6 h)));rw[hm];rw[hm]at b;simp only[DS];rw[hm];exact af.r a [.eq 9 b])
 obtain l|l:=apv (y6 h)
 have:h=[]:=ap8 l;subst this;exact Spec.r a func147 [] [.code c];obtain⟨m,hm⟩:∃m,y6 h=m+1:=⟨y6 h-1,by omega⟩;have b:DS h (y6 h)=lay 20 [(3,.bG 1 (y6 h) 3),(6,au h),(7,nat (y6 h)),(8,nat (y6 h))] [(1,h.flatMap cF)]:=by rw[hm];simp only[DS];rw[hm,<-hm,aqM]
 rw[b]at c;have j:au h=yI (y6 h) aj ((h.flatMap cF).take (y6 h*3)):=by rw[apA (by rw[dq bS];omega)];rfl
 have key:xf G 147 [au h] (yI (y6 h) aj ((h.flatMap cF).take (y6 h*3))):=
  Spec.r a func147 [] [.code c]
 rwa [<-j]at key
def ud(j:Jt)(b:aw):bF aw:=if b=j.a then a6 j.b else if b=j.b then a6 j.a else bk
def anV:bF aw->cA
 |some n=>zNq n
 |none=> -1
def afB(j:Jt)(b:aw):xf G 325 [JtD j,nat b] (int (anV (ud j b))):=by unfold ud;by_cases d:b=j.a;rw[aph d];exact Spec.y a (az []) func325 [] [.eb 9 (gI d)];rw[ape d];by_cases c:b=j.b;rw[aph c];exact Spec.y a (az []) func325 [] [.eb 9 (fh d),.eb 15 (gI c)];rw[ape c];exact Spec.y a (az []) func325 [] [.eb 9 (fh d),.eb 15 (fh c)]
def gS(l:ai b5):D:=yI (y6 l) aj (l.map bool)
structure Fn where
 known:ai b5
 nR:ai b5
 used:ai b5
 gs:ai Gp
def gsD:ai Gp->D
 |[]=>yI 0 bj []
 |l=>aQ kg l
def cFn(l:Lk)(s:Fn):ai D:=yJ l++[gS s.known,gS s.nR,gS s.used,gsD s.gs]
def vO(l:Lk)(s:Fn):D:=.aJ (cFn l s)
variable {b:aw} {j:ai b5}
def gN(h:b<y6 j):((0:cA)<=zNq b/\zNq b<(y6 j:cA))/\(zNq b).toNat*1<y6 (j.map bool):=by have e:(zNq b).toNat=b:=rfl;rw[apq,e,aqx];exact⟨⟨by simp,by simpa using h⟩,h⟩
def gO(h:b<y6 j):0<1/\1<=y6 ((j.map bool).drop ((zNq b).toNat*1)):=by have e:(zNq b).toNat=b:=rfl;rw[apu,apq,e];omega
def jd(h:b<y6 j):((j.map bool).drop ((zNq b).toNat*1)).headD .any=bool (y7 j b aj):=by have e:(zNq b).toNat=b:=rfl;rw[e,aqx,<-List.map_drop,aqr h,are,asy,apf,apj h];rfl
def Xp(l:Lk)(s:Fn)(h:b<y6 s.known):xf G 321 [vO l s,nat b] (bool (y7 s.known b aj)):=by have i:=gN h;have c:=gO h;have e:=jd h;generalize y7 s.known b aj=z at e;cases z<;>exact Spec.y a (az []) func321 [] [.er 9 (nat b),yu i,yu c,.eq 11 e]
def r6(s:Fn)(i:aw):b5:= !s.known.getD i aj&& !s.nR.getD i aj
def acx(l:Lk)(s:Fn)(h:b<y6 s.known)(d:b<y6 s.nR):xf G 297 [vO l s,nat b] (bool (r6 s b)):=by have c:=gN h;have i:=gO h;have e:=jd h;have k:=gN d;have j:=gO d;have f:=jd d;unfold r6;generalize y7 s.known b aj=z at e;generalize y7 s.nR b aj=g at f;cases z;cases g<;>exact Spec.y a (az []) func297 [] [.er 9 (nat b),yu c,yu i,.eq 11 e,.er 18 (nat b),yu k,yu j,.eq 20 f];exact Spec.y a (az []) func297 [] [.er 9 (nat b),yu c,yu i,.eq 11 e]
def uW(kind body:aw)(pass:aw->b5)(j:Jt):b5:=decide (j.kind=kind)&&match ud j body with
 |some o=>pass o
 |none=>aj
inductive Ask where
 |known
 |only(k:aw)
def adQ(l:Lk)(s:Fn):Ask->D
 |.known=>.fn 321 [vO l s] []
 |.only k=>.fn 296 [] [.aJ [nat k]]
def uY(s:Fn):Ask->aw->b5
 |.known,o=>y7 s.known o aj
 |.only k,o=>decide (o=k)
def ai3(o k:aw):xf G 296 ([nat o]++[.aJ [nat k]]) (bool (decide (o=k))):=by by_cases h:o=k;rw[apE h];exact Spec.y a (az []) func296 [] [.eb 6 (gI h)];rw[apG h];exact Spec.y a (az []) func296 [] [.eb 6 (fh h)]
def mP(o:aw):decide (zNq o>=0)=bj:=zb
def amy(l:Lk)(s:Fn)(kind body:aw)(q:Ask)(j:Jt)(d:∀o,ud j body=a6 o->o<y6 s.known):
  xf G 324 ([JtD j]++[.aJ [nat body],.aJ [nat kind],.aJ [adQ l s q]]) (bool (uW kind body (uY s q) j)):=by
 have co:=afB a j body;unfold uW;by_cases b:j.kind=kind;rw[apE b,asK];cases c:ud j body with
 |none=>
  rw[c]at co;exact Spec.y a (az [325]) func324 [] [z3 co,.eb 13 (gI b)]
 |some o=>
  rw[c]at co;cases q with
  |known=>
   have ck:=Xp a l s (d o c);unfold uY;simp only;generalize y7 s.known o aj=z at ck;cases z<;>exact Spec.y a (az [325,321]) func324 [] [z3 co,.eb 13 (gI b),.eb 16 (mP o),z3 ck]
  |only k=>
   have ck:=ai3 a o k;unfold uY;simp only;generalize decide (o=k)=z at ck;cases z<;>exact Spec.y a (az [325,296]) func324 [] [z3 co,.eb 13 (gI b),.eb 16 (mP o),z3 ck]
 rw[apG b,im];exact Spec.y a (az [325]) func324 [] [z3 co,.eb 13 (fh b)]
def EU{α:Type}(p:α->b5)(l:ai α):cA:=if l.findIdx p<y6 l then zNq (l.findIdx p)else -1
def VJ(l:Lk)(s:Fn)(kind body:aw)(q:Ask):D:=.fn 324 [] [.aJ [nat body],.aJ [nat kind],.aJ [adQ l s q]]
def ixA(g:D)(l:ai Jt)(i:aw):St:=lay 19 [(0,aQ Hh l),(1,g),(7,nat (y6 l)),(8,nat i)] []
def af5(l:Lk)(s:Fn)(kind body:aw)(q:Ask)(t:y6 l.js<=1000000)(p:∀j∈l.js,∀o,ud j body=a6 o->o<y6 s.known):
  xf G 323 [aQ Hh l.js,VJ l s kind body q] (int (EU (uW kind body (uY s q)) l.js)):=by
 have k:∀i<y6 l.js,xf G 324 ([y4 (Hh (y7 l.js i bc))]++[.aJ [nat body],.aJ [nat kind],.aJ [adQ l s q]]) (bool (uW kind body (uY s q) (y7 l.js i bc))):=λi b=>by refine amy a l s kind body q _ (p _ ?_);rw[apf,apj b];exact apD b
 have key:∀i,i<l.js.findIdx (uW kind body (uY s q))->i<y6 l.js/\uW kind body (uY s q) (y7 l.js i bc)=aj:=λi b=>by have d:i<y6 l.js:=apV b aqu;refine⟨d,?_⟩;have:=v3 b;rw[apf,apj d];simpa using this
 generalize he:VJ l s kind body q=g;have rd:∀i,i<l.js.findIdx (uW kind body (uY s q))->xo G (ae f323 0) (ixA g l.js i) y3 (ixA g l.js (i+1)):=λi b=>by obtain⟨d,r⟩:=key i b;have c:=k i d;rw[r]at c;have e:=fO bQ d bc;subst he;exact af.r a [.eb 9 (ah d),yu (ay bQ za d),yu (aq bQ za d),.eq 15 e,z3 c,.eq 18 (bL (ax d za))]
 unfold EU;split;rename_i h;have c:=k _ h;have e:=fO bQ h bc;have m:uW kind body (uY s q) (y7 l.js (l.js.findIdx (uW kind body (uY s q))) bc)=bj:=by have:=List.findIdx_getElem (w:=h);rw[apf,apj h];simpa using this
 rw[m]at c;subst he;have f:=aI.z zZq G (ae f323 0) .ret (lay 19 [(4,nat (l.js.findIdx (uW kind body (uY s q))))] []) (λi=>ixA (VJ l s kind body q) l.js i) _ rd
  (af.r a [.eb 9 (ah h),yu (ay bQ za h),yu (aq bQ za h),.eq 15 e,z3 c])
 exact Spec.r a func323 [] [.code f];rename_i h;have n:l.js.findIdx (uW kind body (uY s q))=y6 l.js:=arp aqu za;rw[n]at rd;subst he;have f:=aI.z zZq G (ae f323 0) (y5 0) (lay 19 [] []) (λi=>ixA (VJ l s kind body q) l.js i) _ rd
  (af.r a [.eb 9 (av (apc (y6 l.js)))])
 exact Spec.r a func323 [] [.code f]
def B0(l:Lk)(s:Fn)(kind body:aw)(q:Ask):cA:=EU (uW kind body (uY s q)) l.js
def U2(l:Lk)(s:Fn)(kind body:aw)(q:Ask)(b:y6 l.js<=1000000)(d:∀j∈l.js,∀o,ud j body=a6 o->o<y6 s.known):
  xf G 295 [vO l s,nat kind,nat body,adQ l s q] (int (B0 l s kind body q)):=by
 have c:=af5 a l s kind body q b d;cases q<;>exact Spec.y a (az [323]) func295 [5,6,7] [z3 c]
def Ch(l:Lk)(s:Fn)(kind body:aw)(b:y6 l.js<=1000000)(c:∀j∈l.js,∀o,ud j body=a6 o->o<y6 s.known):
  xf G 293 [vO l s,nat kind,nat body] (int (B0 l s kind body .known)):=
 Spec.y a (az [295]) func293 [] [z3 (U2 a l s kind body .known b c)]
end Tw
open Go Go.RowKit Go.Proofs
def kL:Code->Code
 |.seq x _=>x
 |.cond _ x _=>x
 |.block _ x=>x
 |.loop x=>x
 |.rangeFunc _ _ x _=>x
 |_=>.skip
def kR:Code->Code
 |.seq _ y=>y
 |.cond _ _ y=>y
 |.rangeFunc _ _ _ y=>y
 |_=>.skip
def yG:Code->ai e9
 |.region _ ops _=>ops.toList
 |_=>[]
def aN(f:kf):Code:=f.body.getD .skip
def Ro{F:Fence}{n m:aw}{P:cp}{k:Code}{Q:sx->Act->bn->Prop}{a:Act}{w:bn}(f:F.depth=bk)(h:k.wpIn F n P Q a w):k.wpIn F m P Q a w:=
 λb e cs i g _=>h b e cs i g (λd c=>by rw[f]at c;cases c)
variable {E q:Code} {b d:aw} {c:Act} {i:b3}
def oM{F:Fence}{P:cp}{x y:Code}{Q:sx->Act->bn->Prop}{w:bn}(a:q=.seq x y)(h:x.wpIn F b P (Exit.then (y.wpIn F b P Q) Q) c w):q.wpIn F b P Q c w:=by subst a;exact wpIn_seq h
def uJ{F:Fence}{P:cp}{x:Code}{Q:sx->Act->bn->Prop}{w:bn}(a:q=.block d x)(h:x.wpIn F b P (Exit.inBlock d Q) c w):q.wpIn F b P Q c w:=by subst a;exact wpIn_block h
def UZ{F:Fence}{P:cp}{Q:sx->Act->bn->Prop}{w:bn}(g:q=.loop E)(I:aw->Act->bn->Prop)(d:aw)(f:I d c w)
  (round:∀n c w,I n c w->E.wpIn F b P (Exit.then (λh w'=>∃e,e<n/\I e h w') Q) c w):q.wpIn F b P Q c w:=by
 subst g;exact rX I d f round
structure iY(W W':bn):Prop where
 size:W.heap.size<=W'.heap.size
 same:∀(k:aw) us e fr,W.heap[k]? =a6 (.cells us e fr)->W'.heap[k]? =a6 (.cells us e fr)
def iY.trans{A B C:bn}(h:iY A B)(k:iY B C):iY A C:=⟨apm h.size k.size,λi a e b c=>k.same i a e b (h.same i a e b c)⟩
def iY.yZ{W b:bn}(h:Below W.heap.size W b):iY W b:=⟨h.size,λk c e d a=>by rw[h.block k (aqi.1 a).1];exact a⟩
def iY.cell{W d:bn}(h:iY W d){a:Addr}(c:W.cell? a=a6 i):d.cell? a=a6 i:=by
 have u:=yd c;cases b:W.heap[a.block]?with
 |none=>simp[World.cell?,b]at c
 |some o=>
  cases o with
  |cells us e f=>
   have g:d.heap[a.block]? =W.heap[a.block]? :=by rw[h.same _ us e f b,b]
   rw[ma g];exact c
  |_=>simp[World.cell?,b]at c
def iY.HT{W a:bn}(h:iY W a):Ft W a:=λk c d=>by obtain⟨e,m⟩:=c;obtain⟨b,g,f,rfl⟩:=ju d;exact cw (h.same k b e g f)
def df.kC{c:Ctx}{n:aw}{s:as0}{a:Act}{w w':bn}{β:aw->aw}{X:aw->Prop}(h:df c n s a w β X)(d:iY w w')(r:J1 c w')(q:∀k,c.kp k=bk:=by intro k;rfl):df c n s a w' β X:=by
 have hm:∀a u,w.cell? a=a6 u->¬X a.block->w'.cell? a=a6 u/\¬X a.block:=λa u h f=>⟨d.cell h,f⟩
 exact⟨h.defers,h.size,λt=>(h.tmp t).mono hm d.HT,h.nd,λb cs j=>by
  obtain⟨B,A,i,e,z,y,v⟩:=h.blk b cs j;exact⟨B,A,i,e,d.same _ _ _ _ z,y,v.mono λu x _ l=>l.mono hm d.HT⟩,h.qS,h.inj,h.F,h.uZ,λk f=>apV (h.oH k f) d.size,r,
  λp m=>(h.gh p m).mono hm d.HT,h.i_,⟨λk o g=>(by rw[q]at g;cases g),h.kp.x,λk f=>apV (h.kp.lt k f) d.size,h.kp.off⟩⟩
def cx(P:cp)(G:bn->Prop)(r:bF aw)(w:bn):Ctx:=⟨P,G,λ_=>False,w,[],0,r,[],λ_=>bk,0,λ_=>bk,λ_=>False⟩
variable {P:cp} {G:bn->Prop}
def Rel.aah{r r':bF aw}{f w:bn}{n:aw}{s:as0}{a:Act}(h:Rel (cx P G r f) n s a w)(hs:∀b,s.blk b=bk):Rel (cx P G r' w) n s a w:=by obtain⟨β,X,h⟩:=h;exact⟨β,X,h.defers,h.size,h.tmp,h.nd,(λb cs c=>by rw[hs b]at c;cases c),(λb cs c=>by rw[hs b]at c;cases c),h.inj,h.F,λk e=>e.elim,h.oH,⟨Below.refl _ _,λ_ _ e=>(by cases e),apJ _⟩,(λp d=>by cases d),(λp d=>by cases d),ou.none rfl rfl⟩
def Rel.keeps{r:bF aw}{w w':bn}{n:aw}{s:as0}{a:Act}(h:Rel (cx P G r w) n s a w)(hs:∀b,s.blk b=bk)(c:iY w w'):Rel (cx P G r w') n s a w':=by
 obtain⟨β,X,h⟩:=h;have hm:∀a u,w.cell? a=a6 u->¬X a.block->w'.cell? a=a6 u/\¬X a.block:=λa u h e=>⟨c.cell h,e⟩
 exact⟨β,X,h.defers,h.size,(λt=>(h.tmp t).mono hm c.HT),h.nd,(λb cs d=>by rw[hs b]at d;cases d),(λb cs d=>by rw[hs b]at d;cases d),h.inj,h.F,λk c=>c.elim,(λk e=>apV (h.oH k e) c.size),⟨Below.refl _ _,λ_ _ c=>(by cases c),apJ _⟩,(λp f=>by cases f),(λp f=>by cases f),ou.none rfl rfl⟩
def pW(n:aw)(l:ai (aw×D))(b:aw):(lay n l []).fs.blk b=bk:=rfl
def mV{s:St}{n m:aw}{l:ai (aw×D)}{e:iw}{k:Code}{r:bF aw}{Q:sx->Act->bn->Prop}{a:Act}{W:bn}(h:s.tmps.length=n)(u:af P G 0 k s e (lay n l []))(q:Rel (cx P G r W) n s.fs a W)(w:aa G)(g:G W)
  (v:∀d c,Rel (cx P G r c) n (lay n l []).fs d c->G c->Below W.heap.size W c->Q e.BA d c):k.wpIn (Fw r) m P Q a W:=by
 obtain⟨s1,x,z,y,o,p,t⟩:=u;refine Ro (n:=0) rfl (o.2 (cx P G r W) Q a W rfl rfl g (apc 0) (by rw[h];exact q) λd c j=>?_);rw[h]at j;have i:=j.mask (apc _) p;rw[t]at i;obtain⟨β,X,f⟩:=i;exact v d c (Rel.aah ⟨β,X,f⟩ λb=>pW n l b) (f.mz w g) f.below.uX
def HY{c:Ctx}{Q:sx->Act->bn->Prop}{inl:Inline P G}(n:z9 P G inl)(p:c.P=P)(v:c.Good=G)(q:aa G)(r:c.Good c.w0){gb:aw}(i:c.gb<=gb){ops:eY e9}{ro:ai aw}(l2:ai e9):
  ∀(l:ai e9)(s s':St)(g tr':ai (Item P G))(eqs:ai (cY×cY))(m:ai (Rec×bF aw))(a:Act)(w:bn),
   me P inl aj ops ro gb l s g=a6 (s',tr',eqs,m)->jU eqs->Rel c (y6 s.tmps) s.fs a w->(∀f w',Rel c (y6 s.tmps) s'.fs f w'->wpListIn (Fw c.rd) 0 P ops Q l2 f w')->wpListIn (Fw c.rd) 0 P ops Q (l++l2) a w
 |[],s,s',g,tr',eqs,m,a,w,e,he,h,j=>by simp only[me,eE,gu]at e;obtain⟨rfl,rfl,rfl,rfl⟩:=e;exact j a w h
 |o::rest,s,s',g,tr',eqs,m,a,w,e,he,h,j=>by
  simp only[me]at e;split at e;rename_i R F H k;split at e;rename_i s2 J I C A;cases e;obtain⟨D,E⟩:=he.append;obtain⟨B,u⟩:=wA k;refine wpListIn_step λK z=>?_
  refine h_ n p v q r i h k D (λb cs d x y=>by rw[(qR k).1 b cs d x y];exact nu s) (λ_=>⟨λb=>rfl,λb=>rfl,xm s,EM _ s i⟩) λf w' t=>z _ _ ?_
  rw[<-B,<-u]at t;exact HY n p v q r i l2 rest _ _ _ _ _ _ f w' A E t (by rw[u];exact j);cases e;cases e
def Dm(P:cp){G:bn->Prop}(ops:eY e9)(l:ai e9)(s:St)(c:ai (Item P G))(b:ai aw):bF (ai D×ai (Item P G)×ai (cY×cY)):=
 match me P (wK P (mX P 60)) aj ops [] 0 l s c with
 |some (a,tr',eqs,_)=>if xM 0 b [] [] a&&y6 a.tmps==y6 s.tmps then a6 (b.map λt=>y7 a.tmps t .any,tr',eqs)else bk
 |none=>bk
def Sj{s:St}{n m:aw}{l:ai (aw×D)}{r:bF aw}{ops:eY e9}{l1 l2:ai e9}{Q:sx->Act->bn->Prop}{a:Act}{W:bn}(p:s.tmps.length=n)(f:ai (Item P G))(q:aa G)
  (h:Dm P ops l1 s f (l.map (·.1))=a6 (l.map (·.2),[],said f)) (z:Rel (cx P G r W) n s.fs a W) (u:G W)
  (C:∀j d,Rel (cx P G r d) n (lay n l []).fs j d->G d->Below W.heap.size W d->wpListIn (Fw r) 0 P ops Q l2 j d):wpListIn (Fw r) 0 P ops Q (l1++l2) a W:=by
 unfold Dm at h;split at h;rename_i i tr' g H F;split at h;rename_i o;simp only[dT,ec]at o;simp only[eE,gu]at h;obtain⟨w,rfl,rfl⟩:=h;have y:z9 P G (wK P (mX P 60)):=n_ λro E k s f e i tr' g A B=>iK q 60 ro E k s f e i tr' g A B
 refine HY (c:=cx P G r W) y rfl rfl q u (apc 0) l2 l1 s i f [] _ H a W F (oW f) (by rw[p];exact z) λj d x=>?_
 rw[p]at x;have v:=x.mask (apc _) o.1;have e:=rT (j:=i) (n:=n) (l:=l) (bl:=[]) (ns:=[]) (o.2.trans p) (by rw[aqG]at w;exact w) rfl;simp only[fB]at e;rw[e]at v;obtain⟨β,X,t⟩:=v;exact C j d (Rel.aah ⟨β,X,t⟩ λb=>pW n l b) (t.mz q u) t.below.uX;cases h;cases h
variable {k:aw} {m:c7}
def Wx{F:Fence}{P:cp}{tmps:eY b3}{w:bn}{R:Ending->bn->Prop}(f:F.depth=bk)(h:RoundIn F b P k m tmps q E w R):RoundIn F d P k m tmps q E w R:=
 ⟨h.1,λc cs _=>h.2 c cs (λd a=>by rw[f]at a;cases a)⟩
def afY(n:aw)(l:ai (aw×D))(t:aw)(d:D)(a:t<n):(lay n l []).fs.put n (a6 t) d=(lay n ((t,d)::l) []).fs:=by
 have key:∀u,(if a6 t=a6 u/\u<n then d else(lay n l []).fs.tmp u)=(lay n ((t,d)::l) []).fs.tmp u:=λu=>by rw[ct,ct];by_cases hu:t=u;subst hu;rw[aph ⟨rfl,a⟩,aph a,arx zb];rfl;rw[ape (by rintro⟨h,_⟩;exact hu (ap0 h)),aq4 (by simpa using hu)]
 show(⟨λu=>if a6 t=a6 u/\u<n then d else(lay n l []).fs.tmp u,_,_⟩:as0)=_;rw[funext key];rfl
def Rel.aaq{r:bF aw}{w:bn}{n:aw}{l:ai (aw×D)}{a:Act}{t:aw}{v:b3}(h:Rel (cx P G r w) n (lay n l []).fs a w)(c:t<n):Rel (cx P G r w) n (lay n ((t,.lit v)::l) []).fs (a.put (a6 t) v) w:=by obtain⟨β,X,f⟩:=h;have:=f.put (dst:=a6 t) (v:=v) (d:=.lit v) (.c (.p (.lit v))) (λb e=>by simp[D.refs]at e);rw[afY n l t _ c]at this;exact⟨β,X,this⟩
def Rel.lits{G':bn->Prop}{r r':bF aw}{w w':bn}{n:aw}{s:as0}{l:ai (aw×D)}{a:Act}(h:Rel (cx P G r w) n s a w)(j:∀p∈l,∃v,p.2=.lit v/\s.tmp p.1=.lit v):Rel (cx P G' r' w') n (lay n l []).fs a w':=by
 obtain⟨β,X,g⟩:=h;refine⟨λ_=>0,λ_=>False,g.defers,g.size,λt=>?_,λt b c=>?_,(λb cs c=>by rw[pW]at c;cases c),(λb cs c=>by rw[pW]at c;cases c),(λb x c=>by rw[pW]at c;cases c),λk d=>d.elim,λk d=>d.elim,λk d=>d.elim,⟨Below.refl _ _,λ_ _ d=>(by cases d),apJ _⟩,(λp f=>by cases f),(λp f=>by cases f),ou.none rfl rfl⟩
 ·rw[ct]
  split
  ·cases e:l.find? λp=>p.1==t with
   |none=>exact .c (.p (.any _))
   |some p=>
    have f:=aqA e;have q:p.1=t:=by have:=aro e;simpa using this
    obtain⟨v,i,o⟩:=j p f;have m:=g.tmp p.1;rw[o,q]at m;have u:=tX (m.pure rfl) (v:=v) rfl;rw[u];show bU _ _ _ v p.2;rw[i];exact .c (.p (.lit v))
  ·exact .c (.p (.any _))
 ·exfalso
  rw[ct]at c;split at c
  ·cases e:l.find? λp=>p.1==t with
   |none=>rw[e]at c;simp[D.refs]at c
   |some p=>
    obtain⟨v,i,o⟩:=j p (aqA e);rw[e]at c;simp only[dm,uS]at c;rw[i]at c;simp[D.refs]at c
  ·simp[D.refs]at c
def Rel.start{r:bF aw}{w:bn}{n:aw}{vals:ai b3}{args:ai D}(j:args.length<=n)(h:aR w (λ_=>False) vals args):
  Rel (cx P G r w) n (dA n args []).fs {tmps:=vals.toArray++jj (n-vals.toArray.size) fg,defers:=[]} w:=by
 have e:∀b,(dA n args []).fs.blk b=bk:=λb=>by simp[dA,St.fs]
 refine⟨λ_=>0,λ_=>False,rfl,?_,λt=>?_,?_,(λb cs a=>by rw[e]at a;cases a),(λb cs a=>by rw[e]at a;cases a),(λb q a=>by rw[e]at a;cases a),λk c=>c.elim,λk c=>c.elim,λk c=>c.elim,⟨Below.refl _ _,λ_ _ c=>(by cases c),apJ _⟩,(λp f=>by cases f),(λp f=>by cases f),ou.none rfl rfl⟩;have:=h.1;simp;omega;exact qE (Q':=λv d=>bU (λ_=>0) w (λ_=>False) v d) h.1 j (λi o m=>.c (.p (h.2 i o m))) (.c (.p (.lit _))) (.c (.p (.any _))) t;refine qG λd l b a=>?_
 obtain⟨i,g,rfl⟩:=apF.1 l;rw[eV (h.2 i (by rw[h.1];exact g) g)]at a;cases a
namespace Gr
def EB(N:aw)(free:aw->b5)(i j:aw):ai (aw×aw):=((ch j).filter λk=>decide (i<k)&&(free i&&free k)).map λk=>(i,k)
def Lp(N:aw)(free:aw->b5)(i j:aw):ai (aw×aw):=((ch i).flatMap λh=>EB N free h N)++EB N free i j
def Sa(N:aw)(free:aw->b5)(i:aw):EB N free i (i+1)=[]:=by unfold EB;rw[aqQ.2,fB];intro k a;have:=arb.1 a;simp;omega
def MP(N:aw)(free:aw->b5)(i:aw){j:aw}(h:j<=i+1):EB N free i j=[]:=by unfold EB;rw[aqQ.2,fB];intro k a;have:=arb.1 a;simp;omega
def WI(N:aw)(free:aw->b5){i j:aw}:EB N free i (j+1)=EB N free i j++if i<j/\free i=bj/\free j=bj then [(i,j)]else []:=by unfold EB;rw[aq1,aq_,aqp];congr 1;by_cases h:i<j/\free i=bj/\free j=bj;rw[aph h,vc (by simp[h])];rfl;rw[ape h,ap5 (by simpa using h)];rfl
def Hm(N:aw)(free:aw->b5){i j:aw}:Lp N free i (j+1)=Lp N free i j++if i<j/\free i=bj/\free j=bj then [(i,j)]else []:=by unfold Lp;rw[WI,aqV]
def TS(N:aw)(free:aw->b5)(i:aw):Lp N free i N=Lp N free (i+1) 0:=by unfold Lp;rw[aq1,aqI,MP N free (i+1) (j:=0) za,aqs];simp
def anb(N:aw)(free:aw->b5)(i:aw):Lp N free i 0=Lp N free i (i+1):=by unfold Lp;rw[Sa,MP N free i (j:=0) za]
def akV(N:aw)(free:aw->b5){i j:aw}(b:i<N)(f:j<=N):y6 (Lp N free i j)<N*N+1:=by
 have a:∀h k,y6 (EB N free h k)<=k:=λh k=>by unfold EB;rw[apq];exact apm (List.length_filter_le _ _) zb
 have c:∀m,y6 ((ch m).flatMap λh=>EB N free h N)<=m*N:=by
  intro m;induction m with
  |zero=>simp
  |succ m e=>
   rw[aq1,aqI,ap4,aqk];have:=a m N;simp only[tu,List.flatMap_nil,r8];omega
 unfold Lp;rw[ap4];have l:=c i;have g:=a i j;have d:(i+1)*N<=N*N:=apB _ b;rw[aqk]at d;omega
def NK(x:aw×aw):eY b3:= #[.int .i64 (zNq x.1),.int .i64 (zNq x.2)]
def Kp(b:aw)(W a:bn):Prop:=iY W a/\Below b W a
def Dp(K:Code):Code:=kL (kL (kR K))
def kIn(K:Code):Code:=kR (kR (Dp K))
def SU(K:Code):Code:=kL (kL (kIn K))
def zn(K:Code):Code:=kL (kL (kR (kR (SU K))))
def F5(K:Code):Code:=kL (kL (kR (zn K)))
def jO(nm:D)(N:aw)(bs rest:ai D):D:=.aJ (nm:: yI N aj bs::rest)
section
variable (nm:D) (N:aw) (bs rest:ai D) (yv:b3)
def Re(i:aw):ai (aw×D):=[(0,yT yv),(1,.aJ [jO nm N bs rest]),(10,nat N),(11,nat i)]
def Nl(i j:aw):ai (aw×D):=[(0,yT yv),(1,.aJ [jO nm N bs rest]),(3,nat i),(4,nat j),(10,nat N),(11,nat i)]
end
variable {nm:D} {N:aw} {bs rest:ai D} {yv:b3}
def abV:(aN f322)=.seq (kL (aN f322)) (.block 0 (.loop (Dp (aN f322)))):=zk
def abU:(Dp (aN f322))=.seq (kL (Dp (aN f322))) (.seq (kL (kR (Dp (aN f322)))) (.seq (.block 1 (SU (aN f322))) (kR (kIn (aN f322))))):=zk
def ajK:(SU (aN f322))=.seq (kL (SU (aN f322))) (.seq (kL (kR (SU (aN f322)))) (.block 2 (.loop (zn (aN f322))))):=zk
def abW:(zn (aN f322))=.seq (kL (zn (aN f322))) (.seq (.block 3 (F5 (aN f322))) (kR (kR (zn (aN f322))))):=zk
def amh:(F5 (aN f322))=.seq (.region 6 (yG (kL (F5 (aN f322)))).toArray aj) (kR (F5 (aN f322))):=zk
def anG(a:aa G):xo G (kL (aN f322)) (dA 42 [yT yv,.aJ [jO nm N bs rest]] []) y3 (lay 42 (Re nm N bs rest yv 0) []):=
 af.br a (ro:=[]) (m:=60) rfl []
def alp(b:aa G){i:aw}(a:i<N):xo G (kL (Dp (aN f322))) (lay 42 (Re nm N bs rest yv i) []) y3 (lay 42 ((12,bool bj)::Re nm N bs rest yv i) []):=
 af.r b [.eb 12 (ah a)]
def alq(b:aa G){i:aw}(a:N<=i):xo G (kL (Dp (aN f322))) (lay 42 (Re nm N bs rest yv i) []) y3 (lay 42 ((12,bool aj)::Re nm N bs rest yv i) []):=
 af.r b [.eb 12 (av a)]
def aln(a:aa G){i:aw}:xo G (kL (kR (Dp (aN f322)))) (lay 42 ((12,bool bj)::Re nm N bs rest yv i) []) y3 (lay 42 (Re nm N bs rest yv i) []):=
 af.r a []
def alo(a:aa G){i:aw}:xo G (kL (kR (Dp (aN f322)))) (lay 42 ((12,bool aj)::Re nm N bs rest yv i) []) (y5 0) (lay 42 (Re nm N bs rest yv i) []):=
 af.r a []
def anF(a:aa G){i:aw}:xo G (kL (SU (aN f322))) (lay 42 (Re nm N bs rest yv i) []) y3 (lay 42 ((3,nat i)::Re nm N bs rest yv i) []):=
 af.r a []
def anE(a:aa G){i:aw}(b:i<100):xo G (kL (kR (SU (aN f322)))) (lay 42 ((3,nat i)::Re nm N bs rest yv i) []) y3 (lay 42 (Nl nm N bs rest yv i (i+1)) []):=
 af.r a [.eq 15 (bL (b7 (a:=i) za))]
def alj(b:aa G){i j:aw}(a:j<N):xo G (kL (zn (aN f322))) (lay 42 (Nl nm N bs rest yv i j) []) y3 (lay 42 (Nl nm N bs rest yv i j) []):=
 af.r b [.eb 23 (ah a)]
def alk(b:aa G){i j:aw}(a:N<=j):xo G (kL (zn (aN f322))) (lay 42 (Nl nm N bs rest yv i j) []) (y5 2) (lay 42 (Re nm N bs rest yv i) []):=
 af.r b [.eb 23 (av a)]
def anD(a:aa G){i:aw}(b:i<100):xo G (kR (kIn (aN f322))) (lay 42 (Re nm N bs rest yv i) []) y3 (lay 42 (Re nm N bs rest yv (i+1)) []):=
 af.r a [.eq 41 (bL (b7 (a:=i) za))]
def ali(a:aa G){i j:aw}(b:j<100):xo G (kR (kR (zn (aN f322)))) (lay 42 (Nl nm N bs rest yv i j) []) y3 (lay 42 (Nl nm N bs rest yv i (j+1)) []):=
 af.r a [.eq 25 (bL (b7 (a:=j) za))]
def anC(c:aa G){i j:aw}{b a:b5}(h:(b&&a)=aj)(d:xf G 297 [jO nm N bs rest,nat i] (bool b))(e:xf G 297 [jO nm N bs rest,nat j] (bool a)):
  xo G (F5 (aN f322)) (lay 42 (Nl nm N bs rest yv i j) []) y3 (lay 42 (Nl nm N bs rest yv i j) []):=by
 cases b with
 |false=>exact af.r c [z3 d]
 |true=>
  cases a with
  |false=>exact af.r c [z3 d,z3 e]
  |true=>cases h
def itM(nm:D)(N:aw)(bs rest:ai D)(yv:b3)(i j:aw):ai (aw×D):=(34,bool bj)::(35,yT yv)::(36,nat i)::(37,nat j)::Nl nm N bs rest yv i j
def anB(c:aa G){i j:aw}(b:xf G 297 [jO nm N bs rest,nat i] (bool bj))(a:xf G 297 [jO nm N bs rest,nat j] (bool bj)):
  Dm zZq (yG (kL (F5 (aN f322)))).toArray ((yG (kL (F5 (aN f322)))).take 12) (lay 42 (Nl nm N bs rest yv i j) []) [Item.call b,Item.call a] ((itM nm N bs rest yv i j).map (·.1))=a6 ((itM nm N bs rest yv i j).map (·.2),[],said [Item.call b,Item.call a]):=zk
end Gr
variable {n:as0} {s:Type}
def D6{B:aw}{J:s->bn->Prop}(h:AbidesFrom B J){β:s}{W b:bn}(hs:J β W)(a:Below W.heap.size W b):J β b:=
 h β W b bk hs ⟨a.os,a.tape,a.output,a.size,λk c _=>a.block k c⟩ (λr e=>by cases e)
def yf(o:e9):bF (c6×eY c6):=match o.op with
 |.call c=>match c.callee with
  |.value f=>a6 (f,c.args)
  |_=>bk
 |_=>bk
def TB{o:e9}{f:c6}{args:eY c6}(h:yf o=a6 (f,args)):∃c,o.op=.call c/\c.callee=.value f/\c.args=args:=by unfold yf at h;split at h;rename_i c b;split at h;rename_i g a;simp only[eE,gu]at h;exact⟨c,b,by rw[a,h.1],h.2⟩;cases h;cases h
def OT{o:e9}{ρ:c6->b3}{W:bn}{c:Call}{l:aw}{vs:eY b3}{f:c6}{r:Result Next}(g:o.op=.call c)(d:c.callee=.value f)(b:ρ f=.func (.yield l) #[] #[])(e:c.args.map ρ=vs)(a:(Instr.yield l vs).run P W=r):(execOp ρ o).run P W=r:=by simp[execOp,g,resolve,d,b,invoke,e,a,vn,go_sem]
def RN{o:e9}{c:Call}{r:bF aw}{ρ:c6->b3}(a:o.op=.call c):o.semAt r ρ=execOp ρ o:=by unfold Oper.semAt;rw[a];cases r<;>rfl
def Zd{n m:aw}{l:ai (aw×D)}{ops:eY e9}{o:e9}{rest:ai e9}{Q:sx->Act->bn->Prop}{a:Act}{W:bn}{f:c6}{args:eY c6}{g:aw}{vs:eY b3}{t:aw}
  (s:yf o=a6 (f,args)) (y:o.dst=a6 t) (i:l9 ops o (lay n l []).fs.tmp=a6 bj)
  (r:Rel (cx P G bk W) n (lay n l []).fs a W) (w:a.eval f=.func (.yield g) #[] #[]) (A:args.map a.eval=vs)
  {R:Ending->bn->Prop} (p:YieldAt eD m P g vs W R) (B:∀e d,R e d->∃v,e=.returned v/\wpListIn (Fw bk) 0 P ops Q rest (a.put (a6 t) v) d):
  wpListIn (Fw bk) 0 P ops Q (o::rest) a W:=by
 obtain⟨c,k,z,F⟩:=TB s;obtain⟨β,X,E⟩:=r;have hw:=I7 E ops o bj i;obtain⟨fn,tmps,assign,b,H,j⟩:=p;have q:(execOp a.eval o).run P W=.ok (.round g fn tmps assign b) W:=OT k z w (by rw[F];exact A) H;refine wpListIn_step λK C=>?_
 rw[aph hw];refine⟨λ_ _=>trivial,?_⟩;rw[RN k,q,Oper.uponIn_round];refine⟨(λh=>by cases h),(Wx (d:=0-1) rfl j).mono ?_⟩;intro e d x;obtain⟨v,rfl,u⟩:=B e d x;rw[y];exact C _ _ u
def Rel.BB{r:bF aw}{w:bn}{s:aw}(h:Rel (cx P G r w) s n c w){t:aw}{v:b3}(e:n.tmp t=yT v):c.tmps.getD t fg=v:=by obtain⟨β,X,a⟩:=h;have b:=a.tmp t;rw[e]at b;exact tX (b.pure rfl) (v:=v) rfl
namespace Gr
variable {nm:D} {N:aw} {bs rest:ai D} {yv:b3}
def alS:y6 ((yG (kL (F5 (aN f322)))).drop 12)=3:=zk
def alT:((yG (kL (F5 (aN f322)))).drop 12).head?.map (λo=>(yf o,o.dst,o.guard))=a6 (a6 (.tmp 35,#[.tmp 36,.tmp 37]),a6 38,a6 (8,bj)):=zk
def three{L:ai e9}(h:y6 (L.drop 12)=3)(a:(L.drop 12).head?.map (λo=>(yf o,o.dst,o.guard))=a6 (a6 (.tmp 35,#[.tmp 36,.tmp 37]),a6 38,a6 (8,bj))):
  ∃o,L.drop 12=o::L.drop 13/\yf o=a6 (.tmp 35,#[.tmp 36,.tmp 37])/\o.dst=a6 38/\o.guard=a6 (8,bj):=by
 have e:L.drop 13=(L.drop 12).drop 1:=by rw[List.drop_drop]
 rw[e];generalize L.drop 12=M at h a;cases M with
 |nil=>cases a
 |cons o M=>
  simp only[List.head?_cons,dm,eE,gu]at a;exact⟨o,rfl,a.1,a.2.1,a.2.2⟩
def anW:∃o,(yG (kL (F5 (aN f322)))).drop 12=o::(yG (kL (F5 (aN f322)))).drop 13/\yf o=a6 (.tmp 35,#[.tmp 36,.tmp 37])/\o.dst=a6 38/\o.guard=a6 (8,bj):=by have b:=alS;have a:=alT;generalize(yG (kL (F5 (aN f322))))=L at b a⊢;exact three b a
def op8:(((yG (kL (F5 (aN f322)))).toArray)[8]?.bind (·.dst))=a6 34:=zk
def adN:kR (F5 (aN f322))=.cond (.tmp 40) .ret .skip:=zk
def als{i j:aw}:
  Dm zZq (G:=G) (yG (kL (F5 (aN f322)))).toArray ((yG (kL (F5 (aN f322)))).drop 13) (lay 42 ((38,bool bj)::itM nm N bs rest yv i j) []) [] (((40,bool aj)::Nl nm N bs rest yv i j).map (·.1))=a6 (((40,bool aj)::Nl nm N bs rest yv i j).map (·.2),[],said ([]:ai (Item zZq G))):=by
 kernel_rfl
def itE(i j:aw):ai (aw×D):=[(38,bool aj),(34,bool bj),(36,nat i),(37,nat j)]
def alr{i j:aw}:
  Dm zZq (G:=G) (yG (kL (F5 (aN f322)))).toArray ((yG (kL (F5 (aN f322)))).drop 13) (lay 42 (itE i j) []) [] [40]=a6 ([bool bj],[],said ([]:ai (Item zZq G))):=by
 kernel_rfl
def agM(F:aa G){i j l m m':aw}{W:bn}{a:Act}{Q:sx->Act->bn->Prop}(w:yv=.func (.yield l) #[] #[])
  (V:Spec zZq G 297 [jO nm N bs rest,nat i] (bool bj)) (U:Spec zZq G 297 [jO nm N bs rest,nat j] (bool bj))
  (M:Rel (cx zZq G bk W) 42 (lay 42 (Nl nm N bs rest yv i j) []).fs a W) (S:G W) {Jt Je:bn->Prop}
  (L:∀g,G g->Below W.heap.size W g->YieldAt eD m' zZq l (NK (i,j)) g λe c=>(e=.returned (.bool bj)/\iY g c/\G c/\Jt c)\/(e=.returned (.bool aj)/\Je c))
  (C:∀W c,Jt W->Below W.heap.size W c->Jt c) (E:∀W c,Je W->Below W.heap.size W c->Je c)
  (B:∀q c,Rel (cx zZq G bk c) 42 (lay 42 (Nl nm N bs rest yv i j) []).fs q c->G c->Jt c->Q .normal q c)
  (A:∀q c,Rel (cx zZq (λ_=>True) bk c) 42 (lay 42 [(40,bool bj)] []).fs q c->Je c->Q .ret q c):
  (F5 (aN f322)).wpIn eD m zZq Q a W:=by
 subst w;obtain⟨o,O,H,Y,Z⟩:=anW;refine oM amh (Ro (n:=0) rfl (wpIn_region_list ?_));have el:(yG (kL (F5 (aN f322)))).toArray.toList=(yG (kL (F5 (aN f322)))).take 12++(yG (kL (F5 (aN f322)))).drop 12:=by rw[List.take_append_drop]
 rw[el,O];refine Sj (r:=bk) (m:=0) (aO ..) _ F (anB F V U) M S λa1 g d z Az=>?_
 have v0:a1.eval (.tmp 35)=.func (.yield l) #[] #[]:=d.BB (t:=35) (by rw[ct];rfl);have v1:a1.eval (.tmp 36)=.int .i64 (zNq i):=d.BB (t:=36) (by rw[ct];rfl);have v2:a1.eval (.tmp 37)=.int .i64 (zNq j):=d.BB (t:=37) (by rw[ct];rfl);refine Zd (m:=m') (vs:=NK (i,j)) H Y ?_ d v0 (by rw[List.map_toArray];show [a1.eval (.tmp 36),a1.eval (.tmp 37)].toArray=NK (i,j);rw[v1,v2];rfl) (L g z Az) ?_;unfold l9;rw[Z];simp only[op8];rw[ct];rfl;intro e X T;rcases T with⟨rfl,R,y,x⟩|⟨rfl,x⟩
 refine⟨_,rfl,?_⟩;have J:=(d.keeps (λb=>pW 42 _ b) R).aaq (t:=38) (v:=.bool bj) za;have:=Sj (r:=bk) (m:=0) (P:=zZq) (l2:=[]) (l1:=(yG (kL (F5 (aN f322)))).drop 13) (aO ..) [] F als J y (Q:=Exit.then ((kR (F5 (aN f322))).wpIn eD m zZq Q) Q) λk u f h I=>by show Code.wpIn eD m zZq _ Q k u;rw[adN];refine wpIn_cond_false (f.BB (t:=40) (by rw[ct];rfl)) (wpIn_skip ?_);refine B k u ?_ h (C _ _ x I);have hm:=f.mask (s:=lay 42 ((40,bool aj)::Nl nm N bs rest (.func (.yield l) #[] #[]) i j) []) (gb:=0) (keepT:=(Nl nm N bs rest (.func (.yield l) #[] #[]) i j).map (·.1)) (keepB:=[]) (ns:=[]) (apc _) zk;have e:=rT (j:=lay 42 ((40,bool aj)::Nl nm N bs rest (.func (.yield l) #[] #[]) i j) []) (n:=42) (l:=Nl nm N bs rest (.func (.yield l) #[] #[]) i j) (bl:=[]) (ns:=[]) (aO ..) zk rfl;simp only[fB]at e;rw[e]at hm;exact hm
 rwa [aqs]at this
 refine⟨_,rfl,?_⟩;have J:=(d.aaq (t:=38) (v:=.bool aj) za).lits (G':=λ_=>True) (r':=bk) (w':=X) (l:=itE i j) (by
  intro p K;simp only[itE,b4,bI,or_false]at K;obtain rfl|rfl|rfl|rfl:=K
  exact⟨_,rfl,by rw[ct];rfl⟩;exact⟨_,rfl,by rw[ct];rfl⟩;exact⟨_,rfl,by rw[ct];rfl⟩;exact⟨_,rfl,by rw[ct];rfl⟩)
 have:=Sj (r:=bk) (m:=0) (P:=zZq) (G:=λ_=>True) (l:=[(40,bool bj)]) (l2:=[]) (l1:=(yG (kL (F5 (aN f322)))).drop 13) (aO ..) [] (λ_ _ _ _=>trivial) alr J trivial (Q:=Exit.then ((kR (F5 (aN f322))).wpIn eD m zZq Q) Q) λk u f h I=>by show Code.wpIn eD m zZq _ Q k u;rw[adN];exact wpIn_cond_true (f.BB (t:=40) (by rw[ct];rfl)) (wpIn_ret (A k u f (E _ _ x I)))
 rwa [aqs]at this
def abX{G':bn->Prop}{l:ai (aw×D)}{W:bn}{R:Ending->bn->Prop}(a:Rel (cx zZq G' bk W) 42 (lay 42 l []).fs c W)(h:∀v,R (.returned v) W):c.defers=[]/\∃v,(results f322 c.tmps).run zZq W=.ok v W/\R (.returned v) W:=by obtain⟨β,X,b⟩:=a;refine⟨b.defers,?_⟩;obtain⟨e,d,-⟩:=kV (j:=lay 42 l []) b (o:=f322) (h:=[]) zk;exact⟨_,d,h _⟩
def Se{free:aw->b5}(g:aa G)(hN:N<100){O:b3}{w S:bn}{l m:aw}(Y:b9 w (λ_=>False) O (.aJ [jO nm N bs rest]))(hw:G w)
  (cf:∀i<N,Spec zZq G 297 [jO nm N bs rest,nat i] (bool (free i))) (J H:ai (aw×aw)->bn->Prop) (E:Below w.heap.size w S)
  (s:∀pre W p,J pre W->Below W.heap.size W p->J pre p) (Z:∀pre W p,H pre W->Below W.heap.size W p->H pre p)
  (hY:∀pre i j t,i<j->j<N->free i=bj->free j=bj->J pre t->pre.length<N*N+1->YieldAt eD (m-1) zZq l (NK (i,j)) t λe p=>
   (e=.returned (.bool bj)/\J (pre++[(i,j)]) p/\Kp w.heap.size t p)\/(e=.returned (.bool aj)/\H (pre++[(i,j)]) p)) (h0:J [] S):
  CallsIn eD m zZq 322 (#[.func (.yield l) #[] #[]]++ #[O]) S λe p=>(∃v,e=.returned v)/\((∃xs,xs=Lp N free N 0/\J xs p)\/
   ∃pre,(∃i j,i<j/\j<N/\free i=bj/\free j=bj/\pre=Lp N free i j++[(i,j)])/\H pre p):=by
 have I:∀W,Below w.heap.size w W->G W:=λW h=>g _ _ h hw
 have more:∀{W p:bn},Below w.heap.size w W->Below W.heap.size W p->Below w.heap.size w p:=λh k=>h.trans (k.mono h.size)
 have P9:Rel (cx zZq G bk S) 42 (dA 42 [.lit (.func (.yield l) #[] #[]),.aJ [jO nm N bs rest]] []).fs {tmps:= #[.func (.yield l) #[] #[]]++ #[O]++jj (42-(#[.func (.yield l) #[] #[]]++ #[O]:eY b3).size) fg,defers:=[]} S:=
  Rel.start (vals:=[.func (.yield l) #[] #[],O]) zb ⟨rfl,λi A M=>by
   match i,A with
   |0,_=>exact .lit _
   |1,_=>exact Y.mono (λa u h hx=>⟨(iY.yZ E).cell h,hx⟩)⟩
 refine oi (fn:=f322) (c:=aN f322) zk zk trivial ?_;refine oM abV (mV (r:=bk) (o5 zb) (anG g) P9 g (I _ E) λa W d q b=>?_);show Code.wpIn eD m zZq _ _ a W;refine uJ rfl (UZ rfl (λn a W=>∃i,n+i=N/\Rel (cx zZq G bk W) 42 (lay 42 (Re nm N bs rest (.func (.yield l) #[] #[]) i) []).fs a W/\Below w.heap.size w W/\J (Lp N free i 0) W) N ⟨0,rfl,d,more E b,s _ _ _ h0 b⟩ ?_);rintro n0 a W ⟨i,hi,d,o,f⟩;refine oM abU ?_;by_cases bZ:i<N;refine mV (r:=bk) (aO ..) (alp g bZ) d g (I _ o) λa t d q b=>?_
 replace o:=more o b;replace f:=s _ _ _ f b
 show Code.wpIn eD m zZq _ _ a t;refine oM rfl (mV (r:=bk) (aO ..) (aln g) d g q λa x d q b=>?_)
 replace o:=more o b;replace f:=s _ _ _ f b
 show Code.wpIn eD m zZq _ _ a x;refine oM rfl (uJ rfl ?_);refine oM ajK (mV (r:=bk) (aO ..) (anF g) d g q λa W3 d q b=>?_)
 replace o:=more o b;replace f:=s _ _ _ f b
 show Code.wpIn eD m zZq _ _ a W3;refine oM rfl (mV (r:=bk) (aO ..) (anE g za) d g q λa W4 d q b=>?_)
 replace o:=more o b;replace f:=s _ _ _ f b
 show Code.wpIn eD m zZq _ _ a W4;rw[anb]at f;refine uJ rfl (UZ rfl (λn a W=>∃j,n+j=N/\i<j/\Rel (cx zZq G bk W) 42 (lay 42 (Nl nm N bs rest (.func (.yield l) #[] #[]) i j) []).fs a W/\Below w.heap.size w W/\J (Lp N free i j) W) (N-(i+1)) ⟨i+1,by omega,by omega,d,o,f⟩ ?_);clear d o f q b;rintro n a W ⟨j,hnj,T,d,o,f⟩;refine oM abW ?_;by_cases z:j<N;refine mV (r:=bk) (aO ..) (alj g z) d g (I _ o) λa t d q b=>?_
 replace o:=more o b;replace f:=s _ _ _ f b
 show Code.wpIn eD m zZq _ _ a t;refine oM rfl (uJ rfl ?_);have C:=cf i bZ;have B:=cf j z;by_cases y:free i=bj/\free j=bj;have K:Lp N free i (j+1)=Lp N free i j++[(i,j)]:=by rw[Hm,aph ⟨T,y.1,y.2⟩]
 rw[y.1]at C;rw[y.2]at B;refine agM (l:=l) (Jt:=λp=>Below w.heap.size w p/\J (Lp N free i (j+1)) p) (Je:=H (Lp N free i (j+1))) g rfl C B d q (m':=m-1) ?_ ?_ ?_ ?_ ?_;intro x hg2 xT;have Q:=more o xT;obtain⟨fn,tmps,assign,P,A,M⟩:=hY _ i j x T z y.1 y.2 (s _ _ _ f xT) (akV N free bZ za);refine⟨fn,tmps,assign,P,A,M.mono ?_⟩;rintro e p (⟨he,F,U⟩|⟨he,F⟩);exact .inl ⟨he,U.1,I _ (Q.trans U.2),Q.trans U.2,by rw[K];exact F⟩;exact .inr ⟨he,by rw[K];exact F⟩;rintro W p ⟨A,M⟩ b;exact⟨more A b,s _ _ _ M b⟩;intro W p A b;exact Z _ _ _ A b;rintro a x d q ⟨o,f⟩;show Code.wpIn eD m zZq _ _ a x;refine mV (r:=bk) (aO ..) (ali g za) d g q λa W3 d q b=>?_
 show∃L,L<n/\_;exact⟨n-1,by omega,j+1,by omega,by omega,d,more o b,s _ _ _ f b⟩;intro a x d V;exact abX (R:=λe p=>(∃v,e=.returned v)/\((∃xs,xs=Lp N free N 0/\J xs p)\/∃pre,(∃i j,i<j/\j<N/\free i=bj/\free j=bj/\pre=Lp N free i j++[(i,j)])/\H pre p)) d λv=>⟨⟨v,rfl⟩,.inr ⟨_,⟨i,j,T,z,y.1,y.2,K⟩,V⟩⟩
 have K:Lp N free i (j+1)=Lp N free i j:=by rw[Hm,ape (by rintro⟨-,h⟩;exact y h),aqs]
 have X:(free i&&free j)=aj:=by cases A:free i<;>cases M:free j<;>simp_all
 refine mV (r:=bk) (aO ..) (anC g X C B) d g q λa x d q b=>?_
 replace o:=more o b;replace f:=s _ _ _ f b
 show Code.wpIn eD m zZq _ _ a x;refine mV (r:=bk) (aO ..) (ali g za) d g q λa W3 d q b=>?_
 show∃L,L<n/\_;exact⟨n-1,by omega,j+1,by omega,by omega,d,more o b,by rw[K];exact s _ _ _ f b⟩;refine mV (r:=bk) (aO ..) (alk g za) d g (I _ o) λa t d q b=>?_
 replace o:=more o b;replace f:=s _ _ _ f b
 rw[show j=N by omega,TS]at f;show Code.wpIn eD m zZq _ _ a t;refine mV (r:=bk) (aO ..) (anD g za) d g q λa x d q b=>?_
 show∃L,L<n0/\_;exact⟨n0-1,by omega,i+1,by omega,d,more o b,s _ _ _ f b⟩;refine mV (r:=bk) (aO ..) (alq g za) d g (I _ o) λa t d q b=>?_
 replace o:=more o b;replace f:=s _ _ _ f b
 show Code.wpIn eD m zZq _ _ a t;refine oM rfl (mV (r:=bk) (aO ..) (alo g) d g q λa x d q b=>?_)
 replace f:=s _ _ _ f b
 rw[show i=N by omega]at f;exact abX (R:=λe p=>(∃v,e=.returned v)/\((∃xs,xs=Lp N free N 0/\J xs p)\/∃pre,(∃i j,i<j/\j<N/\free i=bj/\free j=bj/\pre=Lp N free i j++[(i,j)])/\H pre p)) d λv=>⟨⟨v,rfl⟩,.inl ⟨_,rfl,f⟩⟩
abbrev Pr(N:aw)(free:aw->b5):={x:aw×aw//x.1<x.2/\x.2<N/\free x.1=bj/\free x.2=bj}
variable (a:aa G)
def WO{free:aw->b5}(A:N<100){t:b3}{w:bn}{m:aw}(d:b9 w (λ_=>False) t (.aJ [jO nm N bs rest]))(hw:G w)
  (I:∀i<N,xf G 297 [jO nm N bs rest,nat i] (bool (free i))):
  SeqStopsK eD m zZq 322 #[t] (λx:Pr N free=>NK x.1) (Kp w.heap.size) (λxs=>xs.map (·.1)=Lp N free N 0)
   (λpre=>∃i j,i<j/\j<N/\free i=bj/\free j=bj/\pre.map (·.1)=Lp N free i j++[(i,j)]) (N*N+1) w:=by
 intro l J L O g B k z H;refine(Se (nm:=nm) (bs:=bs) (rest:=rest) a A d hw I (λp W=>∃xs:ai (Pr N free),xs.map (·.1)=p/\J xs W) (λp W=>∃xs:ai (Pr N free),xs.map (·.1)=p/\L xs W) g
  (λpre W r ⟨xs,e,h⟩ f=>⟨xs,e,D6 B h f⟩) (λpre W r ⟨xs,e,h⟩ f=>⟨xs,e,D6 k h f⟩) ?_ ⟨[],rfl,H⟩).mono ?_
 rintro pre i j K u y f1 f2 ⟨xs,e,h⟩ hlen;obtain⟨fn,tmps,assign,b,o,n⟩:=z xs ⟨(i,j),u,y,f1,f2⟩ K h (by rw[<-e,apq]at hlen;exact hlen);refine⟨fn,tmps,assign,b,o,n.mono ?_⟩;rintro M r (⟨he,C,v⟩|⟨he,C⟩);exact y1 ⟨he,⟨_,by rw[aqp,e];rfl,C⟩,v⟩;exact y2 ⟨he,⟨_,by rw[aqp,e];rfl,C⟩⟩;rintro e r ⟨s,(⟨xs,rfl,c,q,h⟩|⟨pre,⟨i,j,o,n,F,E,rfl⟩,c,q,h⟩)⟩;exact⟨s,y1 ⟨c,q,h⟩⟩;exact⟨s,y2 ⟨c,⟨i,j,o,n,F,E,q⟩,h⟩⟩
end Gr
end Lw

namespace Lw
namespace Tw
open Go Go.RowKit Go.Proofs fb
variable {G:bn->Prop}
def Raw.amV(r:Raw):Prop:=gg r.n/\gg r.d
end Tw
namespace fb
open zY dH
def yx.nil(δ:aw):yx δ []:=⟨1,0,by omega,aqC za,apJ _,λj=>by simp only[List.getD_nil];exact .nil _ _⟩
variable {Z:aM} {b d:aw} {h:ai cl}
def yx.snoc(t:yx b Z)(i:Bt d h):yx (b+d) (Z++[h]):=by
 obtain⟨Δ,Β,m,δ,l,k⟩:=t;obtain⟨D,B,q,c,p,o⟩:=i;have q0:Δ*D<=2^b*2^d:=apR δ c;have g:Β*D<=2^b*2^d:=apR l c;have a:B*Δ<=2^d*2^b:=apR p δ;rw[apC (2^d)]at a;refine⟨Δ*D,2^b*2^d,aqm m q,by rw[ap7];exact q0,by rw[ap7];exact apc _,λj=>?_⟩;have e:(Z++[h]).getD j []=if j<y6 Z then y7 Z j []else if j=y6 Z then h else []:=by simp only[bP,rB];split;rfl;rename_i r;by_cases f:j=y6 Z;subst f;simp;rw[ape f,apL zT];rfl
 rw[e];split;exact((k j).scale D).mono g;split;have:=o.scale Δ;rw[apC D]at this;exact this.mono a;exact .nil _ _
end fb
namespace Tw
open Go Go.RowKit Go.Proofs fb
variable {G:bn->Prop}
variable {Z:aM} {b d:aw}
def Rc{u:aM}(h:yx b Z)(e:b=d)(a:Z=u):yx d u:=e▸a▸h
def ag5(h:y6 Z<=2)(b:∀d∈Z,y6 d<=2)(hs:∀d∈Z,yH 2 d):yx 512 Z:=by
 have one:∀d∈Z,Bt 256 d:=λd a=>(Bt.aba (hs d a)).mono (by have:=b d a;omega)
 match Z,h,one with
 |[],_,_=>exact yx.nil 512
 |[d],_,one=>exact Rc ((yx.nil 256).snoc (one d zb)) za rfl
 |[d,c],_,one=>exact Rc (((yx.nil 0).snoc (one d zb)).snoc (one c zb)) za rfl
 |_::_::_::_,h,_=>exact api h zb
end Tw
open Go Go.RowKit Go.Proofs
def Oz:b3->b3->b5
 |.int k a,.int l b=>decide (k=l)&&decide (a=b)
 |.bool a,.bool b=>decide (a=b)
 |.string a,.string b=>My a b
 |.nilIface,.nilIface=>bj
 |_,_=>aj
def Zp:∀{a b:b3},Oz a b=bj->a=b
 |.int k a,.int l b,h=>by simp only[Oz,zLq,cm]at h;rw[h.1,h.2]
 |.bool a,.bool b,h=>by simp only[Oz,cm]at h;rw[h]
 |.string a,.string b,h=>by simp only[Oz]at h;rw[HL h]
 |.nilIface,.nilIface,_=>rfl
def eqL(f:D->D->b5):ai D->ai D->b5
 |[],[]=>bj
 |a::l,b::m=>f a b&&eqL f l m
 |_,_=>aj
def zF{f:D->D->b5}(c:∀{a b},f a b=bj->a=b):∀{l m:ai D},eqL f l m=bj->l=m
 |[],[],_=>rfl
 |a::l,b::m,h=>by simp only[eqL,zLq]at h;rw[c h.1,zF c h.2]
def X4:aw->D->D->b5
 |0,_,_=>aj
 |n+1,yT a,yT b=>Oz a b
 |n+1,yI l f xs,yI m g c=>decide (l=m)&&decide (f=g)&&eqL (X4 n) xs c
 |n+1,y4 xs,y4 c=>eqL (X4 n) xs c
 |n+1,.aJ xs,.aJ c=>eqL (X4 n) xs c
 |n+1,.aP xs,.aP c=>eqL (X4 n) xs c
 |_,_,_=>aj
def vQ:∀(n:aw){a b:D},X4 n a b=bj->a=b
 |0,_,_,h=>by simp[X4]at h
 |n+1,a,b,h=>by cases a<;>cases b<;>simp only[X4,cy]at h;rw[Zp h];simp only[zLq,cm]at h;rw[h.1.1,h.1.2,zF (λc=>vQ n c) h.2];rw[zF (λc=>vQ n c) h];rw[zF (λc=>vQ n c) h];rw[zF (λc=>vQ n c) h]
namespace Tw
open fb
variable {G:bn->Prop}
def Vr:D->ai aw
 |yI _ _ xs=>xs.map λx=>match x with
  |yT (.int _ z)=>z.toNat
  |_=>0
 |_=>[]
def valOf:ai aw->aw
 |[]=>0
 |x::l=>x+4294967296*valOf l
def qOf(s n d:D):cl:=match s with
 |yT (.bool bj)=>mkRat (-(valOf (Vr n):cA)) (valOf (Vr d))
 |_=>mkRat (valOf (Vr n):cA) (valOf (Vr d))
def lOf:ai D->ai cl
 |s::n::d::r=>qOf s n d::lOf r
 |_=>[]
def Ti:D->cl
 |y4 [s,n,d]=>qOf s n d
 |_=>0
def J2:D->ai cl
 |yI _ _ c=>lOf c
 |_=>[]
def RB:D->aM
 |y4 [yI _ _ ns]=>ns.map J2
 |_=>[]
instance(k:aw)(q:cl):vp (gY k q):=by unfold gY;infer_instance
def okQ(d:D):b5:=X4 4 (F (Ti d)) d&&decide (gY 16 (Ti d))
def okT(d:D):b5:=X4 5 (aG (RB d)) d&&match RB d with
 |[]=>bj
 |[[q]]=>decide (gY 2 q)&&decide (0<=nV q)
 |_=>aj
def okN(t:aM)(d:D):b5:=X4 4 (au (J2 d)) d&&(decide (y6 (J2 d)<=1)||decide (y6 (J2 d)=2/\y6 t=1))&&(J2 d).all λq=>decide (gY 16 q)
variable {Z:aM} (a:aa G) {g:D} {k:aw} {m:c7}
def Iu(h:okQ g=bj):g=F (Ti g)/\gY 16 (Ti g):=by unfold okQ at h;simp only[zLq,cm]at h;exact⟨(vQ _ h.1).symm,h.2⟩
def Ss(h:okT g=bj):g=aG (RB g)/\y6 (RB g)<=1/\oY 512 (RB g):=by
 unfold okT at h;rw[zLq]at h;refine⟨(vQ _ h.1).symm,?_⟩;have a:=h.2;generalize RB g=t at a
 match t,a with
 |[],_=>exact⟨by simp,⟨.nil,yx.nil 512,by decide⟩⟩
 |[[q]],a=>
  simp only[zLq,cm]at a;refine⟨by simp,⟨⟨by simp,λj e=>?_,λk c=>?_⟩,ag5 zb zb (λd f d b=>?_),(show sb 512 1 512<=NB by decide+kernel)⟩⟩
  ·obtain rfl:j=0:=by simp at e;exact e
   rfl
  ·obtain rfl:k=0:=by simp at c;exact c
   exact a.2
  ·rw[apg]at f;subst f
   rw[apg]at b;subst b;exact a.1
def Su(h:okN Z g=bj):g=au (J2 g)/\aH 2048 Z (J2 g):=by
 unfold okN at h;simp only[zLq,hO,cm,gv]at h;obtain⟨⟨f,b⟩,e⟩:=h;refine⟨(vQ _ f).symm,⟨?_,(Bt.aba (k:=16) (λq c=>e q c)).mono (by obtain b|b:=b<;>omega)⟩⟩;generalize J2 g=l at b;obtain b|b:=b
 cases l with
 |nil=>exact .nil _
 |cons a m=>
  have:m=[]:=by cases m with
   |nil=>rfl
   |cons _ _=>simp at b
  subst this;exact y2 ⟨0,apJ _,rfl⟩
 exact y2 ⟨1,by omega,b.1⟩
def Li(h:k<=1):sb 512 k 2048<=NB/\2048+2048+1<=NB/\2048+2048+tb 512 k<=NB/\2048+ib 512 k 2048+tb 512 k<=NB/\sb 512 k (2048+2048+1)<=NB:=by
 have:k=0\/k=1:=za
 obtain rfl|rfl:=this<;>decide+kernel
def IU:16<=KB:=by rw[pn];omega
def tp(d:D):D:=.aP [d,xc]
def o3(f:c7)(t a b:D):bF D:=
 if f=316\/f=312\/f=317\/f=284\/f=52 then
  if okT t&&okN (RB t) a&&okN (RB t) b then
   if f=316 then a6 (tp (au (oX (J2 a) (J2 b))))
   else if f=312 then a6 (tp (au (g8 (J2 a) (J2 b))))
   else if f=317 then a6 (tp (au (mulL (RB t) (J2 a) (J2 b))))
   else if f=52 then a6 (tp (int (aL (RB t) (dV (J2 a) (gD (J2 b))))))
   else if f=284 then(if aL (RB t) (J2 b)=0 then bk else a6 (tp (au (x_ (RB t) (J2 a) (J2 b)))))
   else bk
  else bk
 else bk
def o2(f:c7)(a b:D):bF D:=
 if f=51\/f=23\/f=157\/f=65 then
  if okT a&&okN (RB a) b then
   if f=51 then a6 (tp (au (wH (J2 b))))
   else if f=23 then a6 (tp (int (aL (RB a) (J2 b))))
   else if f=65 then a6 (int (aL (RB a) (J2 b)))
   else if f=157 then a6 (bool bj)
   else bk
  else bk
 else if f=112\/f=70\/f=45\/f=320 then
  if okQ a&&okQ b then
   if f=112 then a6 (F (Ti a+Ti b))
   else if f=70 then a6 (F (Ti a-Ti b))
   else if f=45 then a6 (F (Ti a*Ti b))
   else if f=320 then(if Ti b=0 then bk else a6 (tp (F (Ti a/Ti b))))
   else bk
  else bk
 else bk
def o1(f:c7)(a:D):bF D:=
 if f=50 then(if okT a then a6 xc else bk)
 else if f=86 then(if okQ a then a6 (au (iq (Ti a)))else bk)
 else if f=43 then(if okQ a then a6 (int (nV (Ti a)))else bk)
 else if f=42 then(if okQ a then a6 (bool bj)else bk)
 else if f=28 then(match a with
  |yT (.int .i64 z)=>if -9223372036854775808<=z/\z<9223372036854775808 then a6 (F (z:cl))else bk
  |_=>bk)
 else bk
def alU{f b r:D}(h:o3 m g f b=a6 r):xf G m [g,f,b] r:=by unfold o3 at h;split at h;split at h;rename_i j;simp only[zLq]at j;obtain⟨s,n,t⟩:=Ss j.1.1;obtain⟨q,e⟩:=Su j.1.2;obtain⟨p,d⟩:=Su j.2;obtain⟨s1,s2,i,l,k⟩:=Li n;rw[s,q,p];split at h;rename_i c;subst c;cases h;exact Ea a t e d s2;split at h;rename_i c;subst c;cases h;exact Q5 a t e d s2;split at h;rename_i c;subst c;cases h;exact l6 a t e d i;split at h;rename_i c;subst c;cases h;exact D_ a t e d k;split at h;rename_i c;split at h;cases h;rename_i o;subst c;cases h;exact Rb a t e d o s1 l;cases h;cases h;cases h
def alV{b r:D}(h:o2 m g b=a6 r):xf G m [g,b] r:=by unfold o2 at h;split at h;split at h;rename_i e;simp only[zLq]at e;obtain⟨k,l,i⟩:=Ss e.1;obtain⟨j,d⟩:=Su e.2;obtain⟨s1,s2,p,o,n⟩:=Li l;rw[k,j];split at h;rename_i c;subst c;cases h;exact z6 a i d za;split at h;rename_i c;subst c;cases h;exact ph a i d s1;split at h;rename_i c;subst c;cases h;exact mI a i d s1;split at h;rename_i c;subst c;cases h;exact TK a i d za;cases h;cases h;split at h;split at h;rename_i e;simp only[zLq]at e;obtain⟨k,s1⟩:=Iu e.1;obtain⟨j,s2⟩:=Iu e.2;rw[k,j];split at h;rename_i c;subst c;cases h;exact xa a s1.uV s2.uV IU IU;split at h;rename_i c;subst c;cases h;exact Mh a s1.uV s2.uV IU IU;split at h;rename_i c;subst c;cases h;exact FC a s1.uV s2.uV IU IU;split at h;rename_i c;split at h;cases h;rename_i f;subst c;cases h;exact FD a s1.uV s2.uV IU IU f;cases h;cases h;cases h
def alW{r:D}(h:o1 m g=a6 r):xf G m [g] r:=by unfold o1 at h;split at h;rename_i b;subst b;split at h;rename_i c;obtain⟨d,k,e⟩:=Ss c;rw[d];cases h;exact uR a e.ok e.bt e.sz;cases h;split at h;rename_i b;subst b;split at h;rename_i c;obtain⟨d,s1⟩:=Iu c;rw[d];cases h;exact dL a (s1.mono IU);cases h;split at h;rename_i b;subst b;split at h;rename_i c;obtain⟨d,s1⟩:=Iu c;rw[d];cases h;exact uQ a s1.uV IU;cases h;split at h;rename_i b;subst b;split at h;rename_i c;obtain⟨d,s1⟩:=Iu c;rw[d];cases h;have j:=sk a (s1.mono IU).ok (apc _);rw[vd]at j;exact j;cases h;split at h;rename_i b;subst b;split at h;split at h;rename_i z i;cases h;exact dM a i.1 i.2;cases h;cases h;cases h
end Tw
structure Ent(P:cp)(G:bn->Prop)where
 f:c7
 args:ai D
 r:D
 ok:Spec P G f args r
def PJ{P:cp}{G:bn->Prop}:ai (Ent P G)->c7->ai D->bF D
 |[],_,_=>bk
 |e::l,f,args=>if e.f=f then(match eqL (X4 12) e.args args with
  |true=>a6 e.r
  |false=>PJ l f args)else PJ l f args
def IJ{P:cp}{G:bn->Prop}:∀(l:ai (Ent P G))(f:c7)(args:ai D)(r:D),PJ l f args=a6 r->Spec P G f args r
 |[],_,_,_,h=>by cases h
 |e::l,f,args,r,h=>by unfold PJ at h;split at h;rename_i b;split at h;rename_i c;cases h;have:=e.ok;rw[b,zF (λa=>vQ 12 a) c]at this;exact this;exact IJ l f args r h;exact IJ l f args r h
structure akX(P:cp)(G:bn->Prop)where
 f:c7
 args:ai D
 r:D
 ok:iS P G f args r
def PI{P:cp}{G:bn->Prop}:ai (akX P G)->c7->ai D->bF D
 |[],_,_=>bk
 |e::l,f,args=>if e.f=f then(match eqL (X4 12) e.args args with
  |true=>a6 e.r
  |false=>PI l f args)else PI l f args
def II{P:cp}{G:bn->Prop}:∀(l:ai (akX P G))(f:c7)(args:ai D)(r:D),PI l f args=a6 r->iS P G f args r
 |[],_,_,_,h=>by cases h
 |e::l,f,args,r,h=>by unfold PI at h;split at h;rename_i b;split at h;rename_i c;cases h;have:=e.ok;rw[b,zF (λa=>vQ 12 a) c]at this;exact this;exact II l f args r h;exact II l f args r h
structure YO(P:cp)(G:bn->Prop)where
 f:c7
 mx:aw
 args:ai D
 blks:ai (bF (ai D))
 d:D
 blks':ai (bF (ai D))
 ok:∀fn,P.funcs[f]? =a6 fn->kh P G fn mx args blks [] d blks' []
def PH{P:cp}{G:bn->Prop}:ai (YO P G)->c7->aw->ai D->ai (bF (ai D))->bF (D×ai (bF (ai D)))
 |[],_,_,_,_=>bk
 |e::l,f,mx,args,blks=>if e.f=f then(match hM mx e.mx&&eqL (X4 12) e.args args&&uK e.blks blks with
  |true=>a6 (e.d,e.blks')
  |false=>PH l f mx args blks)else PH l f mx args blks
def IH{P:cp}{G:bn->Prop}:∀(l:ai (YO P G))(f:c7)(mx:aw)(args:ai D)(blks:ai (bF (ai D)))(d:D)(blks':ai (bF (ai D)))(fn:kf),PH l f mx args blks=a6 (d,blks')->P.funcs[f]? =a6 fn->kh P G fn mx args blks [] d blks' []
 |[],_,_,_,_,_,_,_,h,_=>by cases h
 |e::l,f,mx,args,blks,d,blks',fn,h,a=>by unfold PH at h;split at h;rename_i g;split at h;rename_i b;simp only[dT]at b;cases h;have:=e.ok fn (by rw[g];exact a);rw[zF (λc=>vQ 12 c) b.1.2,se b.2]at this;exact this.mono (arE b.1.1);exact IH l f mx args blks d blks' fn h a;exact IH l f mx args blks d blks' fn h a
namespace Tw
variable {G:bn->Prop}
def base(f:c7):ai D->bF D
 |[a]=>o1 f a
 |[a,b]=>o2 f a b
 |[a,b,c]=>o3 f a b c
 |_=>bk
variable (a:aa G) {m:c7}
def agK:∀{args:ai D}{r:D},base m args=a6 r->xf G m args r
 |[_],_,h=>alW a h
 |[_,_],_,h=>alV a h
 |[_,_,_],_,h=>alU a h
 |[],_,h=>by cases h
 |_::_::_::_::_,_,h=>by cases h
def oV(i:aa G)(l:ai (Ent zZq G))(e:ai (akX zZq G):=[])(ro:c7->ai aw:=λ_=>[])(stop:c7->b5:=λ_=>aj)(li:ai (YO zZq G):=[]):sC zZq G where
 orc f args:=match PJ l f args with
  |some r=>a6 r
  |none=>match base f args with
   |some r=>LK 12 r a6
   |none=>bk
 ok f args r h:=by split at h;rename_i c a;cases h;exact IJ _ _ _ _ a;split at h;rename_i c a;rw[sK]at h;cases h;exact agK i a;cases h
 ro:=ro
 stop:=stop
 afD f args:=PI e f args
 okF f args r h:=II _ _ _ _ h
 afC f b args blks:=PH li f b args blks
 okI f fn b args blks d blks' h g:=IH _ _ _ _ _ _ _ _ h g
 fr:=bj
end Tw
def str(l:ai aw):D:=yT (.string ⟨(l.map UInt8.ofNat).toArray⟩)
def qd(s:b5)(n d:ai aw):D:=y4 [bool s,ak n,ak d]
variable {P:cp} {Good:bn->Prop}
def yW:D->b5
 |yT _=>bj
 |.any=>bj
 |yI _ _ xs=>xs.isEmpty
 |_=>aj
def EC{w w':bn}{X Y:aw->Prop}{v:b3}{d:D}(b:yW d=bj)(h:b9 w X v d):b9 w' Y v d:=by
 cases h with
 |any v=>exact .any v
 |lit v=>exact .lit v
 |row a len cap full us xs g hlen e j hm k=>
  have f:xs=[]:=by simpa [yW]using b
  subst f;have hu:us=[]:=u4.1 g;subst hu;exact .row a len cap full [] [] rfl hlen e j (λi h=>api h zb) (λi h=>api h zb)
 |_=>cases b
variable {g:D}
def WN(b:yW g=bj):g.ref=bk:=by cases g<;>first|rfl|cases b
def xW(blk:aw->bF (ai D))(bu:aw->b5):aw->D->b5
 |0,d=>match d.ref with
  |some b=>match blk b,bu b with
   |some cs,aj=>cs.all yW
   |_,_=>bj
  |none=>yW d
 |m+1,d=>match d.ref with
  |some b=>match blk b with
   |some cs=>match bu b with
    |false=>cs.all yW
    |true=>cs.all (xW blk bu m)
   |none=>bj
  |none=>yW d
def O7{β:aw->aw}{w:bn}{X Y:aw->Prop}{v:b3}{d:D}{b:aw}(h:aX β w X v d)(i:d.ref=a6 b):aX β w Y v d:=by
 cases h with
 |p j=>rw[fC j]at i;cases i
 |ptr b off=>exact .ptr b off
 |aY b off len cap g f=>exact .aY b off len cap g f
 |bG b n size cap e g f k=>exact .bG b n size cap e g f k
section
variable {c:Ctx} {n:aw} {s:as0} {a:Act} {w:bn} {β:aw->aw} {X:aw->Prop}
def LI(h:df c n s a w β X):∀(m:aw)(v:b3)(d:D),xW s.blk s.bu m d=bj->aX β w X v d->b9 w (λk=>k<c.w0.heap.size) v (D.lN s.blk s.bu m d):=by
 have flat:∀{v:b3}{d:D}{b:aw}{cs:ai D},d.ref=a6 b->s.blk b=a6 cs->cs.all yW=bj->aX β w X v d->b9 w (λk=>k<c.w0.heap.size) v (d.dD b cs):=λ{v d b cs} g j z l=>by
  obtain⟨G,_,r,e,B,_,q⟩:=h.blk b cs j;rw[apH]at z;have y:aR w (λk=>k<c.w0.heap.size) (r.toList.take (y6 cs)) cs:=⟨q.1,λi F t=>
   EC (w:=w) (X:=X) (z _ (apD t)) ((q.2 i F t).pure (WN (z _ (apD t))))⟩
  refine((mF B y (O7 l g)).pure (yL g)).mono λa u hu p=>⟨hu,λf=>p ⟨f,λe=>?_⟩⟩
  have A:a.block<c.w0.heap.size:=f;omega
 intro m;induction m with
 |zero=>
  intro v d f l;unfold xW at f;unfold D.lN;split;rename_i b g;rw[g]at f;split;rename_i cs j o;simp only[j,o]at f;exact flat g j f l;exact .any _;rename_i g;rw[g]at f;exact EC f (l.pure g)
 |succ m C=>
  intro v d f l;unfold xW at f;unfold D.lN;split;rename_i b g;rw[g]at f;split;rename_i cs j;split;rename_i o;simp only[j,o]at f;exact flat g j f l;rename_i o;simp only[j,o]at f;rw[apH]at f;obtain⟨G,_,r,e,B,_,q⟩:=h.blk b cs j;have y:aR w (λk=>k<c.w0.heap.size) (r.toList.take (cs.map (D.lN s.blk s.bu m)).length) (cs.map (D.lN s.blk s.bu m)):=by rw[apq];exact q.map λu x p E=>C u x (f x p) E
  refine((mF B y (O7 l g)).pure (yL g)).mono λa u hu p=>⟨hu,λf=>p ⟨f,λe=>?_⟩⟩
  have A:a.block<c.w0.heap.size:=f;omega;exact .any _;rename_i g;rw[g]at f;exact EC f (l.pure g)
def NA(blk:aw->bF (ai D))(bu:aw->b5):D->b5
 |y4 xs=>xs.all (xW blk bu 4)
 |.aP xs=>xs.all (xW blk bu 4)
 |d=>xW blk bu 4 d
def Jb(h:df c n s a w β X){v:b3}{d:D}(j:NA s.blk s.bu d=bj)(g:bU β w X v d):b9 w (λk=>k<c.w0.heap.size) v (d.rowOf s.blk s.bu):=by
 have many:∀{us:ai b3}{xs:ai D},xs.all (xW s.blk s.bu 4)=bj->LQ (aX β w X) us xs->aR w (λk=>k<c.w0.heap.size) us (xs.map (D.lN s.blk s.bu 4)):=λt f=>
  f.map λu x z y=>LI h 4 u x (apH.1 t x z) y
 cases g with
 |c g=>
  by_cases r:∃xs,d=.agg xs;obtain⟨xs,rfl⟩:=r;cases g with
  |p m=>cases m with
   |agg us _ f l=>
    have:=many (us:=us) (xs:=xs) j ⟨f,λi a b=>.p (l i a b)⟩;exact .agg us _ this.1 this.2
  by_cases q:∃xs,d=.aP xs;obtain⟨xs,rfl⟩:=q;cases g with
  |p m=>cases m with
   |aP us _ f l=>
    have:=many (us:=us) (xs:=xs) j ⟨f,λi a b=>.p (l i a b)⟩;exact .aP us _ this.1 this.2
  have e:d.rowOf s.blk s.bu=(D.lN s.blk s.bu 4 d).H8:=by cases d<;>first|rfl|exact api ⟨_,rfl⟩ r|exact api ⟨_,rfl⟩ q
  have o:xW s.blk s.bu 4 d=bj:=by cases d<;>first|exact j|exact api ⟨_,rfl⟩ r|exact api ⟨_,rfl⟩ q
  rw[e];exact wh (LI h 4 _ _ o g)
 |agg us xs f=>have:=many j f;exact .agg us _ this.1 this.2
 |aP us xs f=>have:=many j f;exact .aP us _ this.1 this.2
end
def RQ(P:cp){Good:bn->Prop}(ro:ai aw)(m:aw)(fn:kf)(args:ai D)(d:ai (Item P Good)):bF (D×ai (Item P Good)×ai (cY×cY)):=
 match fn.body with
 |some k=>if hM (y6 args) fn.ntmps then
   match mX P m ro 0 k (dA fn.ntmps args []) d with
   |some (y3,s,tr',eqs)|some (.ret,s,tr',eqs)=>match gw P s fn.results.toList with
    |some b=>if b.all (NA s.fs.blk s.fs.bu)then a6 (o9 (b.map (D.rowOf s.fs.blk s.fs.bu)),tr',eqs)else bk
    |none=>bk
   |_=>bk
  else bk
 |none=>bk
def iS.C9(O:aa Good){f:c7}{fn:kf}(U:P.funcs[f]? =a6 fn){ro:ai aw}{m:aw}{args:ai D}{r:D}(G H:ai (Item P Good)){eqs:ai (cY×cY)}(LF:jU eqs)
  (h:RQ P ro m fn args G=a6 (r,H,eqs)):iS P Good f args r:=by
 intro w x N B;unfold RQ at h;split at h
 ·rename_i k K
  split at h
  ·rename_i hle
   rw[aqB]at hle;have key:∀e s,mX P m ro 0 k (dA fn.ntmps args []) G=a6 (e,s,H,eqs)->(e=.normal\/e=.ret)->(∃l,gw P s fn.results.toList=a6 l/\l.all (NA s.fs.blk s.fs.bu)=bj/\o9 (l.map (D.rowOf s.fs.blk s.fs.bu))=r)->
     vx P f x.toArray w λe q=>∃v,e=.returned v/\b9 q (λk=>k<w.heap.size) v r/\Below w.heap.size w q/\Good q:=by
    intro e s y V Nr;obtain⟨l,C,g,rfl⟩:=Nr;have T:=iK O m ro 0 k _ G e s H _ y LF;have hlen:=o5 (blks:=[]) (ns:=[]) hle;refine(n2 (n:=0)).1 (oi U K trivial ?_);show Code.wpIn (Fw bk) 0 _ _ _ _ _
    let c:Ctx:=⟨P,Good,λ_=>False,w,[],0,bk,[],λ_=>bk,0,λ_=>bk,λ_=>False⟩
    have I:∀b,(dA fn.ntmps args []).fs.blk b=bk:=λb=>by simp[dA,St.fs]
    refine T.2 c _ _ w rfl rfl N (apc _) ⟨λ_=>0,λ_=>False,rfl,?_,λt=>?_,?_,λb cs j=>?_,λb cs j=>?_,λb b' j=>?_,λ_ h=>h,λ_ h=>h.elim,λ_ h=>h.elim,⟨Below.refl _ _,λk o K=>(by cases K),apJ _⟩,λp J=>?_,λp J=>?_,ou.none rfl rfl⟩ λQ q aF=>?_
    ·rw[hlen];have:=B.1;simp;omega
    ·exact qE (Q':=λv d=>bU (λ_=>0) w (λ_=>False) v d) B.1 hle (λi u E=>.c (.p (B.2 i u E))) (.c (.p (.lit _))) (.c (.p (.any _))) t
    ·refine qG λd W b j=>?_
     obtain⟨i,z,rfl⟩:=apF.1 W;rw[eV (B.2 i (by rw[B.1];exact z) z)]at j;cases j
    ·rw[I]at j;cases j
    ·rw[I]at j;cases j
    ·rw[I]at j;cases j
    ·cases J
    ·cases J
    ·obtain⟨β,X,A⟩:=aF
     obtain⟨F,u,E,Y,h4⟩:=kV (q:=c) A C;have Z:aR q (λk=>k<w.heap.size) F (l.map (D.rowOf s.fs.blk s.fs.bu)):=by
      refine⟨by simpa using E,λi z mw=>?_⟩
      rw[ap2];have R:i<l.length:=by rw[<-E];exact z
      exact Jb A (apH.1 g _ (apD R)) (Y i z R)
     have S:Q.defers=[]/\∃v,(results fn Q.tmps).run P q=.ok v q/\(∃M,og v=.returned M/\b9 q (λk=>k<w.heap.size) M (o9 (l.map (D.rowOf s.fs.blk s.fs.bu)))/\Below w.heap.size w q/\Good q):=
      ⟨A.defers,sY F,u,sY F,rfl,wu Z,A.below.uX,A.mz O N⟩
     obtain rfl|rfl:=V<;>exact S
   split at h
   ·rename_i s tr' L y
    split at h
    ·rename_i l C
     split at h
     ·rename_i g
      simp only[eE,gu]at h;obtain⟨u,rfl,rfl⟩:=h;exact key _ _ y (.inl rfl) ⟨l,C,g,u⟩
     ·cases h
    ·cases h
   ·rename_i s tr' L y
    split at h
    ·rename_i l C
     split at h
     ·rename_i g
      simp only[eE,gu]at h;obtain⟨u,rfl,rfl⟩:=h;exact key _ _ y (.inr rfl) ⟨l,C,g,u⟩
     ·cases h
    ·cases h
   ·cases h
  ·cases h
 ·cases h
variable {A:kf} {l:ai D}
def iS.br(e:aa Good){f:c7}(d:P.funcs[f]? =a6 A){ro:ai aw}{m:aw}(b:ai (Item P Good))
  (h:RQ P ro m A l b=a6 (g,[],said b):=by kernel_rfl):iS P Good f l g:=iS.C9 e d b [] (oW b) h
variable {G:bn->Prop}
variable {C:Ctx} {K:St} {Q:iw} {c:Act} {m:c7} {n:as0} {q:Code}
def vW{n m gb:aw}{l:ai (aw×D)}{bl:ai (aw×ai D)}{ns:ai aw}{a:sx->Act->bn->Prop}{W:bn}(g:y6 K.tmps=n)(u:af P G gb q K Q (lay n l bl ns))
  (w:C.P=P) (y:C.Good=G) (x:C.Good C.w0) (f:C.gb<=gb) (r:Rel C n K.fs c W) (v:∀b d,Rel C n (lay n l bl ns).fs b d->a Q.BA b d):q.wpIn (Fw C.rd) m P a c W:=by
 obtain⟨s1,z,B,A,p,s,t⟩:=u;refine Ro (n:=0) rfl (p.2 C a c W w y x f (by rw[g];exact r) λb d o=>?_);rw[g]at o;have h:=o.mask f s;rw[t]at h;exact v b d h
def iY.pR{W d:bn}{row:bF aw}(b:W.grownBy d row)(f:∀r,row=a6 r->∃o:Obj,W.heap[r]? =a6 o/\o.isCells=aj):iY W d:=
 ⟨b.size,λk l e m a=>by rw[b.block k (aqi.1 a).1 (λh=>by obtain⟨o,c,g⟩:=f k h.symm;rw[a]at c;cases c;cases g)];exact a⟩
def Below.pR{B:aw}{W b:bn}{row:bF aw}(a:W.grownBy b row)(f:B<=W.heap.size)(c:∀r,row=a6 r->B<=r):Below B W b:=
 ⟨a.os,a.tape,a.output,a.size,λk d=>a.block k (apV d f) (λe=>by have:=c k e.symm;omega)⟩
def C0(W:bn)(l:aw)(a:Obj):W.grownBy (W.putObj l a) (a6 l):=grownBy_putObj' W l a
def df.F4{a:aw}{w w':bn}{β:aw->aw}{X:aw->Prop}(h:df C a n c w β X)(b:C.nc=λ_=>bk)(e:iY w w')(g:Below C.w0.heap.size w w')(f:∀k,C.kp k=bk:=by intro k;rfl):df C a n c w' β X:=
 h.kC e ⟨h.below.uX.trans g,λk o d=>(by rw[b]at d;cases d),apm h.below.sz e.size⟩ f
def Ar{n:aw}{l:ai (aw×D)}{bl:ai (aw×ai D)}{ns:ai aw}{Q:aw->D->Prop}(a:∀t,Q t .any)(d:∀p∈l,Q p.1 p.2):∀t,Q t ((lay n l bl ns).fs.tmp t):=by
 intro t;rw[ct];split
 ·cases b:l.find? λp=>p.1==t with
  |none=>exact a t
  |some p=>
   have c:p.1=t:=by have:=aro b;simpa using this
   have:=d p (aqA b);rw[c]at this;exact this
 ·exact a t
def Rel.Iv{r:bF aw}{n:aw}{l:ai (aw×D)}{w:bn}(hs:c.tmps.size=n)(g:c.defers=[])(h:∀p∈l,b9 w (λ_=>False) (c.tmps.getD p.1 fg) p.2):Rel (cx P G r w) n (lay n l []).fs c w:=
 ⟨λ_=>0,λ_=>False,g,hs,Ar (Q:=λt d=>bU (λ_=>0) w (λ_=>False) (c.tmps.getD t fg) d) (λt=>.c (.p (.any _))) (λp e=>.c (.p (h p e))),
  λt=>Ar (Q:=λt d=>∀b∈d.refs,((lay n l []).fs.blk b).isSome=bj) (λt b a=>by simp[D.refs]at a) (λp e b a=>by rw[eV (h p e)]at a;cases a) t,
  (λb cs a=>by rw[pW]at a;cases a),(λb cs a=>by rw[pW]at a;cases a),(λb m a=>by rw[pW]at a;cases a),λk f=>f.elim,λk f=>f.elim,λk f=>f.elim,
  ⟨Below.refl _ _,λ_ _ f=>(by cases f),apJ _⟩,(λp e=>by cases e),(λp e=>by cases e),ou.none rfl rfl⟩
def cq(P:cp)(G:bn->Prop)(w:bn)(c:ai (b3×D))(gb:aw)(rd:bF aw)(a:ai Deferred)(b:aw->bF Obj)(ns:aw):Ctx:=⟨P,G,λ_=>False,w,c,gb,rd,a,b,ns,λ_=>bk,λ_=>False⟩
def agf{β:aw->aw}{w:bn}{X:aw->Prop}{v:b3}{d:D}(h:bU β w X v (.fn m [] [d])):∃u,v=.func (.func m) #[] #[u]/\b9 w X u d:=by
 cases h with
 |c h=>cases h with
  |p h=>cases h with
   |fn m us e xs l b g k a=>
    have:us=[]:=u4.1 b;subst this
    match e,g,a with
    |[u],_,a=>exact⟨u,rfl,a 0 zb zb⟩
def aau{β:aw->aw}{w:bn}{X:aw->Prop}{v:b3}{b off:aw}(h:bU β w X v (y0 b off)):v=.pointer (a6 ⟨β b,off,bk⟩):=by
 cases h with
 |c h=>cases h with
  |p h=>cases h
  |ptr=>rfl
namespace Gr
variable {nm:D} {N:aw} {bs rest:ai D} {an:aw->cA} {jn:aw->aw->cA}
def zG:ai D:=[nat 0,yI 0 aj [],yI 0 aj [],nat 0]
def pr0(fin:D):ai (aw×D):=[(1,.aJ [fin]),(2,y0 0 0),(3,y0 1 0)]
def pr1(fin:D):ai (aw×D):=[(1,.aJ [fin]),(2,y0 0 0),(3,y0 1 0),(10,.fn 322 [] [.aJ [fin]])]
def WJ:ai (aw×ai D):=[(0,zG),(1,[bool aj])]
def anO(a:aa G):xo G (kL (aN f239)) (dA 42 [jO nm N bs rest] []) y3 (lay 42 (pr0 (jO nm N bs rest)) WJ):=
 af.br a (ro:=[1]) (m:=60) rfl []
def anN(a:aa G):af zZq G 0 (kL (kL (kR (aN f239)))) (lay 42 (pr0 (jO nm N bs rest)) WJ) .normal (lay 42 (pr1 (jO nm N bs rest)) WJ):=
 af.r a [.inl [1] func294]
def prS(i j:aw)(c b a:b3):ai (aw×D):=[(1,yT c),(2,yT b),(3,yT a),(11,nat i),(12,nat j)]
def prT(i:aw)(c b a:b3):ai (aw×D):=[(1,yT c),(2,yT b),(3,yT a),(4,nat i),(5,y0 0 0)]
def prA(i j:aw)(fin:D):ai (aw×D):=[(1,.aJ [fin]),(2,y0 0 0),(3,y0 1 0),(4,nat i),(5,.aJ [nat j])]
def prH(i j:aw)(a b c:cA):ai (aw×ai D):=[(0,[nat 1,.aY 2 0 2 2,.aY 3 0 3 3,nat 0]),(1,[bool bj]),(2,[nat i,nat j]),(3,[int a,int b,int c])]
def alJ:kR (aN f239)=.seq (.seq (kL (kL (kR (aN f239)))) (.block 0 (.rangeFunc (.tmp 10) #[11,12] (kL (kL (kR (kL (kR (aN f239)))))) (kR (kL (kR (kL (kR (aN f239))))))))) (kR (kR (aN f239))):=zk
def alN(K:Code):Code:=kL (kL (kR (kL (kR K))))
def aiQ(K:Code):Code:=kR (kL (kR (kL (kR K))))
def alM(d:aa G){i j:aw}{c b a:b3}:xo G (alN (aN f239)) (lay 42 (prS i j c b a) []) y3 (lay 42 (prT i c b a) [(0,[nat j])]):=
 af.r d []
def prX(i j:aw)(fin:D):ai (aw×D):=[(1,.aJ [fin]),(4,nat i),(5,.aJ [nat j])]
def Ot(an:aw->cA)(jn:aw->aw->cA)(x:aw×aw):b5:=decide (an x.1>=0)&&decide (an x.2>=0)&&decide (jn x.1 x.2>=0)
section
variable {P:cp} {G:bn->Prop} {nm:D} {N:aw} {bs rest:ai D} {an:aw->cA} {jn:aw->aw->cA} {i j:aw} (ci:Spec zZq G 293 [jO nm N bs rest,nat 0,nat i] (int (an i))) (cj:Spec zZq G 293 [jO nm N bs rest,nat 0,nat j] (int (an j))) (cc:Spec zZq G 295 [jO nm N bs rest,nat 0,nat i,.fn 296 [] [.aJ [nat j]]] (int (jn i j)))
include ci cj cc
def alL(b:aa G)(h:Ot an jn (i,j)=aj):xo G (aiQ (aN f239)) (lay 42 (prX i j (jO nm N bs rest)) []) y3 (lay 42 [] []):=by
 cases a:decide (an i>=0)with
 |false=>exact af.r b [z3 ci,z3 cj,z3 cc,.eb 24 a]
 |true=>
  cases c:decide (an j>=0)with
  |false=>exact af.r b [z3 ci,z3 cj,z3 cc,.eb 24 a,.eb 27 c]
  |true=>
   cases d:decide (jn i j>=0)with
   |false=>exact af.r b [z3 ci,z3 cj,z3 cc,.eb 24 a,.eb 27 c,.eb 31 d]
   |true=>exfalso;unfold Ot at h;simp only[a,c,d]at h;cases h
def aiM(a:aa G)(h:Ot an jn (i,j)=bj):af zZq G 2 (aiQ (aN f239)) (lay 42 (prA i j (jO nm N bs rest)) WJ) .ret
  (lay 42 [] (prH i j (an i) (an j) (jn i j)) [0]):=by
 unfold Ot at h;rw[dT,dT]at h;exact af.br a (ro:=[35,39]) (m:=60) (aO ..) [z3 ci,z3 cj,z3 cc,.eb 24 h.1.1,.eb 27 h.1.2,.eb 31 h.2]
end
def Sb(a:aa G):xo G (kR (kR (aN f239))) (lay 42 (pr1 (jO nm N bs rest)) WJ) .ret (lay 42 [(2,y0 0 0),(3,y0 1 0)] WJ):=
 af.r a []
end Gr
end Lw
namespace Lw
open Go Go.RowKit Go.Proofs
variable {C:Ctx} {c:Act} {i:b3} {n:as0}
def df.BB{a:aw}{w:bn}{β:aw->aw}{X:aw->Prop}(h:df C a n c w β X){t:aw}(e:n.tmp t=yT i):c.tmps.getD t fg=i:=by have b:=h.tmp t;rw[e]at b;exact tX (b.pure rfl) (v:=i) rfl
namespace Gr
variable {G:bn->Prop} {nm:D} {N:aw} {bs rest:ai D} {an:aw->cA} {jn:aw->aw->cA}
def mk(D:aw):Deferred:={target:=.collected D,args:= #[]}
def ahN:D:=.aP [y4 [nat 0,yI 0 aj [],yI 0 aj [],nat 0],bool aj]
def zq(an:aw->cA)(jn:aw->aw->cA)(i j:aw):D:=.aP [y4 [nat 1,yI 2 aj [nat i,nat j],yI 3 aj [int (an i),int (an j),int (jn i j)],nat 0],bool bj]
variable (a:aa G)
def Pb{w W:bn}{tmps:eY b3}{β:aw->aw}{X:aw->Prop}{t:aw}{bl:ai (aw×ai D)}{ns:ai aw}{ds:ai D}{r:D}{m:aw}(hw:G w)
  (h:df (cq zZq G w [] 0 bk [mk t] (λ_=>bk) 0) 42 (lay 42 [(2,y0 0 0),(3,y0 1 0)] bl ns).fs ⟨tmps,[mk t]⟩ W β X) (l:W.heap[t]? =a6 (.deferred (a6 []))) (f:w.heap.size<=t)
  (z:gw zZq (lay 42 [(2,y0 0 0),(3,y0 1 0)] bl ns) (f239).results.toList=a6 ds)
  (d:ds.all (NA (lay 42 [(2,y0 0 0),(3,y0 1 0)] bl ns).fs.blk (lay 42 [(2,y0 0 0),(3,y0 1 0)] bl ns).fs.bu)=bj)
  (p:o9 (ds.map (D.rowOf (lay 42 [(2,y0 0 0),(3,y0 1 0)] bl ns).fs.blk (lay 42 [(2,y0 0 0),(3,y0 1 0)] bl ns).fs.bu))=r):
  LeavesInM eD m zZq f239 tmps (λe w'=>∃v,e=.returned v/\b9 w' (λk=>k<w.heap.size) v r/\Below w.heap.size w w'/\G w') [mk t] .returning W:=by
 refine⟨zb,y1 ⟨t,W.putObj t (.deferred bk),rfl,run_takeDeferred l,?_⟩⟩
 have j:=C0 W t (.deferred bk);have q:iY W (W.putObj t (.deferred bk)):=iY.pR j (λr e=>by cases e;exact⟨_,l,rfl⟩)
 have s:Below w.heap.size W (W.putObj t (.deferred bk)):=Below.pR j h.below.uX.size (λr e=>by cases e;exact f)
 have b:=h.F4 rfl q s;obtain⟨c,x,n,u,B⟩:=kV b z;have y:aR (W.putObj t (.deferred bk)) (λk=>k<w.heap.size) c (ds.map (D.rowOf (lay 42 [(2,y0 0 0),(3,y0 1 0)] bl ns).fs.blk (lay 42 [(2,y0 0 0),(3,y0 1 0)] bl ns).fs.bu)):=by
  refine⟨by simpa using n,λi g A=>?_⟩
  rw[ap2];have o:i<y6 ds:=by rw[<-n];exact g
  exact Jb b (apH.1 d _ (apD o)) (u i g o)
 refine⟨sY c,x,sY c,rfl,?_,b.below.uX,a _ _ b.below.uX hw⟩;have:=wu y
 rwa [p]at this
def Left(G:bn->Prop)(w:bn)(e d:b3)(i j:aw)(a b c:cA)(W:bn):Prop:=
 ∃β X,df (cq zZq G w [(e,y0 0 0),(d,y0 1 0)] 2 bk [] (λ_=>bk) 0) 0 ⟨λ_=>.any,(lay 42 [] (prH i j a b c) [0]).fs.blk,(lay 42 [] (prH i j a b c) [0]).fs.bu⟩ ⟨#[],[]⟩ W β X
def Left.kC{w W d:bn}{e:b3}{f j:aw}{a b c:cA}(h:Left G w i e f j a b c W)(g:iY W d)(k:Below w.heap.size W d):Left G w i e f j a b c d:=by obtain⟨β,X,h⟩:=h;exact⟨β,X,h.F4 rfl g k⟩
def Set(B:aw)(e d c:b3)(i j:aw)(a:Act)(W:bn):Prop:=
 a.tmps.size=42/\a.defers=[]/\a.tmps.getD 1 fg=e/\a.tmps.getD 2 fg=d/\a.tmps.getD 3 fg=c/\a.tmps.getD 4 fg=.int .i64 (zNq i)/\
  ∃b,B<=b/\a.tmps.getD 5 fg=.pointer (a6 ⟨b,0,bk⟩)/\W.cell? ⟨b,0,bk⟩=a6 (.int .i64 (zNq j))
def Set.kC{B:aw}{d e:b3}{a j:aw}{W f:bn}(h:Set B i d e a j c W)(g:iY W f):Set B i d e a j c f:=by obtain⟨s,r,q,p,o,n,b,m,l,k⟩:=h;exact⟨s,r,q,p,o,n,b,m,l,g.cell k⟩
def Set.box{B:aw}{f e d:b3}{i j:aw}{a:Act}{W:bn}(h:Set B f e d i j a W){X:aw->Prop}(l:∀k,X k->k<B):b9 W X (a.tmps.getD 5 fg) (.aJ [nat j]):=by
 obtain⟨u,t,s,r,q,p,b,o,n,m⟩:=h;rw[n];refine .aJ ⟨b,0,bk⟩ [.int .i64 (zNq j)] [nat j] rfl (λk c=>?_) (λk c v=>?_);obtain rfl:k=0:=by simpa using c
 exact⟨λg=>by have:=l _ g;simp only at this;omega,by rw[Addr.jM];exact m⟩;obtain rfl:k=0:=by simpa using c
 exact .lit _
def aiO:(aN f239)=.seq (kL (aN f239)) (kR (aN f239)):=zk
def yp{B:aw}{W c:bn}(b:Below W.heap.size W c):KeepsFrom B W c:=⟨b.size,λk o _ a _=>by rw[b.block k (aqi.1 a).1];exact a⟩
def BR{free:aw->b5}(P:aa G)(hN:N<100)(cf:∀i<N,Spec zZq G 297 [jO nm N bs rest,nat i] (bool (free i)))
  (ca:∀i<N,free i=bj->Spec zZq G 293 [jO nm N bs rest,nat 0,nat i] (int (an i)))
  (cj:∀i j,i<j->j<N->free i=bj->free j=bj->Spec zZq G 295 [jO nm N bs rest,nat 0,nat i,.fn 296 [] [.aJ [nat j]]] (int (jn i j)))
  {res:D} (hd:(∀x∈Lp N free N 0,Ot an jn x=aj)->res=ahN)
  (hs:∀i j,i<j->j<N->free i=bj->free j=bj->Ot an jn (i,j)=bj->(∀x∈Lp N free i j,Ot an jn x=aj)->res=zq an jn i j):
  iS zZq G 239 [jO nm N bs rest] res:=by
 intro w vals V du;obtain⟨fv,rfl⟩:∃fv,vals=[fv]:=ap_.1 du.1;refine(n2 (n:=3)).1 (callsIn_of_wp_marks (fn:=f239) (c:=aN f239) zk zk trivial ?_)
 have P9:Rel (cx zZq G bk w) 42 (dA 42 [jO nm N bs rest] []).fs {tmps:=[fv].toArray++jj (42-[fv].toArray.size) fg,defers:=[]} w:=Rel.start zb du
 refine oM aiO (vW (C:=cx zZq G bk w) (o5 zb) (anO P) rfl rfl V (apc _) P9 λa1 W1 hr1=>?_)
 show Code.wpIn eD 3 zZq _ _ a1 W1;refine oM alJ (oM rfl (vW (C:=cx zZq G bk w) (aO ..) (anN P) rfl rfl V (apc _) hr1 λs B hrE=>?_))
 show Code.wpIn eD 3 zZq _ _ s B;refine uJ rfl ?_;obtain⟨β,X,hE⟩:=hrE;have hdf:s.defers=[]:=hE.defers;have F8:s.tmps.size=42:=hE.size;have bE:Below w.heap.size w B:=hE.below.uX;have gE:G B:=P _ _ bE V;obtain⟨p1,Xw⟩:∃p,p=s.tmps.getD 1 fg:=⟨_,rfl⟩;obtain⟨S,Z⟩:∃p,p=s.tmps.getD 2 fg:=⟨_,rfl⟩;obtain⟨R,Y⟩:∃p,p=s.tmps.getD 3 fg:=⟨_,rfl⟩;have t1:bU β B X p1 (.aJ [jO nm N bs rest]):=by have:=hE.tmp 1;rw[ct]at this;rw[Xw];exact this
 have t2:bU β B X S (.ptr 0 0):=by have:=hE.tmp 2;rw[ct]at this;rw[Z];exact this
 have t3:bU β B X R (.ptr 1 0):=by have:=hE.tmp 3;rw[ct]at this;rw[Y];exact this
 have t10:bU β B X (s.tmps.getD 10 fg) (.fn 322 [] [.aJ [jO nm N bs rest]]):=by have:=hE.tmp 10;rw[ct]at this;exact this
 obtain⟨cv,hev,aoh⟩:=agf t10;have hcv:b9 B (λ_=>False) cv (.aJ [jO nm N bs rest]):=aoh.mono λa u h _=>⟨h,λh=>h⟩
 have tE:b9 B X p1 (.aJ [jO nm N bs rest]):=t1.pure rfl;have own:∀W,iY B W->Below B.heap.size B W->df (cx zZq G bk w) 42 (lay 42 (pr1 (jO nm N bs rest)) WJ).fs s W β X:=λW C m=>hE.F4 rfl C (m.mono bE.size)
 have sh0:∀{W:bn},iY B W->Ft B W:=λC=>C.HT
 refine wpIn_rangeFunc_ownH (F:=eD) (n:=3) (α:=Pr N free) (encs:=λx=>NK x.1) (Kp:=Kp B.heap.size) rfl za (gf:=322) (lb:= #[cv]) hev trivial
  (enters_of func322 zk rfl) (WO (nm:=nm) (bs:=bs) (rest:=rest) P hN hcv gE cf) (λh k=>⟨h.1.trans k.1,h.2.trans k.2⟩)
  (λW l o o' hl ho hc hw=>⟨iY.pR (C0 W l o') (λr e=>by cases e;exact⟨o,ho,hc⟩),belowK_b (apc _) W l o o' hl ho hc hw⟩) (Below.refl _ _) (λx=>rfl)
  (λpre W=>(∀x∈pre,Ot an jn x.1=aj)/\Kp B.heap.size B W)
  (λc pre W=>c=.ret/\∃(y:Pr N free)(ys:ai (Pr N free)),pre=ys++[y]/\Ot an jn y.1=bj/\(∀x∈ys,Ot an jn x.1=aj)/\Left G w S R y.1.1 y.1.2 (an y.1.1) (an y.1.2) (jn y.1.1 y.1.2) W)
  ?_ ?_ ⟨λx E=>(by cases E),⟨⟨apc _,λ_ _ _ _ h=>h⟩,Below.refl _ _⟩⟩
  (λx U W=>Set B.heap.size p1 S R x.1.1 x.1.2 U W) ?_ ?_ ?_ ?_ ?_
 ·rintro pre W W' row ⟨h1,h2,h3⟩ hg hr
  exact⟨h1,h2.trans (iY.pR hg λr e=>(hr r e).2),h3.trans (Below.pR hg h3.size λr e=>(hr r e).1)⟩
 ·rintro c pre W W' row ⟨h1,y,ys,h2,h3,h4,h5⟩ hg hr
  have hb5:w.heap.size<=W.heap.size:=by obtain⟨_,_,h⟩:=h5;exact h.below.uX.size
  exact⟨h1,y,ys,h2,h3,h4,h5.kC (iY.pR hg λr e=>(hr r e).2) (Below.pR hg hb5 λr e=>apm bE.size (hr r e).1)⟩
 ·intro x U u W W' row h hg hr
  exact Set.kC h (iY.pR hg λr e=>(hr r e).2)
 ·rintro l pre ⟨⟨i,j⟩,pC,A,fi,fj⟩ W K ⟨M,H,O⟩ hK
  have ea:({tmps:=((#[11,12]:eY Tmp).zip (NK (i,j))).foldl (λt (p,v)=>t.setIfInBounds p v) s.tmps,defers:=[]}:Act)=(s.put (a6 11) (.int .i64 (zNq i))).put (a6 12) (.int .i64 (zNq j)):=by
   rw[<-hdf];simp[NK,Act.put]
  have gW:G W:=P _ _ (bE.trans (O.mono bE.size)) V;have qh:Rel (cx zZq G (a6 l) W) 42 (lay 42 (prS i j p1 S R) []).fs ((s.put (a6 11) (.int .i64 (zNq i))).put (a6 12) (.int .i64 (zNq j))) W:=by
   refine Rel.Iv (by simp[Act.put,F8]) (by simp[Act.put,hdf]) λp g=>?_
   simp only[prS,b4,bI,or_false]at g;obtain rfl|rfl|rfl|rfl|rfl:=g
   ·rw[kX za,kX za,Xw];exact .lit _
   ·rw[kX za,kX za,Z];exact .lit _
   ·rw[kX za,kX za,Y];exact .lit _
   ·rw[kX za,vG (by rw[F8];omega)];exact .lit _
   ·rw[vG (by simp[Act.put,F8])];exact .lit _
  show Code.wpIn (Fw (a6 l)) 1 zZq (alN (aN f239)) _ {tmps:=((#[11,12]:eY Tmp).zip (NK (i,j))).foldl (λt (p,v)=>t.setIfInBounds p v) s.tmps,defers:=[]} W
  rw[ea];refine vW (C:=cx zZq G (a6 l) W) (aO ..) (alM P) rfl rfl gW (apc _) qh λU W' tM=>?_
  show K U W';obtain⟨β',X',f⟩:=tM;have af6:∀t v,(lay 42 (prT i p1 S R) [(0,[nat j])]).fs.tmp t=.lit v->U.tmps.getD t fg=v:=λt v e=>f.BB e
  have m:Below W.heap.size W W':=f.below.uX;have hp5:=f.tmp 5;rw[ct]at hp5;have an7:=aau hp5;obtain⟨k1,k2,us,e,k3,k4,k5⟩:=f.blk 0 [nat j] (by rw[xQ];rfl)
  have hus:0<us.size:=k4;have od:W'.cell? ⟨β' 0,0,bk⟩=a6 (.int .i64 (zNq j)):=by
   have q:=k5.2 0 zT zb
   have q2:us[0]=.int .i64 (zNq j):=by
    have:=(q.pure rfl);have:=tX this (v:=.int .i64 (zNq j)) rfl;simpa using this
   rw[l0 W' (β' 0) 0 us e (0,0) k3,ap9 hus,q2]
  refine hK U W' (yp m) ⟨iY.yZ m,m.mono O.size⟩ ⟨M,H.trans (iY.yZ m),O.trans (m.mono O.size)⟩
   ⟨f.size,f.defers,af6 1 _ (by rw[ct];rfl),af6 2 _ (by rw[ct];rfl),af6 3 _ (by rw[ct];rfl),af6 4 _ (by rw[ct];rfl),β' 0,apm O.size k1,an7,od⟩
 ·rintro l pre ⟨⟨i,j⟩,pC,A,fi,fj⟩ U W hl apb ⟨M,H,O⟩ aj0 hlen
  have hiN:i<N:=Nat.lt_trans pC A;have gW:G W:=P _ _ (bE.trans (O.mono bE.size)) V;have hA:=aj0;obtain⟨q1,q2,q3,q4,q5,q6,-⟩:=hA;have r1:b9 W X p1 (.aJ [jO nm N bs rest]):=tE.mono λa u h E=>⟨H.cell h,E⟩
  show Code.wpIn (Fw (a6 l)) 1 zZq (aiQ (aN f239)) _ U W;cases hh:Ot an jn (i,j)with
  |false=>
   have qh:Rel (cx zZq G (a6 l) W) 42 (lay 42 (prX i j (jO nm N bs rest)) []).fs U W:=by
    refine Rel.Iv q1 q2 λp g=>?_
    simp only[prX,b4,bI,or_false]at g;obtain rfl|rfl|rfl:=g
    ·rw[q3];exact r1.mono λa u h _=>⟨h,λh=>h⟩
    ·rw[q6];exact .lit _
    ·exact aj0.box λk C=>C.elim
   refine vW (C:=cx zZq G (a6 l) W) (aO ..) (alL (ca i hiN fi) (ca j A fj) (cj i j pC A fi fj) P hh) rfl rfl gW (apc _) qh λa3 W3 T=>?_
   obtain⟨β',X',f⟩:=T;have m:Below W.heap.size W W3:=f.below.uX;refine⟨yp m,⟨iY.yZ m,m.mono O.size⟩,λx E=>?_,H.trans (iY.yZ m),O.trans (m.mono O.size)⟩
   obtain E|E:=aps.1 E
   ·exact M x E
   ·rw[apg]at E;rw[E];exact hh
  |true=>
   have z:=own W H O;have s2:bU β W X S (.ptr 0 0):=by have:=z.tmp 2;rw[ct]at this;rw[Z];exact this
   have s3:bU β W X R (.ptr 1 0):=by have:=z.tmp 3;rw[ct]at this;rw[Y];exact this
   have hXB:∀k,X k->k<B.heap.size:=hE.oH;have qh:df (cq zZq G w [(S,.ptr 0 0),(R,.ptr 1 0)] 2 (a6 l) [] (λk=>W.heap[k]?) W.heap.size) 42 (lay 42 (prA i j (jO nm N bs rest)) WJ).fs U W β X:=by
    have b0:((lay 42 (prA i j (jO nm N bs rest)) WJ).fs.blk 0).isSome=bj:=by rw[xQ];rfl
    have b1:((lay 42 (prA i j (jO nm N bs rest)) WJ).fs.blk 1).isSome=bj:=by rw[xQ];rfl
    refine⟨q2,q1,Ar (Q:=λt d=>bU β W X (U.tmps.getD t fg) d) (λt=>.c (.p (.any _))) (λp g=>?_),
     λt=>Ar (Q:=λt d=>∀b∈d.refs,((lay 42 (prA i j (jO nm N bs rest)) WJ).fs.blk b).isSome=bj) (λt b m=>by simp[D.refs]at m) (λp g b m=>?_) t,
     z.blk,z.qS,z.inj,z.F,z.uZ,z.oH,⟨z.below.uX,λk o C _=>C,apc _⟩,λp g=>?_,λp g b m=>?_,ou.none rfl rfl⟩
    ·simp only[prA,b4,bI,or_false]at g
     obtain rfl|rfl|rfl|rfl|rfl:=g
     ·rw[q3];exact .c (.p r1)
     ·rw[q4];exact s2
     ·rw[q5];exact s3
     ·rw[q6];exact .c (.p (.lit _))
     ·exact .c (.p (aj0.box hXB))
    ·simp only[prA,b4,bI,or_false]at g
     obtain rfl|rfl|rfl|rfl|rfl:=g<;>simp only[D.refs,nat,bI,dc]at m
     ·subst m;exact b0
     ·subst m;exact b1
    ·have qi:p∈[(S,D.ptr 0 0),(R,D.ptr 1 0)]:=g
     simp only[b4,bI,or_false]at qi;obtain rfl|rfl:=qi
     ·exact s2
     ·exact s3
    ·have qi:p∈[(S,D.ptr 0 0),(R,D.ptr 1 0)]:=g
     simp only[b4,bI,or_false]at qi;obtain rfl|rfl:=qi<;>simp only[D.refs,dc]at m<;>subst m
     ·exact⟨by show 0<2;omega,b0⟩
     ·exact⟨by show 1<2;omega,b1⟩
   refine vW (C:=cq zZq G w [(S,.ptr 0 0),(R,.ptr 1 0)] 2 (a6 l) [] (λk=>W.heap[k]?) W.heap.size) (aO ..) (aiM (ca i hiN fi) (ca j A fj) (cj i j pC A fi fj) P hh) rfl rfl V (apc _) ⟨β,X,qh⟩ λa3 W3 T=>?_
   obtain⟨β',X',f⟩:=T;refine⟨⟨f.below.sz,λk o _ C ho=>f.below.nc k o C (λus e fr e'=>by rw[e']at ho;cases ho)⟩,rfl,⟨(i,j),pC,A,fi,fj⟩,pre,rfl,hh,M,β',X',?_⟩
   exact⟨rfl,rfl,λt=>.c (.p (.any _)),λt b m=>(by simp[D.refs]at m),f.blk,f.qS,f.inj,f.F,f.uZ,f.oH,⟨f.below.uX,λ_ _ C=>(by cases C),apJ _⟩,f.gh,f.i_,ou.none rfl rfl⟩
 ·rintro L xs W hD hS ⟨M,H,O⟩ Ta
  have z:=own W H O;show Code.wpIn eD 3 zZq (kR (kR (aN f239))) _ {s with defers:=mk L::s.defers} W
  have qh:df (cq zZq G w [] 0 bk [mk L] (λk=>W.heap[k]?) 0) 42 (lay 42 (pr1 (jO nm N bs rest)) WJ).fs {s with defers:=mk L::s.defers} W β X:=
   ⟨by show mk L::s.defers=[mk L];rw[hdf],z.size,z.tmp,z.nd,z.blk,z.qS,z.inj,z.F,z.uZ,z.oH,⟨z.below.uX,λ_ _ C _=>C,apJ _⟩,(λp g=>by cases g),(λp g=>by cases g),ou.none rfl rfl⟩
  refine vW (C:=cq zZq G w [] 0 bk [mk L] (λk=>W.heap[k]?) 0) (aO ..) (Sb P) rfl rfl V (apc _) ⟨β,X,qh⟩ λa3 W3 T=>?_
  obtain⟨β',X',f⟩:=T;have aog:a3.defers=[mk L]:=f.defers;have Y0:∀x∈Lp N free N 0,Ot an jn x=aj:=λx E=>by
   rw[<-hS]at E;obtain⟨y,hy,rfl⟩:=apN.1 E;exact M y hy
  show LeavesInM eD 3 zZq f239 a3.tmps _ a3.defers .returning W3;rw[aog,hd Y0];have h3:df (cq zZq G w [] 0 bk [mk L] (λ_=>bk) 0) 42 (lay 42 [(2,.ptr 0 0),(3,.ptr 1 0)] WJ).fs ⟨a3.tmps,[mk L]⟩ W3 β' X':=
   ⟨rfl,f.size,f.tmp,f.nd,f.blk,f.qS,f.inj,f.F,f.uZ,f.oH,⟨f.below.uX,λ_ _ C=>(by cases C),apJ _⟩,(λp g=>by cases g),(λp g=>by cases g),ou.none rfl rfl⟩
  exact Pb P V h3 (f.below.nc L _ Ta (λus e fr h=>by cases h)) (apm bE.size hD) (ds:=[.agg zG,bool aj]) zk zk zk
 ·rintro L c pre W hD ⟨i,j,pC,A,fi,fj,Gz⟩ ⟨rfl,⟨⟨J,I⟩,hy⟩,ys,rfl,hh,Y0,βL,XL,hL⟩ Ta
  rw[aqp]at Gz;obtain⟨e1,e2⟩:=List.append_inj' Gz rfl;simp only[eZ,fB,en,gu,and_true]at e2;obtain⟨rfl,rfl⟩:=e2;have an_:∀x∈Lp N free J I,Ot an jn x=aj:=λx E=>by
   rw[<-e1]at E;obtain⟨y,hy,rfl⟩:=apN.1 E;exact Y0 y hy
  refine wpIn_ret ?_;show LeavesInM eD 3 zZq f239 s.tmps _ (mk L::s.defers) .returning W;rw[hdf,hs J I pC A fi fj hh an_];have b0:((lay 42 [(2,.ptr 0 0),(3,.ptr 1 0)] (prH J I (an J) (an I) (jn J I)) [0]).fs.blk 0).isSome=bj:=by rw[xQ];rfl
  have b1:((lay 42 [(2,.ptr 0 0),(3,.ptr 1 0)] (prH J I (an J) (an I) (jn J I)) [0]).fs.blk 1).isSome=bj:=by rw[xQ];rfl
  have h3:df (cq zZq G w [] 0 bk [mk L] (λ_=>bk) 0) 42 (lay 42 [(2,.ptr 0 0),(3,.ptr 1 0)] (prH J I (an J) (an I) (jn J I)) [0]).fs ⟨s.tmps,[mk L]⟩ W βL XL:=by
   refine⟨rfl,F8,Ar (Q:=λt d=>bU βL W XL (s.tmps.getD t fg) d) (λt=>.c (.p (.any _))) (λp g=>?_),
    λt=>Ar (Q:=λt d=>∀b∈d.refs,((lay 42 [(2,.ptr 0 0),(3,.ptr 1 0)] (prH J I (an J) (an I) (jn J I)) [0]).fs.blk b).isSome=bj) (λt b m=>by simp[D.refs]at m) (λp g b m=>?_) t,
    hL.blk,hL.qS,hL.inj,hL.F,hL.uZ,hL.oH,⟨hL.below.uX,λ_ _ C=>(by cases C),apJ _⟩,(λp g=>by cases g),(λp g=>by cases g),ou.none rfl rfl⟩
   ·simp only[b4,bI,or_false]at g
    obtain rfl|rfl:=g
    ·show bU βL W XL (s.tmps.getD 2 fg) (.ptr 0 0)
     rw[<-Z];exact hL.gh (S,.ptr 0 0) (apw ..)
    ·show bU βL W XL (s.tmps.getD 3 fg) (.ptr 1 0)
     rw[<-Y];exact hL.gh (R,.ptr 1 0) (apX _ (apw ..))
   ·simp only[b4,bI,or_false]at g
    obtain rfl|rfl:=g<;>simp only[D.refs,dc]at m<;>subst m
    ·exact b0
    ·exact b1
  exact Pb P V h3 Ta (apm bE.size hD) (ds:=[.agg [nat 1,.aY 2 0 2 2,.aY 3 0 3 3,nat 0],bool bj]) zk zk zk
end Gr
namespace Tw
open fb
variable {G:bn->Prop}
structure g7(l:Lk):Prop where
 b0:0<l.bs.length
 nb:l.bs.length<100
 nj:l.js.length<=1000000
 nd:l.ds.length<=1000000
 kind:∀j∈l.js,j.kind=0\/j.kind=1
 a:∀j∈l.js,j.a<l.bs.length
 b:∀j∈l.js,j.b<l.bs.length
 ab:∀j∈l.js,j.a≠j.b
 p:∀j∈l.js,j.p<(l.bs.getD j.a bc).aC.length
 on:∀j∈l.js,j.on<(l.bs.getD j.b bc).aC.length
 to:∀j∈l.js,j.kind=1->j.to<(l.bs.getD j.b bc).aC.length
 ne:∀j∈l.js,j.kind=1->(dQ l j.b j.on).x≠(dQ l j.b j.to).x\/(dQ l j.b j.on).y≠(dQ l j.b j.to).y
 body:∀d∈l.ds,d.body<l.bs.length
 amZ:∀d∈l.ds,d.body≠0
variable {L:aw->b5} {b d:aw} {e:Lk} {f:Fn} {s:Type}
def g7.Si(h:g7 e){j:Jt}(c:j∈e.js)(a:ud j b=a6 d):d<y6 e.bs:=by unfold ud at a;split at a;cases a;exact h.b j c;split at a;cases a;exact h.a j c;cases a
def fk(p:s->b5)(l:ai s):EU p l= -1\/∃n,n<y6 l/\EU p l=zNq n:=by unfold EU;split;rename_i h;exact y2 ⟨_,h,rfl⟩;exact y1 rfl
def kH(l:Lk)(s:Fn)(d:Dr):b5:= !s.known.getD d.body aj&&decide (B0 l s 0 d.body .known>=0)
def pY(l:Lk)(s:Fn):bF Gp:=
 if l.ds.findIdx (kH l s)<y6 l.ds then
  a6 ⟨0,[(y7 l.ds (l.ds.findIdx (kH l s)) bc).body],[(B0 l s 0 (y7 l.ds (l.ds.findIdx (kH l s)) bc).body .known).toNat],l.ds.findIdx (kH l s)⟩
 else bk
def Da:ai D:=[nat 0,yI 0 aj [],yI 0 aj [],nat 0]
def MV:bF Gp->D
 |some g=>.aP [y4 (kg g),bool bj]
 |none=>.aP [y4 Da,bool aj]
structure qt(l:Lk)(s:Fn):Prop where
 k:s.known.length=l.bs.length
 d:s.nR.length=l.bs.length
 u:s.used.length=l.js.length
def lS{p:s->b5}{l:ai s}(d:s)(h:l.findIdx p<y6 l):p (y7 l (l.findIdx p) d)=bj:=by have:=List.findIdx_getElem (w:=h);rw[apf,apj h];simpa using this
def qX{p:s->b5}{l:ai s}(d:s)(a:b<l.findIdx p):b<y6 l/\p (y7 l b d)=aj:=by have α:b<y6 l:=apV a aqu;refine⟨α,?_⟩;have:=v3 a;rw[apf,apj α];simpa using this
def drL(l:Lk)(s:Fn)(i:aw):St:=lay 41 [(0,vO l s),(2,y0 0 0),(11,aQ Ky l.ds),(12,nat (y6 l.ds)),(13,nat i)] [(0,Da)] [0]
def Qy(k:aa G)(v:g7 e)(hs:qt e f):iS zZq G 238 [vO e f] (MV (pY e f)):=by
 have ca:∀a,xf G 293 [vO e f,nat 0,nat a] (int (B0 e f 0 a .known)):=λa=>Ch k e f 0 a v.nj λj C o y=>by rw[hs.k];exact v.Si C y
 have q:∀i<y6 e.ds,(y7 e.ds i bc).body<y6 f.known:=λi x=>by rw[hs.k];exact v.body _ (aA x _)
 have D:=v.nd;have rd:∀i,i<e.ds.findIdx (kH e f)->xo G (ae f238 0) (drL e f i) y3 (drL e f (i+1)):=λi x=>by
  obtain⟨b,d⟩:=qX bc x;have l:=fO gd b bc;have u:=gN (q i b);have t:=gO (q i b);have r:=jd (q i b);have c:=ca (y7 e.ds i bc).body;rw[kH]at d;generalize y7 f.known (y7 e.ds i bc).body aj=z at r d;cases z with
  |true=>exact af.r k [.eb 14 (ah b),yu (ay gd za b),yu (aq gd za b),.eq 17 l,.er 23 (nat (y7 e.ds i bc).body),yu u,yu t,.eq 25 r,.eq 39 (bL (ax b za))]
  |false=>
   obtain g|⟨n,-,g⟩:=fk (uW 0 (y7 e.ds i bc).body (uY f .known)) e.js
   ·have s:B0 e f 0 (y7 e.ds i bc).body .known= -1:=g
    rw[s]at c;exact af.r k [.eb 14 (ah b),yu (ay gd za b),yu (aq gd za b),.eq 17 l,.er 23 (nat (y7 e.ds i bc).body),yu u,yu t,.eq 25 r,z3 c,.eq 39 (bL (ax b za))]
   ·have s:B0 e f 0 (y7 e.ds i bc).body .known=zNq n:=g
    rw[s]at d;simp at d
 unfold pY;split
 ·rename_i h
  have d:=lS (p:=kH e f) bc h;have l:=fO gd h bc;have u:=gN (q _ h);have t:=gO (q _ h);have r:=jd (q _ h);have c:=ca (y7 e.ds (e.ds.findIdx (kH e f)) bc).body;obtain g|⟨n,-,g⟩:=fk (uW 0 (y7 e.ds (e.ds.findIdx (kH e f)) bc).body (uY f .known)) e.js
  ·have s:B0 e f 0 (y7 e.ds (e.ds.findIdx (kH e f)) bc).body .known= -1:=g
   rw[kH,s,zLq]at d;exact api d.2 zv
  ·have s:B0 e f 0 (y7 e.ds (e.ds.findIdx (kH e f)) bc).body .known=zNq n:=g
   have B:y7 f.known (y7 e.ds (e.ds.findIdx (kH e f)) bc).body aj=aj:=by
    rw[kH]at d;simpa using(Bool.and_eq_true_iff.1 d).1
   rw[B]at r;rw[s]at c⊢;have w:=aI.z zZq G (ae f238 0) .ret (lay 41 [(2,y0 0 0),(3,bool bj)] [(0,[nat 0,.aY 2 0 1 1,.aY 3 0 1 1,nat (e.ds.findIdx (kH e f))]),(2,[nat (y7 e.ds (e.ds.findIdx (kH e f)) bc).body]),(3,[nat n])] [0]) (λi=>drL e f i) _ rd
    (af.br k (ro:=[34,36]) (m:=60) (aB ..) [.eb 14 (ah h),yu (ay gd za h),yu (aq gd za h),.eq 17 l,.er 23 (nat (y7 e.ds (e.ds.findIdx (kH e f)) bc).body),yu u,yu t,.eq 25 r,z3 c,.eb 31 (mP n)])
   exact iS.br k func238 (ro:=[]) (m:=60) [.code w]
 ·rename_i h
  have A:e.ds.findIdx (kH e f)=y6 e.ds:=arp aqu za
  rw[A]at rd;have w:=aI.z zZq G (ae f238 0) (y5 0) (lay 41 [(2,y0 0 0)] [(0,Da)] [0]) (λi=>drL e f i) _ rd
   (af.r k [.eb 14 (av (apc (y6 e.ds)))])
  exact iS.br k func238 (ro:=[]) (m:=60) [.code w]
def yo(l:Lk)(s:Fn)(i:aw):b5:=r6 s i&&(decide (B0 l s 0 i .known>=0)&&decide (B0 l s 1 i .known>=0))
def CN(l:Lk)(s:Fn):aw:=(ch (y6 l.bs)).findIdx (yo l s)
def eO(l:Lk)(i a:aw):aw:=if(y7 l.js a bc).a=i then 2 else 3
def oz(l:Lk)(s:Fn):bF Gp:=
 if CN l s<y6 l.bs then
  a6 ⟨eO l (CN l s) (B0 l s 1 (CN l s) .known).toNat,[CN l s],[(B0 l s 0 (CN l s) .known).toNat,(B0 l s 1 (CN l s) .known).toNat],0⟩
 else bk
def sgL(l:Lk)(s:Fn)(i:aw):St:=lay 53 [(0,vO l s),(2,y0 0 0),(13,nat (y6 l.bs)),(14,nat i)] [(0,Da)] [0]
def bT(n:aw):decide (zNq n<0)=aj:=zb
def mL(h:d<b):(ch b).getD d 0=d:=by simp[bP,h]
def OO(b:aa G)(y:g7 e)(hs:qt e f):iS zZq G 240 [vO e f] (MV (oz e f)):=by
 have ca:∀k a,xf G 293 [vO e f,nat k,nat a] (int (B0 e f k a .known)):=λk a=>Ch b e f k a y.nj λj J o I=>by rw[hs.k];exact y.Si J I
 have H:∀i<y6 e.bs,xf G 297 [vO e f,nat i] (bool (r6 f i)):=λi w=>acx b e f (by rw[hs.k];exact w) (by rw[hs.d];exact w)
 have M:=y.nb;have B:y6 (ch (y6 e.bs))=y6 e.bs:=aqL;have rd:∀i<CN e f,xo G (ae f240 0) (sgL e f i) y3 (sgL e f (i+1)):=λi w=>by
  obtain⟨s,d⟩:=qX 0 (p:=yo e f) w;rw[B]at s;rw[mL s]at d;have c:=H i s;have c0:=ca 0 i;have t:=ca 1 i;rw[yo]at d;generalize r6 f i=z at c d;cases z with
  |false=>exact af.r b [.eb 15 (ah s),z3 c,.eq 51 (bL (ax s za))]
  |true=>
   rw[asK]at d;obtain q|⟨n,-,q⟩:=fk (uW 0 i (uY f .known)) e.js
   ·have g:B0 e f 0 i .known= -1:=q
    rw[g]at c0;exact af.r b [.eb 15 (ah s),z3 c,z3 c0,z3 t,.eq 51 (bL (ax s za))]
   ·have g:B0 e f 0 i .known=zNq n:=q
    rw[g]at c0;obtain r|⟨k,-,r⟩:=fk (uW 1 i (uY f .known)) e.js
    ·have u:B0 e f 1 i .known= -1:=r
     rw[u]at t;exact af.r b [.eb 15 (ah s),z3 c,z3 c0,z3 t,.eb 28 (bT n),.eq 51 (bL (ax s za))]
    ·have u:B0 e f 1 i .known=zNq k:=r
     rw[g,u]at d;simp at d
 unfold oz;split
 ·rename_i h
  have K:(ch (y6 e.bs)).findIdx (yo e f)<y6 (ch (y6 e.bs)):=by rw[B];exact h
  have d:yo e f ((ch (y6 e.bs)).getD (CN e f) 0)=bj:=lS (p:=yo e f) 0 K;rw[mL h]at d;generalize L:CN e f=i at h d rd;have c:=H i h;have c0:=ca 0 i;have t:=ca 1 i;rw[yo,zLq,zLq]at d;obtain⟨f1,f2,f3⟩:=d;rw[f1]at c;obtain q|⟨n,E,q⟩:=fk (uW 0 i (uY f .known)) e.js
  ·have g:B0 e f 0 i .known= -1:=q
   rw[g]at f2;exact api f2 zv
  obtain r|⟨k,A,r⟩:=fk (uW 1 i (uY f .known)) e.js
  ·have u:B0 e f 1 i .known= -1:=r
   rw[u]at f3;exact api f3 zv
  have g:B0 e f 0 i .known=zNq n:=q;have u:B0 e f 1 i .known=zNq k:=r;rw[g]at c0⊢;rw[u]at t⊢;have D:=ay bQ za A
  have C:=bA bQ A 2 za
  have l:=j5 bQ A bc 2 za
  have F:(((e.js.flatMap Hh).drop ((zNq k).toNat*7)).drop 2).headD .any=nat (y7 e.js k bc).a:=l;unfold eO;by_cases x:(y7 e.js (zNq k).toNat bc).a=i
  ·rw[aph x]
   have v:=aI.z zZq G (ae f240 0) .ret (lay 53 [(2,y0 0 0),(3,bool bj)] [(0,[nat 2,.aY 1 0 1 1,.aY 2 0 2 2,nat 0]),(1,[nat i]),(2,[nat n,nat k])] [0]) (λi=>sgL e f i) i rd
    (af.br b (ro:=[46,49]) (m:=60) (aB ..) [.eb 15 (ah h),z3 c,z3 c0,z3 t,.eb 28 (bT n),.eb 31 (bT k),.er 38 (nat k),yu D,yu C,.eq 41 F,.eb 43 (gI x)])
   exact iS.br b func240 (ro:=[]) (m:=60) [.code v]
  ·rw[ape x]
   have v:=aI.z zZq G (ae f240 0) .ret (lay 53 [(2,y0 0 0),(3,bool bj)] [(0,[nat 3,.aY 1 0 1 1,.aY 2 0 2 2,nat 0]),(1,[nat i]),(2,[nat n,nat k])] [0]) (λi=>sgL e f i) i rd
    (af.br b (ro:=[46,49]) (m:=60) (aB ..) [.eb 15 (ah h),z3 c,z3 c0,z3 t,.eb 28 (bT n),.eb 31 (bT k),.er 38 (nat k),yu D,yu C,.eq 41 F,.eb 43 (fh x)])
   exact iS.br b func240 (ro:=[]) (m:=60) [.code v]
 ·rename_i h
  have E:CN e f=y6 e.bs:=arp (by have:= @aqu _ (yo e f) (ch (y6 e.bs));rw[B]at this;exact this) za
  rw[E]at rd;have v:=aI.z zZq G (ae f240 0) (y5 0) (lay 53 [(2,y0 0 0)] [(0,Da)] [0]) (λi=>sgL e f i) _ rd
   (af.r b [.eb 15 (av (apc (y6 e.bs)))])
  exact iS.br b func240 (ro:=[]) (m:=60) [.code v]
open Gr in
def TT(N:aw)(free:aw->b5)(i j:aw):∀k,Lp N free i j<+:Lp N free i (j+k)
 |0=>asY _
 |k+1=>(TT N free i j k).trans (by rw[<-arf,Hm];exact List.prefix_append _ _)
open Gr in
def VS(N:aw)(free:aw->b5)(i:aw):∀k,Lp N free i 0<+:Lp N free (i+k) 0
 |0=>asY _
 |k+1=>(VS N free i k).trans (by have h:=TT N free (i+k) 0 N;rw[aqa,TS]at h;exact h)
open Gr in
def aeb{N:aw}(c:b<d)(g:d<N)(f:L b=bj)(e:L d=bj):∃r,Lp N L N 0=Lp N L b d++(b,d)::r:=by
 have i:Lp N L b (d+1)<+:Lp N L (b+1) 0:=by have h:=TT N L b (d+1) (N-(d+1));rw[show d+1+(N-(d+1))=N from by omega,TS]at h;exact h
 have j:=VS N L (b+1) (N-(b+1));rw[show b+1+(N-(b+1))=N from by omega]at j;obtain⟨r,a⟩:=i.trans j;rw[Hm,aph ⟨c,f,e⟩,aqV]at a;exact⟨r,a.symm⟩
def anP(l:Lk)(s:Fn)(i:aw):cA:=B0 l s 0 i .known
def cmP(l:Lk)(s:Fn)(i j:aw):cA:=B0 l s 0 i (.only j)
def Lg(l:Lk)(s:Fn)(x:aw×aw):Gp:=⟨1,[x.1,x.2],[(anP l s x.1).toNat,(anP l s x.2).toNat,(cmP l s x.1 x.2).toNat],0⟩
def wq(l:Lk)(s:Fn):bF Gp:=((Gr.Lp (y6 l.bs) (r6 s) (y6 l.bs) 0).find? (Gr.Ot (anP l s) (cmP l s))).map (Lg l s)
def ES{z:cA}(h:0<=z):int z=nat z.toNat:=by have:z=zNq z.toNat:=(Int.toNat_of_nonneg h).symm;show D.lit (.int .i64 z)=D.lit (.int .i64 (zNq z.toNat));rw[<-this]
def aaS(s:aa G)(b:g7 e)(hs:qt e f):iS zZq G 239 [vO e f] (MV (wq e f)):=by
 have u:∀a q,xf G 295 [vO e f,nat 0,nat a,adQ e f q] (int (B0 e f 0 a q)):=λa q=>U2 s e f 0 a q b.nj λj c o k=>by rw[hs.k];exact b.Si c k
 have ca:∀a,xf G 293 [vO e f,nat 0,nat a] (int (B0 e f 0 a .known)):=λa=>Ch s e f 0 a b.nj λj c o k=>by rw[hs.k];exact b.Si c k
 refine Gr.BR (nm:=yT (.string e.nm)) (N:=y6 e.bs) (bs:=e.bs.flatMap A4) (rest:=[aQ Hh e.js,aQ Ky e.ds,gS f.known,gS f.nR,gS f.used,gsD f.gs]) (an:=anP e f) (jn:=cmP e f) (free:=r6 f) s b.nb
  (λi l=>acx s e f (by rw[hs.k];exact l) (by rw[hs.d];exact l)) (λi _ _=>ca i) (λi j _ _ _ _=>u i (.only j)) (λh=>?_) λi j m c l t d p=>?_
 ·rw[wq,arB.2 (λx g=>by rw[h x g];simp)];rfl
 ·obtain⟨r,n⟩:=aeb m c l t
  rw[wq,n,arF,arB.2 (λx g=>by rw[p x g];simp),Option.none_or,arx d]
  rw[Gr.Ot,dT,dT,cm,cm,cm]at d;show _=D.aP [y4 [nat 1,yI 2 aj [nat i,nat j],yI 3 aj [int (anP e f i),int (anP e f j),int (cmP e f i j)],nat 0],bool bj];rw[ES d.1.1,ES d.1.2,ES d.2];rfl
end Tw
variable {P:cp} {Good:bn->Prop}
def D.fD(ρ:aw->aw):D->D
 |y0 b off=>y0 (ρ b) off
 |.aY b off len cap=>.aY (ρ b) off len cap
 |.bG b n size=>.bG (ρ b) n size
 |d=>d
def D.Ew(ρ:aw->aw):D->D
 |y4 xs=>y4 (xs.map (D.fD ρ))
 |.aP xs=>.aP (xs.map (D.fD ρ))
 |d=>d.fD ρ
def v_(ρ:aw->aw)(d:D):(d.fD ρ).ref=d.ref.map ρ:=by cases d<;>rfl
variable {K:St} {Q:iw} {b d:aw} {g:D} {q:Code}
def Ey(ρ:aw->aw)(h:g.ref=bk):g.fD ρ=g:=by cases g<;>first|rfl|simp[D.ref]at h
def WD(ρ:aw->aw)(d:D):(d.Ew ρ).refs=d.refs.map ρ:=by
 have key:∀a:ai D,(a.map (D.fD ρ)).filterMap D.ref=(a.filterMap D.ref).map ρ:=λa=>by
  induction a with
  |nil=>rfl
  |cons x a b=>
   rw[are,asD,asD,v_,b];cases x.ref<;>rfl
 cases d<;>first|rfl|exact key _
def aX.Gw{β ρ:aw->aw}{w:bn}{X:aw->Prop}{v:b3}{d:D}(h:aX β w X v (d.fD ρ)):aX (λb=>β (ρ b)) w X v d:=by
 cases c:d.ref with
 |none=>
  rw[Ey ρ c]at h;exact .p (h.pure c)
 |some b=>
  have no:∀{e:D},e.ref=a6 (ρ b)->¬b9 w X v e:=λi a=>by rw[fC a]at i;cases i
  cases d with
  |ptr b off=>
   change aX β w X v (.ptr (ρ b) off)at h
   cases h with
   |p a=>exact api (fC a) (by simp[D.ref])
   |ptr=>exact .ptr (β:=λb=>β (ρ b)) b off
  |aY b off len cap=>
   change aX β w X v (.aY (ρ b) off len cap)at h
   cases h with
   |p a=>exact api (fC a) (by simp[D.ref])
   |aY _ _ _ _ g f=>exact .aY (β:=λb=>β (ρ b)) b off len cap g f
  |bG b n size=>
   change aX β w X v (.bG (ρ b) n size)at h
   cases h with
   |p a=>exact api (fC a) (by simp[D.ref])
   |bG _ _ _ cap e g f j=>exact .bG (β:=λb=>β (ρ b)) b n size cap e g f j
  |_=>simp[D.ref]at c
def LQ.Gw{β ρ:aw->aw}{w:bn}{X:aw->Prop}{us:ai b3}{xs:ai D}(h:LQ (aX β w X) us (xs.map (D.fD ρ))):LQ (aX (λb=>β (ρ b)) w X) us xs:=by
 refine⟨by simpa using h.1,λi c a=>aX.Gw (ρ:=ρ) ?_⟩;have:=h.2 i c (by simpa using a)
 rwa [ap2]at this
def bU.Gw{β ρ:aw->aw}{w:bn}{X:aw->Prop}{v:b3}{d:D}(h:bU β w X v (d.Ew ρ)):bU (λb=>β (ρ b)) w X v d:=by
 by_cases l:∃a,d=.agg a;obtain⟨a,rfl⟩:=l;change bU β w X v (.agg (a.map (D.fD ρ)))at h;cases h with
 |c j=>
  have i:=j.pure rfl;cases i with
  |agg us _ f g=>exact .agg us a (LQ.Gw (ρ:=ρ) (aR.lq ⟨f,g⟩))
 |agg us _ f=>exact .agg us a f.Gw
 by_cases k:∃a,d=.aP a;obtain⟨a,rfl⟩:=k;change bU β w X v (.aP (a.map (D.fD ρ)))at h;cases h with
 |c j=>
  have i:=j.pure rfl;cases i with
  |aP us _ f g=>exact .aP us a (LQ.Gw (ρ:=ρ) (aR.lq ⟨f,g⟩))
 |aP us _ f=>exact .aP us a f.Gw
 have e:d.Ew ρ=d.fD ρ:=by cases d<;>first|rfl|exact api ⟨_,rfl⟩ l|exact api ⟨_,rfl⟩ k
 rw[e]at h;refine .c (aX.Gw (ρ:=ρ) (h.cell (λa=>?_) (λa=>?_)));cases d<;>first|(intro h;cases h;done)|exact api ⟨_,rfl⟩ l
 cases d<;>first|(intro h;cases h;done)|exact api ⟨_,rfl⟩ k
def df.wg{c:Ctx}{n:aw}{s s':as0}{a:Act}{w:bn}{β ρ:aw->aw}{X:aw->Prop}(h:df c n s a w β X)(r:∀b g,ρ b=ρ g->b=g)(v:∀b<c.gb,ρ b=b)
  (x:∀t,s.tmp t=(s'.tmp t).Ew ρ) (B:∀b,s.blk (ρ b)=(s'.blk b).map λcs=>if s'.bu b=bj then cs.map (D.fD ρ)else cs) (u:∀b,s.bu (ρ b)=s'.bu b):df c n s' a w (λb=>β (ρ b)) X:=by
 have q:∀b,s.blk (ρ b)=(s'.blk b).map (m4 (D.fD ρ)):=λb=>by
  have e:=B b;cases z:s'.blk b with
  |none=>rw[e,z];rfl
  |some cs=>
   rw[z]at e;rw[e];show a6 (if s'.bu b=bj then cs.map (D.fD ρ)else cs)=a6 (cs.map (D.fD ρ))
   split
   ·rfl
   ·rename_i y
    have J:s.blk (ρ b)=a6 cs:=by rw[e];show a6 (if s'.bu b=bj then cs.map (D.fD ρ)else cs)=a6 cs;rw[ape y]
    have I:cs.map (D.fD ρ)=cs.map id:=apz λd l=>Ey ρ (by
     cases C:d.ref with
     |none=>rfl
     |some g=>exact api (by rw[<-u];exact(h.qS _ _ J d l g C).1) y)
    rw[I,aqo]
 have live:∀b,(s.blk (ρ b)).isSome=(s'.blk b).isSome:=λb=>by rw[q];cases s'.blk b<;>rfl
 refine⟨h.defers,h.size,λt=>?_,λt b m=>?_,λb cs j=>?_,λb cs j d l g K=>?_,λb g H G F=>?_,h.F,h.uZ,h.oH,h.below,λp i=>?_,λp i b f=>?_,⟨h.kp.obj,h.kp.x,h.kp.lt,λk E b o=>?_⟩⟩
 ·have:=h.tmp t
  rw[x]at this;exact this.Gw
 ·rw[<-live]
  refine h.nd t _ ?_;rw[x,WD];exact ard m
 ·have e:s.blk (ρ b)=a6 (cs.map (D.fD ρ)):=by rw[q,j];rfl
  obtain⟨k1,k2,A,ty,k3,k4,k5⟩:=h.blk _ _ e;rw[apq]at k4 k5;exact⟨k1,k2,A,ty,k3,k4,k5.Gw⟩
 ·have e:s.blk (ρ b)=a6 (cs.map (D.fD ρ)):=by rw[q,j];rfl
  obtain⟨k1,k2⟩:=h.qS _ _ e _ (ard l) (ρ g) (by rw[v_,K];rfl)
  exact⟨by rw[<-u];exact k1,by rw[<-live];exact k2⟩
 ·exact r _ _ (h.inj _ _ (by rw[live];exact H) (by rw[live];exact G) F)
 ·exact(h.gh p i).congr λb f=>by rw[v b (h.i_ p i b f).1]
 ·obtain⟨k1,k2⟩:=h.i_ p i b f
  exact⟨k1,by rw[<-live,v b k1];exact k2⟩
 ·exact h.kp.off k E _ (by rw[live];exact o)
def Ue(x y b:aw):aw:=if b=x then y else if b=y then x else b
def g9:ai (aw×aw)->aw->aw
 |[],b=>b
 |(x,y)::l,b=>Ue x y (g9 l b)
def aeG(x y:aw)(h:Ue x y b=Ue x y d):b=d:=by unfold Ue at h;split at h<;>split at h<;>(try split at h)<;>(try split at h)<;>omega
def CH:∀(l:ai (aw×aw))(b a:aw),g9 l b=g9 l a->b=a
 |[],_,_,h=>h
 |(_,_)::l,b,a,h=>CH l b a (aeG _ _ h)
def OJ{gb:aw}:∀(l:ai (aw×aw)),(∀p∈l,gb<=p.1/\gb<=p.2)->∀b<gb,g9 l b=b
 |[],_,b,_=>rfl
 |(x,y)::l,h,b,d=>by have a:=h (x,y) (apw ..);rw[g9,OJ l (λp c=>h p (apX _ c)) b d,Ue,ape (by have:=a.1;omega),ape (by have:=a.2;omega)]
def fU(n:aw)(l:ai (aw×D))(bl:ai (aw×ai D))(ns:ai aw)(b:aw):(lay n l bl ns).fs.blk b=(bl.find? λp=>p.1==b).map (·.2):=by rw[xQ];split;rfl;rename_i h;rw[arB.2 λp a e=>h (Hz (apt.2 (apN.2 ⟨p,a,by simpa using e⟩)))];rfl
def t_(ρ:aw->aw)(ns:ai aw)(bl:ai (aw×ai D)):ai (aw×ai D):=bl.map λp=>(ρ p.1,bif ns.contains p.1 then p.2.map (D.fD ρ)else p.2)
def Rel.wg{c:Ctx}{n m gb:aw}{l:ai (aw×D)}{bl:ai (aw×ai D)}{ns:ai aw}{a:Act}{w:bn}(r:ai (aw×aw))(f:∀p∈r,gb<=p.1/\gb<=p.2)(i:c.gb<=gb)
  (h:Rel c n (lay m (l.map λp=>(p.1,p.2.Ew (g9 r))) (t_ (g9 r) ns bl) (ns.map (g9 r))).fs a w):Rel c n (lay m l bl ns).fs a w:=by
 obtain⟨β,X,h⟩:=h;refine⟨_,X,h.wg (ρ:=g9 r) (CH r) (λb k=>OJ r f b (apV k i)) (λt=>?_) (λb=>?_) (λb=>?_)⟩;rw[ct,ct];split;rw[asH];show(((l.find? λp=>p.1==t).map λp=>(p.1,p.2.Ew (g9 r))).map (·.2)).getD .any=_;cases l.find? λp=>p.1==t<;>rfl;rfl;rw[fU,fU,t_,asH];have e:((λp:aw×ai D=>p.1==g9 r b)∘λp:aw×ai D=>(g9 r p.1,bif ns.contains p.1 then p.2.map (D.fD (g9 r))else p.2))=λp:aw×ai D=>p.1==b:=by
  funext p
  show(g9 r p.1==g9 r b)=(p.1==b);by_cases h:p.1=b;rw[h,gp,gp];have:g9 r p.1≠g9 r b:=λe=>h (CH r _ _ e)
  rw[c4.2 this,c4.2 h]
 rw[e];cases j:bl.find? λp=>p.1==b with
 |none=>rfl
 |some p=>
  have g:p.1=b:=by simpa using aro j
  show a6 (bif ns.contains p.1 then p.2.map (D.fD (g9 r))else p.2)=a6 (if ns.contains b=bj then p.2.map (D.fD (g9 r))else p.2);rw[g];cases ns.contains b<;>rfl
 show(ns.map (g9 r)).contains (g9 r b)=ns.contains b;rw[aqf,apt,apt,apN];exact⟨λ⟨x,d,e⟩=>by rw[<-CH r _ _ e];exact d,λd=>⟨b,d,rfl⟩⟩
def fI(P:cp)(Good:bn->Prop)(gb:aw)(k:Code)(s:St)(e:iw)(s':St):Prop:=
 ∃s1,nK P Good gb k s e s1/\∀(c:Ctx)(a:Act)(w:bn),c.gb<=gb->Rel c (y6 s.tmps) s1.fs a w->Rel c (y6 s.tmps) s'.fs a w
def af.YT{s':St}(h:af P Good b q K Q s'):fI P Good b q K Q s':=by obtain⟨s1,j,m,l,i,g,f⟩:=h;exact⟨s1,i,λc a w d e=>by rw[<-f];exact e.mask d g⟩
def fI.br(j:aa Good){ro:ai aw}{gb m n:aw}{k:Code}{s:St}{l:ai (aw×D)}{bl:ai (aw×ai D)}{ns:ai aw}{e:iw}(r:ai (aw×aw))(i:y6 s.tmps=n)(b:ai (Item P Good))
  (d:r.all (λp=>hM gb p.1&&hM gb p.2)=bj)
  (h:rn P m ro gb k s b (l.map (·.1)) (bl.map λp=>g9 r p.1) (ns.map (g9 r))=a6 (e,l.map (λp=>p.2.Ew (g9 r)),bl.map (λp=>a6 (bif ns.contains p.1 then p.2.map (D.fD (g9 r))else p.2)),[],said b):=by kernel_rfl):fI P Good gb k s e (lay n l bl ns):=by
 have t:rn P m ro gb k s b ((l.map λp=>(p.1,p.2.Ew (g9 r))).map (·.1)) ((t_ (g9 r) ns bl).map (·.1)) (ns.map (g9 r))=a6 (e,(l.map λp=>(p.1,p.2.Ew (g9 r))).map (·.2),(t_ (g9 r) ns bl).map (λp=>a6 p.2),[],said b):=by rw[t_,aqG,aqG,aqG,aqG];exact h
 obtain⟨s1,q,o⟩:=(af.br j i b t).YT;rw[apH]at d;exact⟨s1,q,λc a w f u=>Rel.wg r (λp g=>by have:=d p g;rw[dT,aqB,aqB]at this;exact this) f (o c a w f u)⟩
def fI.seq{gb:aw}{x y:Code}{s s1 s2:St}{e:iw}(u:fI P Good gb x s y3 s1)(i:y6 s1.tmps=y6 s.tmps)(t:fI P Good gb y s1 e s2):fI P Good gb (.seq x y) s e s2:=by
 obtain⟨t1,h,q⟩:=u;obtain⟨t2,b,p⟩:=t;refine⟨t2,⟨b.1.trans i,λc Q a w n m l d f o=>?_⟩,λc a w d f=>?_⟩;refine oM rfl ?_;refine h.2 c _ a w n m l d f λj g r=>?_
 have k:=q c j g d r;rw[<-i]at k o;exact b.2 c Q j g n m l d k o;rw[<-i]at f⊢;exact p c a w d f
def aI.wg{n m gb:aw}{k:Code}{l:ai (aw×D)}{bl:ai (aw×ai D)}{ns:ai aw}{e:iw}{s':St}(r:ai (aw×aw))(b:r.all (λp=>hM gb p.1&&hM gb p.2)=bj)
  (h:aI P Good n gb k (lay m l bl ns) e s'):aI P Good n gb k (lay m (l.map λp=>(p.1,p.2.Ew (g9 r))) (t_ (g9 r) ns bl) (ns.map (g9 r))) e s':=by
 intro c Q a w i g f d q o;rw[apH]at b;exact h c Q a w i g f d (Rel.wg r (λp j=>by have:=b p j;rw[dT,aqB,aqB]at this;exact this) d q) o
def aI.MJ{ι:Type}{gb:aw}{body:Code}(R:ι->Prop)(inv:ι->St)(μ:ι->aw){n:aw}{e:iw}{s':St}(b:∀i,(inv i).tmps.length=n)(v:e≠.normal)
  (round:∀i,R i->(∃j,R j/\μ j<μ i/\fI P Good gb body (inv i) .normal (inv j))\/fI P Good gb body (inv i) e s') (i:ι) (p:R i):aI P Good n gb (.loop body) (inv i) e s':=by
 intro c Q a w s r q h l x;have y:∀f d,Rel c n s'.fs f d->Q e.BA f d:=λf d g=>by have:=x f d g;cases e<;>exact this
 refine rX (λk a w=>∃i,μ i=k/\R i/\Rel c n (inv i).fs a w) (μ i) ⟨i,rfl,p,l⟩ λk a w t=>?_
 obtain⟨i,rfl,p,l⟩:=t;rcases round i p with⟨j,u,z,s1,m,o⟩|⟨s1,m,o⟩
 ·refine m.2 c _ a w s r q h (by rw[b];exact l) λf d g=>?_
  have:=o c f d h g;rw[b]at this;exact⟨μ j,z,j,rfl,u,this⟩
 ·refine m.2 c _ a w s r q h (by rw[b];exact l) λf d g=>?_
  have:=o c f d h g;rw[b]at this;have:=y f d this;cases e with
  |normal=>exact api rfl v
  |exit id=>exact this
  |ret=>exact this
namespace Tw
open fb
variable {G:bn->Prop}
def qU(h:b<=1000000):zNq b=zNq b/\(0:cA)<=zNq b/\zNq b*((1:aw):cA)<=2^47/\zNq b<=2^62:=by have a:zNq b=(b:cA):=rfl;rw[a];refine⟨rfl,by omega,by omega,by omega⟩
def QZ(h:0<b):(0:cA)<=0/\(0:cA)<(((zNq b).toNat:aw):cA):=by have:(zNq b).toNat=b:=rfl;rw[this];omega
def OL(h:0<b):0+(0:cA).toNat*1+1<=y6 (cd (zNq b).toNat g):=by have:(zNq b).toNat=b:=rfl;rw[aqb,this];exact h
def bR(h:b<d):(0:cA)<=zNq b/\zNq b<(d:cA):=⟨by simp,by simpa using h⟩
variable (a:aa G) {e:Lk} {j:ai b5} {k:aw}
def gX(h:b<y6 j):0+(zNq b).toNat*1+1<=y6 (j.map bool):=by have:(zNq b).toNat=b:=rfl;rw[apq,this];omega
def a_(h:b<y6 j):aE (j.map bool) (0+(zNq b).toNat*1) [bool bj]=(j.set b bj).map bool:=by
 have e:0+(zNq b).toNat*1=b:=by show 0+b*1=b;omega
 rw[e,List.map_set,List.set_eq_take_append_cons_drop,aph (by rwa [apq])]
 rfl
def Vi(l:Lk)(g:D):ai D:=yJ l++[.aY 1 0 (y6 l.bs) (y6 l.bs),.aY 2 0 (y6 l.bs) (y6 l.bs),.aY 3 0 (y6 l.js) (y6 l.js),g]
def A0(l:Lk)(i:aw):ai b5:=(l.ds.take i).foldl (λm d=>m.set d.body bj) (cd (y6 l.bs) aj)
def Ji(l:Lk)(i:aw):y6 (A0 l i)=y6 l.bs:=by
 unfold A0;have:∀(a:ai Dr)(m:ai b5),y6 (a.foldl (λm d=>m.set d.body bj) m)=y6 m:=λa=>by
  induction a with
  |nil=>intro m;rfl
  |cons d a b=>intro m;rw[lr,b,apY]
 rw[this,aqb]
def LS(l:Lk)(h:b<y6 l.ds):A0 l (b+1)=(A0 l b).set (y7 l.ds b bc).body bj:=by unfold A0;rw[aq6,apj h,aqK,apf,apj h];rfl
def fdL(l:Lk)(b a:ai D)(i:aw):St:=lay 105 [(5,y0 4 0),(40,aQ Ky l.ds),(41,nat (y6 l.ds)),(42,nat i)] [(1,b),(2,(A0 l i).map bool),(3,a),(4,Vi l (yI 0 bj []))] [4]
def agj(d:g7 e)(c b:ai D):aI zZq G 105 0 (.loop (ae f113 0)) (fdL e c b 0) (y5 0) (lay 105 [(5,y0 4 0)] [(1,c),(2,(A0 e (y6 e.ds)).map bool),(3,b),(4,Vi e (yI 0 bj []))] [4]):=by
 have k:=d.nd;refine aI.c (λi=>fdL e c b i) (y6 e.ds) (λi h=>?_) (af.r a [.eb 43 (av (apc (y6 e.ds)))])
 have l:=fO gd h bc;have f:(y7 e.ds i bc).body<y6 e.bs:=d.body _ (aA h _);have j:(y7 e.ds i bc).body<y6 (A0 e i):=by rw[Ji];exact f
 have g:xo G (ae f113 0) (fdL e c b i) y3 (lay 105 [(5,y0 4 0),(40,aQ Ky e.ds),(41,nat (y6 e.ds)),(42,nat (i+1))] [(1,c),(2,aE ((A0 e i).map bool) (0+(zNq (y7 e.ds i bc).body).toNat*1) [bool bj]),(3,b),(4,Vi e (yI 0 bj []))] [4]):=
  af.r a [.eb 43 (ah h),yu (ay gd za h),yu (aq gd za h),.eq 45 l,.er 51 (nat (y7 e.ds i bc).body),yu (bR f),yu (gX j),.eq 53 (bL (ax h za))]
 rw[a_ j,<-LS e h]at g;exact g
def fmB(l:Lk)(s:Fn)(a:ai D):ai (aw×ai D):=
 match s.gs with
 |[]=>[(1,s.known.map bool),(2,s.nR.map bool),(3,s.used.map bool),(4,Vi l (yI 0 bj [])),(5,a)]
 |_::_=>[(1,s.known.map bool),(2,s.nR.map bool),(3,s.used.map bool),(4,Vi l (.bG 6 (y6 s.gs) 4)),(5,a),(6,s.gs.flatMap kg)]
def gpC:bF Gp->ai D
 |some g=>kg g
 |none=>Da
def fmL(l:Lk)(s:Fn)(a:bF Gp):St:=lay 105 [(5,y0 4 0),(8,y0 5 0),(9,bool a.isSome)] (fmB l s (gpC a)) [4]
def Ou(l:Lk)(s:Fn)(g:Gp):St:=lay 105 [(5,y0 4 0),(8,y0 5 0)] (fmB l s (kg g)) [4]
noncomputable def pe:Code:=ae f113 1
def acU:pe=.seq (kL pe) (.seq (kL (kR pe)) (kR (kR pe))):=zk
def amR(a:aa G)(l:Lk)(s:Fn)(g:Gp):fI zZq G 0 (kL pe) (fmL l s (a6 g)) y3 (Ou l s g):=by unfold fmL Ou fmB;cases s.gs<;>exact(af.r a []).YT
def fmE(l:Lk)(s:Fn):St:=lay 105 [(5,y0 4 0)] (fmB l s Da) [4]
def aka(a:aa G)(l:Lk)(s:Fn):fI zZq G 0 pe (fmL l s bk) (y5 2) (fmE l s):=by unfold fmL fmE fmB;cases s.gs<;>exact(af.r a []).YT
def ei(m:ai b5)(a:ai aw):ai b5:=a.foldl (λm i=>m.set i bj) m
def Fn.add(s:Fn)(g:Gp):Fn:=⟨ei s.known g.bs,s.nR,ei s.used g.js,s.gs++[g]⟩
def m_{gs:ai Gp}{g:Gp}(h:y6 gs<=1000)(a:(kg g).all D.bV=bj):(kg g).all D.bV=bj/\0<1/\y6 (gs.flatMap kg)=y6 gs*4/\y6 (kg g)=1*4/\y6 gs+1<=2^62/\(y6 gs+1)*64<=2^47:=by
 refine⟨a,by omega,?_,rfl,by omega,by omega⟩;clear h a;induction gs with
 |nil=>rfl
 |cons x xs b=>rw[ap',ap4,b,aqO];simp[kg];omega
def tI(a:b<y6 j)(m:k<y6 j):0+(zNq k).toNat*1+1<=y6 (aE (j.map bool) (0+(zNq b).toNat*1) [bool bj]):=by rw[a_ a];exact gX (by rwa [apY])
def HO(a:b<y6 j)(c:d<y6 j)(m:k<y6 j):0+(zNq k).toNat*1+1<=y6 (aE (aE (j.map bool) (0+(zNq b).toNat*1) [bool bj]) (0+(zNq d).toNat*1) [bool bj]):=by rw[a_ a,a_ (by rwa [apY])];exact gX (by rwa [apY,apY])
def Ha(gs:ai Gp)(g:Gp):(gs++[g]).flatMap kg=gs.flatMap kg++kg g:=by rw[aqI,ap',asV,aqs]
section
variable {G:bn->Prop} {l:Lk} {s:Fn} (hs:qt l s) (hn:s.gs.length<=1000)
include hs hn
variable {S X:aw}
def aot(n:aa G)(j:b<y6 l.bs)(m:S<y6 l.js):fI zZq G 0 (kL (kR pe)) (Ou l s ⟨k,[b],[S],d⟩) y3 (Ou l (s.add ⟨k,[b],[S],d⟩) ⟨k,[b],[S],d⟩):=by
 have e:b<y6 s.known:=by rw[hs.k];exact j
 have a:S<y6 s.used:=by rw[hs.u];exact m
 refine af.YT ?_;obtain⟨f,h,c,gs⟩:=s;cases gs with
 |nil=>
  have g:xo G (kL (kR pe)) (Ou l ⟨f,h,c,[]⟩ ⟨k,[b],[S],d⟩) y3 (lay 105 [(5,y0 4 0),(8,y0 5 0)] [(1,aE (f.map bool) (0+(zNq b).toNat*1) [bool bj]),(2,h.map bool),(3,aE (c.map bool) (0+(zNq S).toNat*1) [bool bj]),(4,Vi l (.bG 6 1 4)),(5,kg ⟨k,[b],[S],d⟩),(6,kg ⟨k,[b],[S],d⟩)] [4]):=
   af.r n [.er 76 (nat b),yu (bR j),yu (gX e),.er 90 (nat S),yu (bR m),yu (gX a)]
  rw[a_ e,a_ a]at g;exact g
 |cons x xs=>
  have g:xo G (kL (kR pe)) (Ou l ⟨f,h,c,x::xs⟩ ⟨k,[b],[S],d⟩) y3 (lay 105 [(5,y0 4 0),(8,y0 5 0)] [(1,aE (f.map bool) (0+(zNq b).toNat*1) [bool bj]),(2,h.map bool),(3,aE (c.map bool) (0+(zNq S).toNat*1) [bool bj]),(4,Vi l (.bG 6 (y6 (x::xs)+1) 4)),(5,kg ⟨k,[b],[S],d⟩),(6,(x::xs).flatMap kg++kg ⟨k,[b],[S],d⟩)] [4]):=
   af.r n [.er 76 (nat b),yu (bR j),yu (gX e),.er 90 (nat S),yu (bR m),yu (gX a),.er 99 (yI 1 bj (kg ⟨k,[b],[S],d⟩)),yu (m_ (gs:=x::xs) (g:=⟨k,[b],[S],d⟩) hn rfl)]
  rw[a_ e,a_ a,<-Ha]at g;rw[show y6 (x::xs)+1=y6 ((x::xs)++[(⟨k,[b],[S],d⟩:Gp)]) from by simp]at g
  exact g
def aos(q:aa G)(n:S<y6 l.bs)(p:X<y6 l.js)(o:b<y6 l.js):fI zZq G 0 (kL (kR pe)) (Ou l s ⟨k,[S],[X,b],d⟩) y3 (Ou l (s.add ⟨k,[S],[X,b],d⟩) ⟨k,[S],[X,b],d⟩):=by
 have f:S<y6 s.known:=by rw[hs.k];exact n
 have c:X<y6 s.used:=by rw[hs.u];exact p
 have m:b<y6 s.used:=by rw[hs.u];exact o
 refine af.YT ?_;obtain⟨h,j,e,gs⟩:=s;cases gs with
 |nil=>
  have g:xo G (kL (kR pe)) (Ou l ⟨h,j,e,[]⟩ ⟨k,[S],[X,b],d⟩) y3 (lay 105 [(5,y0 4 0),(8,y0 5 0)] [(1,aE (h.map bool) (0+(zNq S).toNat*1) [bool bj]),(2,j.map bool),(3,aE (aE (e.map bool) (0+(zNq X).toNat*1) [bool bj]) (0+(zNq b).toNat*1) [bool bj]),(4,Vi l (.bG 6 1 4)),(5,kg ⟨k,[S],[X,b],d⟩),(6,kg ⟨k,[S],[X,b],d⟩)] [4]):=
   af.r q [.er 76 (nat S),yu (bR n),yu (gX f),.er 90 (nat X),yu (bR p),yu (gX c),.er 90 (nat b),yu (bR o),yu (tI c m)]
  rw[a_ f,a_ c,a_ (by rw[apY];exact m)]at g
  exact g
 |cons x xs=>
  have g:xo G (kL (kR pe)) (Ou l ⟨h,j,e,x::xs⟩ ⟨k,[S],[X,b],d⟩) y3 (lay 105 [(5,y0 4 0),(8,y0 5 0)] [(1,aE (h.map bool) (0+(zNq S).toNat*1) [bool bj]),(2,j.map bool),(3,aE (aE (e.map bool) (0+(zNq X).toNat*1) [bool bj]) (0+(zNq b).toNat*1) [bool bj]),(4,Vi l (.bG 6 (y6 (x::xs)+1) 4)),(5,kg ⟨k,[S],[X,b],d⟩),(6,(x::xs).flatMap kg++kg ⟨k,[S],[X,b],d⟩)] [4]):=
   af.r q [.er 76 (nat S),yu (bR n),yu (gX f),.er 90 (nat X),yu (bR p),yu (gX c),.er 90 (nat b),yu (bR o),yu (tI c m),.er 99 (yI 1 bj (kg ⟨k,[S],[X,b],d⟩)),yu (m_ (gs:=x::xs) (g:=⟨k,[S],[X,b],d⟩) hn rfl)]
  rw[a_ f,a_ c,a_ (by rw[apY];exact m),<-Ha]at g
  rw[show y6 (x::xs)+1=y6 ((x::xs)++[(⟨k,[S],[X,b],d⟩:Gp)]) from by simp]at g
  exact g
def aor(y:aa G){a c:aw}(t:S<y6 l.bs)(r:X<y6 l.bs)(w:a<y6 l.js)(v:b<y6 l.js)(u:c<y6 l.js):fI zZq G 0 (kL (kR pe)) (Ou l s ⟨k,[S,X],[a,b,c],d⟩) y3 (Ou l (s.add ⟨k,[S,X],[a,b,c],d⟩) ⟨k,[S,X],[a,b,c],d⟩):=by
 have f:S<y6 s.known:=by rw[hs.k];exact t
 have p:X<y6 s.known:=by rw[hs.k];exact r
 have e:a<y6 s.used:=by rw[hs.u];exact w
 have h:b<y6 s.used:=by rw[hs.u];exact v
 have q:c<y6 s.used:=by rw[hs.u];exact u
 refine af.YT ?_;obtain⟨n,o,m,gs⟩:=s;cases gs with
 |nil=>
  have g:xo G (kL (kR pe)) (Ou l ⟨n,o,m,[]⟩ ⟨k,[S,X],[a,b,c],d⟩) y3 (lay 105 [(5,y0 4 0),(8,y0 5 0)] [(1,aE (aE (n.map bool) (0+(zNq S).toNat*1) [bool bj]) (0+(zNq X).toNat*1) [bool bj]),(2,o.map bool),(3,aE (aE (aE (m.map bool) (0+(zNq a).toNat*1) [bool bj]) (0+(zNq b).toNat*1) [bool bj]) (0+(zNq c).toNat*1) [bool bj]),(4,Vi l (.bG 6 1 4)),(5,kg ⟨k,[S,X],[a,b,c],d⟩),(6,kg ⟨k,[S,X],[a,b,c],d⟩)] [4]):=
   af.r y [.er 76 (nat S),yu (bR t),yu (gX f),.er 76 (nat X),yu (bR r),yu (tI f p),.er 90 (nat a),yu (bR w),yu (gX e),.er 90 (nat b),yu (bR v),yu (tI e h),.er 90 (nat c),yu (bR u),yu (HO e h q)]
  rw[a_ f,a_ (by rw[apY];exact p),a_ e,a_ (by rw[apY];exact h),a_ (by rw[apY,apY];exact q)]at g
  exact g
 |cons x xs=>
  have g:xo G (kL (kR pe)) (Ou l ⟨n,o,m,x::xs⟩ ⟨k,[S,X],[a,b,c],d⟩) y3 (lay 105 [(5,y0 4 0),(8,y0 5 0)] [(1,aE (aE (n.map bool) (0+(zNq S).toNat*1) [bool bj]) (0+(zNq X).toNat*1) [bool bj]),(2,o.map bool),(3,aE (aE (aE (m.map bool) (0+(zNq a).toNat*1) [bool bj]) (0+(zNq b).toNat*1) [bool bj]) (0+(zNq c).toNat*1) [bool bj]),(4,Vi l (.bG 6 (y6 (x::xs)+1) 4)),(5,kg ⟨k,[S,X],[a,b,c],d⟩),(6,(x::xs).flatMap kg++kg ⟨k,[S,X],[a,b,c],d⟩)] [4]):=
   af.r y [.er 76 (nat S),yu (bR t),yu (gX f),.er 76 (nat X),yu (bR r),yu (tI f p),.er 90 (nat a),yu (bR w),yu (gX e),.er 90 (nat b),yu (bR v),yu (tI e h),.er 90 (nat c),yu (bR u),yu (HO e h q),.er 99 (yI 1 bj (kg ⟨k,[S,X],[a,b,c],d⟩)),yu (m_ (gs:=x::xs) (g:=⟨k,[S,X],[a,b,c],d⟩) hn rfl)]
  rw[a_ f,a_ (by rw[apY];exact p),a_ e,a_ (by rw[apY];exact h),a_ (by rw[apY,apY];exact q),<-Ha]at g
  rw[show y6 (x::xs)+1=y6 ((x::xs)++[(⟨k,[S,X],[a,b,c],d⟩:Gp)]) from by simp]at g
  exact g
end
end Tw
end Lw
namespace Lw
namespace Tw
open Go Go.RowKit Go.Proofs
open fb
variable {G:bn->Prop}
def amS(l:Lk)(s:Fn):D:=.aJ (yJ l++[yI (y6 l.bs) aj (((s.known.map bool).drop 0).take (y6 l.bs)),yI (y6 l.bs) aj (((s.nR.map bool).drop 0).take (y6 l.bs)),yI (y6 l.js) aj (((s.used.map bool).drop 0).take (y6 l.js)),yI (y6 s.gs) aj ((s.gs.flatMap kg).take (y6 s.gs*4))])
def acS(l:Lk)(s:Fn):D:=.aJ (yJ l++[yI (y6 l.bs) aj (((s.known.map bool).drop 0).take (y6 l.bs)),yI (y6 l.bs) aj (((s.nR.map bool).drop 0).take (y6 l.bs)),yI (y6 l.js) aj (((s.used.map bool).drop 0).take (y6 l.js)),yI 0 bj []])
variable {L:aw->b5} (a:aa G) {b d:aw} {e:Lk} {f:Fn} {j:ai b5} {s:Type} {y:Gp}
def mG(h:y6 j=b):D.row b aj (((j.map bool).drop 0).take b)=gS j:=by rw[aqD,apA (by rw[apq,h];exact apc _),<-h];rfl
def QV(gs:ai Gp):y6 (gs.flatMap kg)=y6 gs*4:=by
 induction gs with
 |nil=>rfl
 |cons x xs a=>rw[ap',ap4,a,aqO];simp[kg];omega
def Vk(hs:qt e f)(a:f.gs≠[]):amS e f=vO e f:=by
 unfold amS vO cFn;rw[mG hs.k,mG hs.d,mG hs.u,apA (by rw[QV];exact apc _)];cases h:f.gs with
 |nil=>exact api h a
 |cons x xs=>rfl
def Qv(hs:qt e f)(a:f.gs=[]):acS e f=vO e f:=by unfold acS vO cFn;rw[mG hs.k,mG hs.d,mG hs.u,a];rfl
def jh(l:Lk)(s:Fn):bF Gp:=match pY l s with
 |some g=>a6 g
 |none=>match wq l s with
  |some g=>a6 g
  |none=>oz l s
def agh(a:aa G){l:Lk}{s:Fn}(e:g7 l)(hs:qt l s)(d:s.gs≠[])(g:Gp):fI zZq G 0 (kR (kR pe)) (Ou l s g) .normal (fmL l s (jh l s)):=by
 have b:=Qy a e hs;have c:=aaS a e hs;have cs:=OO a e hs;rw[<-Vk hs d]at b c cs;unfold jh;cases k:pY l s with
 |some x=>
  rw[k]at b;clear hs;obtain⟨i,n,h,gs⟩:=s;cases gs with
  |nil=>exact api rfl d
  |cons y f=>exact fI.br a (ro:=[]) (m:=60) [(5,7)] (aB ..) [.inl [] func172,.dW b] zv
 |none=>
  rw[k]at b;cases j:wq l s with
  |some x=>
   rw[j]at c;clear hs;obtain⟨i,n,h,gs⟩:=s;cases gs with
   |nil=>exact api rfl d
   |cons y f=>exact fI.br a (ro:=[]) (m:=60) [(5,7)] (aB ..) [.inl [] func172,.dW b,.dW c] zv
  |none=>
   rw[j]at c;show fI zZq G 0 (kR (kR pe)) (Ou l s g) .normal (fmL l s (oz l s));generalize oz l s=os at cs;clear hs;obtain⟨i,n,h,gs⟩:=s;cases gs with
   |nil=>exact api rfl d
   |cons y f=>
    cases os with
    |some x=>exact fI.br a (ro:=[]) (m:=60) [(5,7)] (aB ..) [.inl [] func172,.dW b,.dW c,.dW cs] zv
    |none=>exact fI.br a (ro:=[]) (m:=60) [(5,7)] (aB ..) [.inl [] func172,.dW b,.dW c,.dW cs] zv
def YM(l:Lk)(s:Fn)(kind body o8:aw):Prop:=o8<y6 l.js/\(y7 l.js o8 bc).kind=kind/\∃o,ud (y7 l.js o8 bc) body=a6 o/\y7 s.known o aj=bj
inductive tC(l:Lk)(s:Fn):Gp->Prop
 |sO (d body o8:aw) (hd:d<l.ds.length) (hb:(l.ds.getD d bc).body=body) (kb:s.known.getD body aj=aj) (hp:YM l s 0 body o8):tC l s ⟨0,[body],[o8],d⟩
 |pair (i j a b c:aw) (pC:i<j) (hj:j<l.bs.length) (fi:r6 s i=bj) (fj:r6 s j=bj) (ha:YM l s 0 i a) (hb:YM l s 0 j b) (hc:c<l.js.length) (kc:(l.js.getD c bc).kind=0) (oc:ud (l.js.getD c bc) i=a6 j):tC l s ⟨1,[i,j],[a,b,c],0⟩
 |single (i a b:aw) (hi:i<l.bs.length) (fi:r6 s i=bj) (ha:YM l s 0 i a) (hb:YM l s 1 i b):tC l s ⟨eO l i b,[i],[a,b],0⟩
def Qf{j:Jt}(h:uW b d L j=bj):j.kind=b/\∃o,ud j d=a6 o/\L o=bj:=by
 unfold uW at h;rw[zLq,cm]at h;refine⟨h.1,?_⟩;have a:=h.2;cases kind:ud j d with
 |none=>rw[kind]at a;cases a
 |some o=>rw[kind]at a;exact⟨o,rfl,a⟩
def P4{p:s->b5}{l:ai s}(d:s)(h:EU p l=zNq b):b<y6 l/\p (y7 l b d)=bj:=by unfold EU at h;split at h;rename_i a;have e:l.findIdx p=b:=Int.ofNat.inj h;rw[<-e];exact⟨a,lS d a⟩;cases h
def IV(h:0<=B0 e f b d .known):YM e f b d (B0 e f b d .known).toNat:=by
 obtain a|⟨n,-,a⟩:=fk (uW b d (uY f .known)) e.js
 rw[show B0 e f b d .known= -1 from a]at h;exact api h zv;obtain⟨body,kind⟩:=P4 bc a;rw[show B0 e f b d .known=zNq n from a];obtain⟨s,o,c,l⟩:=Qf kind;exact⟨body,s,o,c,l⟩
def Tm(h:pY e f=a6 y):tC e f y:=by unfold pY at h;split at h;rename_i b;cases h;have a:=lS (p:=kH e f) bc b;rw[kH,zLq,cm]at a;exact .sO _ _ _ b rfl (by simpa using a.1) (IV a.2);cases h
def ajn{N:aw}{x:aw×aw}(h:x∈Gr.Lp N L N 0):x.1<x.2/\x.2<N/\L x.1=bj/\L x.2=bj:=by unfold Gr.Lp at h;rw[Gr.MP N L N (j:=0) za,aqs,aq9]at h;obtain⟨i,c,b⟩:=h;unfold Gr.EB at b;rw[apN]at b;obtain⟨k,a,rfl⟩:=b;rw[arO,zLq,zLq,cm,arb]at a;exact⟨a.2.1,a.1,a.2.2.1,a.2.2.2⟩
def aaT(h:wq e f=a6 y):tC e f y:=by
 unfold wq at h;rw[arA]at h;obtain⟨x,c,rfl⟩:=h;obtain⟨v,u,t,r⟩:=ajn (aqA c);have d:=aro c;rw[Gr.Ot,zLq,zLq,cm,cm,cm]at d;obtain⟨⟨q,p⟩,g⟩:=d;have b:(cmP e f x.1 x.2).toNat<y6 e.js/\(y7 e.js (cmP e f x.1 x.2).toNat bc).kind=0/\ud (y7 e.js (cmP e f x.1 x.2).toNat bc) x.1=a6 x.2:=by
  obtain a|⟨n,-,a⟩:=fk (uW 0 x.1 (uY f (.only x.2))) e.js
  rw[show cmP e f x.1 x.2= -1 from a]at g;exact api g zv;obtain⟨m,k⟩:=P4 bc a;rw[show cmP e f x.1 x.2=zNq n from a];obtain⟨j,o,i,l⟩:=Qf k;have:o=x.2:=by simpa [uY]using l
  exact⟨m,j,by rw[<-this];exact i⟩
 exact .pair _ _ _ _ _ v u t r (IV q) (IV p) b.1 b.2.1 b.2.2
def RI(h:oz e f=a6 y):tC e f y:=by
 unfold oz at h;split at h
 ·rename_i b
  cases h;have c:(ch (y6 e.bs)).findIdx (yo e f)<y6 (ch (y6 e.bs)):=by rw[aqL];exact b
  have a:yo e f ((ch (y6 e.bs)).getD (CN e f) 0)=bj:=lS (p:=yo e f) 0 c;rw[mL b,yo,zLq,zLq,cm,cm]at a;exact .single _ _ _ b a.1 (IV a.2.1) (IV a.2.2)
 ·cases h
def Dd(h:jh e f=a6 y):tC e f y:=by
 unfold jh at h;cases b:pY e f with
 |some x=>rw[b]at h;cases h;exact Tm b
 |none=>
  rw[b]at h;cases a:wq e f with
  |some x=>rw[a]at h;cases h;exact aaT a
  |none=>rw[a]at h;exact RI h
inductive vR(l:Lk):Fn->Fn->Prop
 |stop {s:Fn} (h:jh l s=bk):vR l s s
 |step {s t:Fn} {g:Gp} (h:jh l s=a6 g) (r:vR l (s.add g) t):vR l s t
def m5(a:ai aw):∀m:ai b5,y6 (ei m a)=y6 m:=by
 induction a with
 |nil=>intro m;rfl
 |cons i a b=>intro m;show y6 (ei (m.set i bj) a)=_;rw[b,apY]
def qt.add{l:Lk}{s:Fn}(h:qt l s)(g:Gp):qt l (s.add g):=⟨by show y6 (ei _ _)=_;rw[m5];exact h.k,h.d,by show y6 (ei _ _)=_;rw[m5];exact h.u⟩
def count_set:∀(m:ai b5)(i:aw),(m.set i bj).count aj<=m.count aj/\(i<y6 m->y7 m i aj=aj->(m.set i bj).count aj<m.count aj)
 |[],i=>⟨apc _,λh=>by simp at h⟩
 |b::m,0=>by
  rw[List.set_cons_zero,asz,asz];refine⟨by simp,λ_ h=>?_⟩;have:b=aj:=by simpa using h
  rw[this];simp
 |b::m,i+1=>by obtain⟨e,d⟩:=count_set m i;rw[List.set_cons_succ,asz,asz];refine⟨by omega,λc a=>?_⟩;have:=d (by simpa using c) (by simpa using a);omega
def fQ(h:r6 f b=bj):y7 f.known b aj=aj:=by unfold r6 at h;rw[zLq]at h;simpa using h.1
def tC.less(m:g7 e)(hs:qt e f)(h:tC e f y):(f.add y).known.count aj<f.known.count aj:=by
 cases h with
 |sO d body o8 o g k u=>exact(count_set f.known body).2 (by rw[hs.k,<-g];exact m.body _ (aA o _)) k
 |pair i j a b c q v l x p g w t r=>
  exact aqh (count_set _ j).1 ((count_set f.known i).2 (by rw[hs.k];omega) (fQ l))
 |single i a b n l p g=>exact(count_set f.known i).2 (by rw[hs.k];exact n) (fQ l)
def vR.ex{l:Lk}(b:g7 l):∀(n:aw)(s:Fn),qt l s->s.known.count aj<=n->∃t,vR l s t
 |0,s,hs,h=>by
  cases a:jh l s with
  |none=>exact⟨s,.stop a⟩
  |some g=>have:=(Dd a).less b hs;omega
 |n+1,s,hs,h=>by
  cases a:jh l s with
  |none=>exact⟨s,.stop a⟩
  |some g=>
   have:=(Dd a).less b hs;obtain⟨t,c⟩:=vR.ex b n (s.add g) (hs.add g) za;exact⟨t,.step a c⟩
def acA(o:g7 e)(hs:qt e f)(s:y6 f.gs<=1000){g:Gp}(h:tC e f g):fI zZq G 0 (kL (kR pe)) (Ou e f g) y3 (Ou e (f.add g) g):=by
 cases h with
 |sO d body o8 r l y n=>exact aot hs s a (by rw[<-l];exact o.body _ (aA r _)) n.1
 |pair i j m b c v p u z k l t x w=>exact aor hs s a za p k.1 l.1 t
 |single i m b q u k l=>exact aos hs s a q k.1 l.1
def agi(b:g7 e)(s:Fn)(hs:qt e s)(d:y6 s.gs+s.known.count aj<=1000)(c:vR e s f):
  aI zZq G 105 0 (.loop pe) (fmL e s (jh e s)) (y5 2) (fmE e f):=by
 refine aI.MJ (ι:=Fn) (λs=>qt e s/\y6 s.gs+s.known.count aj<=1000/\vR e s f) (λs=>fmL e s (jh e s)) (λs=>s.known.count aj) (λs=>aB ..) z1 (λs h=>?_) s ⟨hs,d,c⟩;obtain⟨hs,d,c⟩:=h;cases c with
 |stop h=>rw[h];exact y2 (aka a e _)
 |step h r=>
  rename_i g;have l:=Dd h;have t:=l.less b hs;refine y1 ⟨s.add g,⟨hs.add g,?_,r⟩,t,?_⟩;show y6 (s.gs++[g])+_<=1000;rw[ap4];simp only[ey,fl];omega;rw[h,acU];refine(amR a e s g).seq (aB ..) ((acA a b hs za l).seq (aB ..) (agh a b (hs.add g) ?_ g));show s.gs++[g]≠[];simp
def vU(l:Lk):Fn:=⟨(cd (y6 l.bs) aj).set 0 bj,A0 l (y6 l.ds),cd (y6 l.js) aj,[]⟩
def xY(l:Lk):qt l (vU l):=⟨by simp[vU],Ji l _,by simp[vU]⟩
def PX(n:aw):ai D:=aE (cd n (bool aj)) (0+(0:cA).toNat*1) [bool bj]
def G4(h:0<b):PX b=((cd b aj).set 0 bj).map bool:=by have:=a_ (j:=cd b aj) (b:=0) (by simpa using h);rw[asc]at this;exact this
def Mq(n:aw):cd n (bool aj)=(cd n aj).map bool:=by rw[asc]
def akc(c:g7 e)(b d:ai D):aI zZq G 105 0 (.loop (ae f113 0)) (lay 105 [(5,y0 4 0),(40,aQ Ky e.ds),(41,nat (y6 e.ds)),(42,nat 0)] [(1,b),(2,cd (y6 e.bs) (bool aj)),(3,d),(4,Vi e (yI 0 bj []))] [4]) (y5 0) (lay 105 [(5,y0 4 0)] [(1,b),(2,(A0 e (y6 e.ds)).map bool),(3,d),(4,Vi e (yI 0 bj []))] [4]):=by rw[Mq];exact agj a c b d
def aj'(c:g7 e)(b:vR e (vU e) f):aI zZq G 105 0 (.loop pe) (lay 105 [(5,y0 4 0),(8,y0 5 0),(9,bool (jh e (vU e)).isSome)] [(1,PX (y6 e.bs)),(2,(A0 e (y6 e.ds)).map bool),(3,cd (y6 e.js) (bool aj)),(4,Vi e (yI 0 bj [])),(5,gpC (jh e (vU e)))] [4]) (y5 2) (fmE e f):=by rw[G4 c.b0,Mq];refine agi a c (vU e) (xY e) ?_ b;have:=(xY e).k;have d:(vU e).known.count aj<=(vU e).known.length:=asA;have:=c.nb;show 0+_<=1000;omega
def acR(l:Lk):D:=.aJ (yJ l++[yI (y6 l.bs) aj (((PX (y6 l.bs)).drop 0).take (y6 l.bs)),yI (y6 l.bs) aj ((((A0 l (y6 l.ds)).map bool).drop 0).take (y6 l.bs)),yI (y6 l.js) aj (((cd (y6 l.js) (bool aj)).drop 0).take (y6 l.js)),yI 0 bj []])
def XP(a:g7 e):acR e=vO e (vU e):=by rw[<-Qv (xY e) rfl];unfold acR acS;rw[G4 a.b0,Mq];rfl
def akb(c:aa G){l:Lk}(h:g7 l)(ck:Spec zZq G 37 [lM l] (.lit .nilIface)){t:Fn}(q:vR l (vU l) t)(p:qt l t):Spec zZq G 113 [lM l] (.aP [vO l t,.lit .nilIface]):=by
 have a:=qU (b:=l.bs.length) (by have:=h.nb;omega);have m:=qU h.nj;have k:=QZ h.b0;have j:=OL (g:=bool aj) h.b0;have o:=akc c h (PX l.bs.length) (cd l.js.length (bool aj));have lm:=aj' c h q;have e:=Qy c h (xY l);have g:=aaS c h (xY l);have cs:=OO c h (xY l);rw[<-XP h]at e g cs;obtain⟨s,u,r,gs⟩:=t;cases gs with
 |nil=>
  rw[<-Qv p rfl];cases b:pY l (vU l)with
  |some y=>
   rw[show jh l (vU l)=a6 y from by rw[jh,b]]at lm;rw[b]at e;exact Spec.r c func113 [32] [.call ck,.er 22 (nat l.bs.length),.prop a,.er 26 (nat l.bs.length),.prop a,.er 30 (nat l.js.length),.prop m,.er 37 (.aY 1 0 l.bs.length l.bs.length),.prop k,.prop j,.code o,.inl [] func172,.dW e,.code (aI.wg [(5,7)] zv lm)]
  |none=>
   rw[b]at e;cases f:wq l (vU l)with
   |some y=>
    rw[show jh l (vU l)=a6 y from by rw[jh,b,f]]at lm;rw[f]at g;exact Spec.r c func113 [32] [.call ck,.er 22 (nat l.bs.length),.prop a,.er 26 (nat l.bs.length),.prop a,.er 30 (nat l.js.length),.prop m,.er 37 (.aY 1 0 l.bs.length l.bs.length),.prop k,.prop j,.code o,.inl [] func172,.dW e,.dW g,.code (aI.wg [(5,8)] zv lm)]
   |none=>
    rw[f]at g;cases i:oz l (vU l)with
    |some y=>
     rw[show jh l (vU l)=a6 y from by rw[jh,b,f];exact i]at lm;rw[i]at cs;exact Spec.r c func113 [32] [.call ck,.er 22 (nat l.bs.length),.prop a,.er 26 (nat l.bs.length),.prop a,.er 30 (nat l.js.length),.prop m,.er 37 (.aY 1 0 l.bs.length l.bs.length),.prop k,.prop j,.code o,.inl [] func172,.dW e,.dW g,.dW cs,.code (aI.wg [(5,8)] zv lm)]
    |none=>
     rw[show jh l (vU l)=bk from by rw[jh,b,f];exact i]at lm;rw[i]at cs;exact Spec.r c func113 [32] [.call ck,.er 22 (nat l.bs.length),.prop a,.er 26 (nat l.bs.length),.prop a,.er 30 (nat l.js.length),.prop m,.er 37 (.aY 1 0 l.bs.length l.bs.length),.prop k,.prop j,.code o,.inl [] func172,.dW e,.dW g,.dW cs,.code (aI.wg [(5,8)] zv lm)]
 |cons x xs=>
  rw[<-Vk p zb];cases b:pY l (vU l)with
  |some y=>
   rw[show jh l (vU l)=a6 y from by rw[jh,b]]at lm;rw[b]at e;exact Spec.r c func113 [32] [.call ck,.er 22 (nat l.bs.length),.prop a,.er 26 (nat l.bs.length),.prop a,.er 30 (nat l.js.length),.prop m,.er 37 (.aY 1 0 l.bs.length l.bs.length),.prop k,.prop j,.code o,.inl [] func172,.dW e,.code (aI.wg [(5,7)] zv lm)]
  |none=>
   rw[b]at e;cases f:wq l (vU l)with
   |some y=>
    rw[show jh l (vU l)=a6 y from by rw[jh,b,f]]at lm;rw[f]at g;exact Spec.r c func113 [32] [.call ck,.er 22 (nat l.bs.length),.prop a,.er 26 (nat l.bs.length),.prop a,.er 30 (nat l.js.length),.prop m,.er 37 (.aY 1 0 l.bs.length l.bs.length),.prop k,.prop j,.code o,.inl [] func172,.dW e,.dW g,.code (aI.wg [(5,8)] zv lm)]
   |none=>
    rw[f]at g;cases i:oz l (vU l)with
    |some y=>
     rw[show jh l (vU l)=a6 y from by rw[jh,b,f];exact i]at lm;rw[i]at cs;exact Spec.r c func113 [32] [.call ck,.er 22 (nat l.bs.length),.prop a,.er 26 (nat l.bs.length),.prop a,.er 30 (nat l.js.length),.prop m,.er 37 (.aY 1 0 l.bs.length l.bs.length),.prop k,.prop j,.code o,.inl [] func172,.dW e,.dW g,.dW cs,.code (aI.wg [(5,8)] zv lm)]
    |none=>
     rw[show jh l (vU l)=bk from by rw[jh,b,f];exact i]at lm;rw[i]at cs;exact Spec.r c func113 [32] [.call ck,.er 22 (nat l.bs.length),.prop a,.er 26 (nat l.bs.length),.prop a,.er 30 (nat l.js.length),.prop m,.er 37 (.aY 1 0 l.bs.length l.bs.length),.prop k,.prop j,.code o,.inl [] func172,.dW e,.dW g,.dW cs,.code (aI.wg [(5,8)] zv lm)]
end Tw
open Go Go.RowKit Go.Proofs
variable {P:cp} {Good:bn->Prop}
def b9.loose{w:bn}{X:aw->Prop}{v:b3}{n:aw}{xs:ai D}(h:b9 w X v (.row n bj xs)):b9 w X v (.row n aj xs):=by
 cases h with
 |row a _ cap _ us _ d hlen b e hm c=>exact .row a _ cap aj us _ d hlen b z1 hm c
def b9.ajx{w:bn}{X:aw->Prop}{v:b3}{n:aw}{xs:ai D}{e:D}(h:b9 w X v (.aP [.row n bj xs,e])):b9 w X v (.aP [.row n aj xs,e]):=by
 cases h with
 |aP us _ c b=>
  refine .aP us _ c λi h a=>?_
  have:=b i h (by simpa using a);cases i with
  |zero=>exact b9.loose this
  |succ i=>cases i with
   |zero=>exact this
   |succ i=>exfalso;simp only[ey,fl]at a;omega
variable {A:kf} {I J:ai (bF (ai D))} {g:D} {l:ai D}
def kh.loose{mx:aw}{ns ns':ai aw}{n:aw}{xs:ai D}(x:g.ref=bk)(h:kh P Good A mx l I ns (.aP [yI n bj xs,g]) J ns'):kh P Good A mx l I ns (.aP [yI n aj xs,g]) J ns':=by
 intro f u c w β X vals s r q p o m args k j a;refine(h f u c w β X vals s r q p o m args k j a).mono λH E B=>?_
 obtain⟨v,i,C,rfl,e,y,F⟩:=B;have d:∀z:b5,(D.aP [yI n z xs,g]).refs=[]:=λz=>by show [D.row n z xs,g].filterMap D.ref=[];rw[asa rfl,asa x,List.filterMap_nil]
 refine⟨v,i,C,rfl,e,.c (.p (b9.ajx (y.pure (d bj)))),λb blks=>?_⟩;rw[d]at blks;cases blks
namespace Tw
open fb
structure uU where
 T:aM
 ps:ai Pl
 mode:cA
def adz(s:uU):ai D:=cSd s.T s.ps s.mode
def OM:bF (ai uU)->D
 |none=>.aP [SA,lY 15]
 |some l=>.aP [yI (y6 l) aj (l.flatMap adz),xc]
open Classical in
noncomputable def yB(t:aM)(A B:Hd):bF (ai uU):=
 if A.v.sq=0\/B.v.sq=0 then bk
 else if aL t (cD t A.cr B.cr)=0 then(if aL t (g8 A.cr.r B.cr.r)=0 then bk else a6 [])
 else if aL t (cX t A.cr B.cr)=1 then a6 [⟨cT t A.cr B.cr,[oO (cT t A.cr B.cr) (Za t A.cr B.cr) A,oO (cT t A.cr B.cr) (Za t A.cr B.cr) B],1⟩,⟨cT t A.cr B.cr,[oO (cT t A.cr B.cr) (Y_ t A.cr B.cr) A,oO (cT t A.cr B.cr) (Y_ t A.cr B.cr) B],-1⟩]
 else if aL t (cX t A.cr B.cr)=0 then a6 [⟨t,[oO t (Eh t A.cr B.cr) A,oO t (Eh t A.cr B.cr) B],0⟩]
 else a6 []
def MR(t:aM)(A:Hd)(p q:Pt):bF (ai uU):=
 if A.v.sq=0 then bk
 else if aL t (lX t A.cr p q)=1 then a6 [⟨lT t A.cr p q,[oO (lT t A.cr p q) (cM (lT t A.cr p q) p (lG t A.cr p q) (lV p q)) A],1⟩,⟨lT t A.cr p q,[oO (lT t A.cr p q) (cM (lT t A.cr p q) p (lH t A.cr p q) (lV p q)) A],-1⟩]
 else if aL t (lX t A.cr p q)=0 then a6 [⟨t,[oO t (cM t p (lF t A.cr p q) (lV p q)) A],0⟩]
 else a6 []
def MI(t:aM)(x:Rp):bF (ai uU):=
 if aL t (x.d t)=0/\aL t x.h=0 then bk
 else if aL t (x.r t)=1 then a6 [⟨x.T t,[x.pl t (x.T t) (cg (y6 t))],1⟩,⟨x.T t,[x.pl t (x.T t) (wH (cg (y6 t)))],-1⟩]
 else if aL t (x.r t)=0 then a6 [⟨t,[x.pl t t []],0⟩]
 else a6 []
def Kv(l:Lk)(a:As)(g:Gp)(b:aw)(x:Tn):bF (ai uU):=a6 [⟨a.t,[E9 l a g b x.cos x.sin],1⟩]
def H0(l:Lk)(g:Gp)(a:As)(i:aw)(j:Jt):Rp:=⟨n8 (jX l g 0 i),il l g a 0 i,(n8 (dQ l i j.to)).sub (n8 (dQ l i j.on)),n8 (dQ l i j.on),kS l a j.a j.p⟩
noncomputable def iX(l:Lk)(a:As)(g:Gp)(x:Tn):bF (ai uU):=
 match g.kind,g.bs,g.js with
 |0,[b],_=>Kv l a g b x
 |1,[i,k],_=>yB a.t (AX l g a 0 i) (AX l g a 1 k)
 |2,[i],[_,c]=>MR a.t (Ku l a (i:=i) g (y7 l.js c bc)) (kS l a (y7 l.js c bc).b (y7 l.js c bc).on) (kS l a (y7 l.js c bc).b (y7 l.js c bc).to)
 |_,[i],[_,c]=>MI a.t (H0 l g a i (y7 l.js c bc))
 |_,_,_=>bk
structure ad1(r n δ k N D:aw)(n1 nd nS nX nW I nG nF nH nP nw nC:aw):Prop where
 e1:n1=n+r+r+2
 ed:nd=4*n1+3+tb δ k
 eS:nS=nd+2*(8*r+5)+2
 eX:nX=(8*r+5+nd+2*tb δ k+3)+(2*nS+tb δ k)+1
 eW:nW=nd+2+tb δ k
 eI:I=ib δ k nW
 eG:nG=nS+I+tb δ k
 eF:nF=nG+(2*n1+1)+tb δ k+n1+1
 eH:nH=I+tb (δ+nX) (k+1)
 eP:nP=nH+(2*n1+1)+tb (δ+nX) (k+1)+nF+1
 ew:nw=nP+n1+1
 eC:nC=nw+2*(2*r+1)+1+2*(4*(2*r+1)+1)
 sX:sb δ k nX<=NB
 sT:sb (δ+nX) (k+1) (δ+nX)<=NB
 tT:tb (δ+nX) (k+1)<=MB
 sW:sb (δ+nX) (k+1) nW<=NB
 iW:ib (δ+nX) (k+1) nW<=MB
 sB:sb (δ+nX) (k+1) (4*(2*r+1)+1)<=NB
 iB:ib (δ+nX) (k+1) (4*(2*r+1)+1)<=MB
 iB0:ib δ k (4*(2*r+1)+1)<=MB
 bN:nC+2*r+2+n1<=N
 bM:N<=MB
 bX:nX<=MB
 bD:δ+nX<=D
structure ahZ(r n δ k N D:aw)(n1 nQ nX I nP nw nC:aw):Prop where
 e1:n1=n+r+r+2
 eQ:nQ=4*n1+3+tb δ k
 eX:nX=(nQ+(8*r+5)+tb δ k)+(2*nQ+tb δ k)+1
 eI:I=ib δ k nQ
 eP:nP=nQ+1+I+tb (δ+nX) (k+1)+(2*n1+1)+tb (δ+nX) (k+1)+n1+1
 eP0:nQ+I+tb δ k+(2*n1+1)+tb δ k+n1+1<=nP
 ew:nw=nP+n1+1
 eC:nC=nw+2*(2*r+1)+1+2*(4*(2*r+1)+1)
 sX:sb δ k nX<=NB
 iQ0:ib δ k nQ<=MB
 sT:sb (δ+nX) (k+1) (δ+nX)<=NB
 tT:tb (δ+nX) (k+1)<=MB
 sQ:sb (δ+nX) (k+1) nQ<=NB
 iQ:ib (δ+nX) (k+1) nQ<=MB
 sB:sb (δ+nX) (k+1) (4*(2*r+1)+1)<=NB
 iB:ib (δ+nX) (k+1) (4*(2*r+1)+1)<=MB
 iB0:ib δ k (4*(2*r+1)+1)<=MB
 bN:nC+2*r+2+n1<=N
 bM:N<=MB
 bX:nX<=MB
 bD:δ+nX<=D
structure ahY(r n δ k N D:aw)(n1 nd nX I nz nz0 nC nC0:aw):Prop where
 e1:n1=n+r+r+2
 ed:nd=4*n1+3+tb δ k
 eX:nX=(8*r+5+nd+tb δ k)+(2*(8*r+5)+tb δ k)+1
 eI:I=ib δ k nd
 ez:nz=(2*n1+1+tb (δ+nX) (k+1))+(8*r+5+(2*n1+1)+tb (δ+nX) (k+1))+1+I+tb (δ+nX) (k+1)
 ez0:nz0=(2*n1+1+tb δ k)+(8*r+5+(2*n1+1)+tb δ k)+1+I+tb δ k
 eC:nC=nz+2*(2*r+1)+1+2*(4*(2*r+1)+1)
 eC0:nC0=nz0+2*(2*r+1)+1+2*(4*(2*r+1)+1)
 sX:sb δ k nX<=NB
 id0:ib δ k nd<=MB
 sT:sb (δ+nX) (k+1) (δ+nX)<=NB
 tT:tb (δ+nX) (k+1)<=MB
 sd:sb (δ+nX) (k+1) nd<=NB
 id1:ib (δ+nX) (k+1) nd<=MB
 sB:sb (δ+nX) (k+1) (4*(2*r+1)+1)<=NB
 iB:ib (δ+nX) (k+1) (4*(2*r+1)+1)<=MB
 iB0:ib δ k (4*(2*r+1)+1)<=MB
 bN:nC+2*r+2+n1<=N
 bN0:nC0+2*r+2+n1<=N
 bM:N<=MB
 bX:nX<=MB
 bD:δ+nX<=D
structure Q7(N D:aw)(t:aM)(s:uU):Prop where
 tow:s.T=t\/∃d,s.T=mK t d
 ok:j7 s.T
 bt:yx D s.T
 ps:∀b∈s.ps,z5 N s.T b
end Tw
namespace fb
def yx.mono{δ η:aw}{t:aM}(h:yx δ t)(a:δ<=η):yx η t:=by obtain⟨D,B,a1,d,c,b⟩:=h;exact⟨D,B,a1,apm d (iZ a),apm c (iZ a),b⟩
end fb
namespace Tw
open fb
variable {G:bn->Prop} {t T:aM} {δ η:aw}
variable {H:Hd} {M:Pt} (a:aa G)
def xB(j:dn η T){r d e b f N:aw}(c:Ol r d T H)(h:H.v.sq≠0)(g:mR e T M)(q:b=e+d+1)(n:f=b+2*(2*r+1)+1+2*(4*(2*r+1)+1))(o:f+2*r+2+d<=N)(s:N<=MB)
  (hs:sb η (y6 T) (4*(2*r+1)+1)<=NB) (i:ib η (y6 T) (4*(2*r+1)+1)<=MB):Bdy G η T M H/\z5 N T (oO T M H):=by
 have p:MB<=NB:=z8;have hw:mR b T (kv M H.o):=(Ab g c.o).mono za;obtain⟨m,l⟩:=N5 a j c.v c.p h hw c.o n rfl za hs i;exact⟨⟨g.ok za,c.o.ok za,c.c.fit za,c.p.fit za,m⟩,z5.mono l o⟩
def CM{t:aM}{a:ai cl}(b:aL t a≠1)(c:aL t a≠0):aL t a= -1:=by have:=(jG t (y6 t) a);unfold aL at b c⊢;omega
def Eo{t:aM}{a:ai cl}(h:aL t a=1):0<=aL t a:=by rw[h];decide
def QC{a b:Cr}(c:oY δ t)(m:jD t (cV a b))(j:aL t (cD t a b)≠0):aL t (cD t a b)=1:=by
 obtain⟨K,_,ι,s,g⟩:=c.ok.model (y6 t) (apc _);have f:=m.1.sh;have d:=m.2.sh;have e:vl ι s t (cD t a b)=vl ι s t (cV a b).1*vl ι s t (cV a b).1+vl ι s t (cV a b).2*vl ι s t (cV a b).2:=by unfold cD vP;rw[qD ι s (Sh.mul c.ok.sh f f) (Sh.mul c.ok.sh d d),cZ ι s c.ok.sh g f f,cZ ι s c.ok.sh g d d]
 have n:Sh (y6 t) (cD t a b):=(Sh.mul c.ok.sh f f).add (Sh.mul c.ok.sh d d);rw[ku ι s c.ok.sh g n]at j⊢;rcases dH.Sy (dH.rN (vl ι s t (cV a b).1)) (dH.rN (vl ι s t (cV a b).2))with h|h
 rw[e];exact dH.sG h;rw[e,h]at j;exact api dH.iU j
section
variable (l:Lk) (a:As) {kd i k j0 j1 j2 dr:aw}
def Ww(c:aa G)(d:dn δ a.t)(hl:y6 a.t<=3){B:Hd}{r n N D P nd nS M nW I nG nF nH nP nw nC:aw}(F:ad1 r n δ (y6 a.t) N D P nd nS M nW I nG nF nH nP nw nC)
  (g:Ol r P a.t H) (p:Ol r P a.t B) (q:iy zZq G f196 [y0 0 0] (kQ l ⟨kd,[i,k],[j0,j1,j2],dr⟩ a) (.aP [TU H,TU B]) (kQ l ⟨kd,[i,k],[j0,j1,j2],dr⟩ a)):
  iy zZq G f150 [y0 0 0] (kQ l ⟨kd,[i,k],[j0,j1,j2],dr⟩ a) (OM (yB a.t H B)) (kQ l ⟨kd,[i,k],[j0,j1,j2],dr⟩ a)/\∀ss,yB a.t H B=a6 ss->∀s∈ss,Q7 N D a.t s:=by
 have hN:MB<=NB:=z8;have bN:=F.bN;have bM:=F.bM;have bX:=F.bX;have eC:=F.eC;have ew:=F.ew;have eP:=F.eP;have e1:=F.e1;have ed:=F.ed;have eS:=F.eS;have eX:=F.eX;have eF:=F.eF;have eG:=F.eG;have a1:=g.c.fit (show r<=NB by omega);have y:=g.p.fit (show r<=NB by omega);have x:=g.v.ZG (show(2*r+1)+(2*r+1)+((2*r+1)+(2*r+1))+1<=NB by omega);have w:=p.c.fit (show r<=NB by omega);have v:=p.p.fit (show r<=NB by omega);have E:=p.v.ZG (show(2*r+1)+(2*r+1)+((2*r+1)+(2*r+1))+1<=NB by omega);have A:δ<=NB:=apm (sV _ _ _) d.b.sz;unfold yB;by_cases S:H.v.sq=0\/B.v.sq=0;rw[aph S];refine⟨?_,λss h=>by cases h⟩;by_cases u:H.v.sq=0;exact OW l a c q a1 y w v (VW c x (by rw[u];decide));exact OW l a c q a1 y w v (VV c x (V2.sq_pos u) E (by rw[S.resolve_left u];decide));rw[ape S];have nA:H.v.sq≠0:=λh=>S (y1 h)
 have O:B.v.sq≠0:=λh=>S (y2 h)
 have a4:=V2.sq_pos nA;have Z:=V2.sq_pos O;obtain⟨pre,sz⟩:=adq d g p F.ed F.eS F.eX F.bX F.sX;have Y:=g.cr d.b.ok nA (m:=M) za za F.bX F.sX;have X:=p.cr d.b.ok O (m:=M) za za F.bX F.sX;have C:=tV c d.b A za;by_cases d0:aL a.t (cD a.t H.cr B.cr)=0;rw[aph d0];have ss:Ck δ a.t (g8 H.cr.r B.cr.r):=.of (aH.sub (g.rho.num a.t) (p.rho.num a.t)) za F.sX;by_cases s0:aL a.t (g8 H.cr.r B.cr.r)=0;rw[aph s0];exact⟨Z7 l a c q a1 y x a4 w v E Z (Yf c d Y X pre d0 ss s0),λss h=>by cases h⟩;rw[ape s0];refine⟨?_,λss h=>by cases h;intro s o;cases o⟩;have U5:aL a.t (g8 H.cr.r B.cr.r)=1\/aL a.t (g8 H.cr.r B.cr.r)= -1:=by by_cases h1:aL a.t (g8 H.cr.r B.cr.r)=1;exact y1 h1;exact y2 (CM h1 s0)
 exact MG l a c q a1 y x a4 w v E Z (Tv c d Y X pre C.1 d0 U5 ss rfl) (Pd c d C.2);rw[ape d0];have d1:=QC d.b pre.v d0;have eI:=F.eI;have sW:sb δ (y6 a.t) nW<=NB:=apm (pJ _ _ (by have:=F.eW;omega)) F.sX;obtain⟨ft,kF,kW,w0,kI⟩:=Yh d g.o sz d0 F.eW F.eI F.eG F.eF sW za;by_cases z:aL a.t (cX a.t H.cr B.cr)=1;rw[aph z];have f:dn (δ+M) (cT a.t H.cr B.cr):=Z4 d sz.x (Eo z) za F.sT F.tT;have eL:y6 (cT a.t H.cr B.cr)=y6 a.t+1:=bW _;have G7:δ+M<=NB:=apm (sV _ _ _) F.sT;obtain⟨tw,k1,k2⟩:=QO d sz f kF kW w0 F.eI F.eH F.eP F.sW F.iW za;have L:=tV c f.b G7 (by rw[eL];omega);have ex:=NG c d A sz.x F.bX F.sX (Eo z) hl;have W:Ol r P (cT a.t H.cr B.cr) H:=g.up _;have V:Ol r P (cT a.t H.cr B.cr) B:=p.up _;have j:=F.sB;have R:=F.iB;rw[<-eL]at j R;have K:=xB c f W nA k1 F.ew F.eC F.bN F.bM j R;have J:=xB c f V O k1 F.ew F.eC F.bN F.bM j R;have p3:=xB c f W nA k2 F.ew F.eC F.bN F.bM j R;have p4:=xB c f V O k2 F.ew F.eC F.bN F.bM j R;refine⟨MG l a c q a1 y x a4 w v E Z (adp c d Y X pre L.1 ft f tw ex d1 z) (aaC c f L.2 K.1 J.1 p3.1 p4.1),λss h=>?_⟩;cases h;intro s o;obtain rfl|rfl:=vJ o
 exact⟨y2 ⟨_,rfl⟩,f.b.ok,f.b.bt.mono F.bD,λb U=>(vJ U).elim (λe=>e▸K.2) (λe=>e▸J.2)⟩;exact⟨y2 ⟨_,rfl⟩,f.b.ok,f.b.bt.mono F.bD,λb U=>(vJ U).elim (λe=>e▸p3.2) (λe=>e▸p4.2)⟩;rw[ape z];by_cases x0:aL a.t (cX a.t H.cr B.cr)=0;rw[aph x0];have j:sb δ (y6 a.t) (4*(2*r+1)+1)<=NB:=apm (pJ _ _ za) F.sX;have Q:mR nP a.t (Eh a.t H.cr B.cr):=kF.mono za;have K:=xB c d g nA Q F.ew F.eC F.bN F.bM j F.iB0;have J:=xB c d p O Q F.ew F.eC F.bN F.bM j F.iB0;refine⟨MG l a c q a1 y x a4 w v E Z (adr c d Y X pre C.1 ft d1 x0) (aaE c d C.2 K.1 J.1),λss h=>?_⟩;cases h;intro s o;rw[apg]at o;subst o;exact⟨y1 rfl,d.b.ok,d.b.bt.mono (by have:=F.bD;omega),λb U=>(vJ U).elim (λe=>e▸K.2) (λe=>e▸J.2)⟩;rw[ape x0];refine⟨MG l a c q a1 y x a4 w v E Z (Yg c d Y X pre C.1 d1 (CM z x0)) (Pd c d C.2),λss h=>?_⟩;cases h;intro s o;cases o
end
section
variable (l:Lk) (a:As) {kd i j0 j1 dr:aw}
variable {O:Pt}
def aaw(c:aa G)(d:dn δ a.t)(Z:y6 a.t<=3){r n N D x V E I W U X:aw}(F:ahZ r n δ (y6 a.t) N D x V E I W U X)
  (g:Ol r x a.t H) (q:mR x a.t M) (Y:mR x a.t O) (K:aL a.t (lQ a.t M O)=1)
  (B:iy zZq G f202 [y0 0 0] (kQ l ⟨kd,[i],[j0,j1],dr⟩ a) (.aP [TU H,mg M,mg O]) (kQ l ⟨kd,[i],[j0,j1],dr⟩ a)):
  iy zZq G f151 [y0 0 0] (kQ l ⟨kd,[i],[j0,j1],dr⟩ a) (OM (MR a.t H M O)) (kQ l ⟨kd,[i],[j0,j1],dr⟩ a)/\∀ss,MR a.t H M O=a6 ss->∀s∈ss,Q7 N D a.t s:=by
 have hN:MB<=NB:=z8;have bN:=F.bN;have bM:=F.bM;have bX:=F.bX;have eC:=F.eC;have ew:=F.ew;have eP:=F.eP;have e1:=F.e1;have eQ:=F.eQ;have eX:=F.eX;have a1:=g.c.fit (show r<=NB by omega);have J:=g.p.fit (show r<=NB by omega);have p:=g.v.ZG (show(2*r+1)+(2*r+1)+((2*r+1)+(2*r+1))+1<=NB by omega);have o:δ<=NB:=apm (sV _ _ _) d.b.sz;unfold MR;by_cases f:H.v.sq=0;rw[aph f];exact⟨aft l a c B a1 J p (by rw[f];decide),λss h=>by cases h⟩;rw[ape f];have P:=V2.sq_pos f;obtain⟨pre,sz⟩:=abK c d g q Y K F.eQ F.eX F.bX F.sX F.iQ0;have A:=g.cr d.b.ok f (m:=E) za za F.bX F.sX;have C:=tV c d.b o za;by_cases j:aL a.t (lX a.t H.cr M O)=1;rw[aph j];have e:dn (δ+E) (lT a.t H.cr M O):=Z4 d sz.bx (Eo j) za F.sT F.tT;have R:y6 (lT a.t H.cr M O)=y6 a.t+1:=bW _;have G7:δ+E<=NB:=apm (sV _ _ _) F.sT;obtain⟨S,k1,k2⟩:=PQ d q sz K e F.eI F.eP F.sQ F.iQ za;have w:=tV c e.b G7 (by rw[R];omega);have ex:=NG c d o sz.bx F.bX F.sX (Eo j) Z;have z:Ol r x (lT a.t H.cr M O) H:=g.up _;have u:=F.sB;have L:=F.iB;rw[<-R]at u L;have v:=xB c e z f k1 F.ew F.eC F.bN F.bM u L;have Q:=xB c e z f k2 F.ew F.eC F.bN F.bM u L;refine⟨aax l a c B a1 J p P (abJ c d A pre w.1 e S ex j) (aaD c e w.2 v.1 Q.1),λss h=>?_⟩;cases h;intro s k;obtain rfl|rfl:=vJ k
 exact⟨y2 ⟨_,rfl⟩,e.b.ok,e.b.bt.mono F.bD,λb y=>(apg.1 y)▸v.2⟩;exact⟨y2 ⟨_,rfl⟩,e.b.ok,e.b.bt.mono F.bD,λb y=>(apg.1 y)▸Q.2⟩;rw[ape j];by_cases x0:aL a.t (lX a.t H.cr M O)=0;rw[aph x0];have u:sb δ (y6 a.t) (4*(2*r+1)+1)<=NB:=apm (pJ _ _ za) F.sX;obtain⟨ft,k1⟩:=Xi d q sz K F.eI rfl (apm F.eP0 za);have v:=xB c d g f (k1.mono F.eP0) F.ew F.eC F.bN F.bM u F.iB0;refine⟨aax l a c B a1 J p P (abL c d A pre C.1 ft x0) (aaF c d C.2 v.1),λss h=>?_⟩;cases h;intro s k;rw[apg]at k;subst k;exact⟨y1 rfl,d.b.ok,d.b.bt.mono (by have:=F.bD;omega),λb y=>(apg.1 y)▸v.2⟩;rw[ape x0];refine⟨aax l a c B a1 J p P (Xh c d A pre C.1 (CM j x0)) (aaG c d C.2),λss h=>?_⟩;cases h;intro s k;cases k
def Z8(d:aa G)(c:dn δ a.t)(hl:y6 a.t<=3){j:Jt}(J:y7 l.js j1 bc=j)(R:j1<y6 l.js){x:Rp}{r n N D Z nd X I B W nC Y:aw}(F:ahY r n δ (y6 a.t) N D Z nd X I B W nC Y)
  (H:RpB r Z a.t x (n8 (dQ l i j.to))) (B:x.v.sq≠0)
  (A:iy zZq G f192 [y0 0 0,nat 0,nat i] (kQ l ⟨kd,[i],[j0,j1],dr⟩ a) (.aP [x.p.Cd,mg x.o]) (kQ l ⟨kd,[i],[j0,j1],dr⟩ a)) (L:x.f=n8 (dQ l i j.on)) (E:x.q=kS l a j.a j.p) (f1:tB l i j.on) (f2:tB l i j.to) (y:tB l j.a j.p) (w:j.a<y6 a.bs) (v:Rd G l a j.a j.p):
  iy zZq G f152 [y0 0 0] (kQ l ⟨kd,[i],[j0,j1],dr⟩ a) (OM (MI a.t x)) (kQ l ⟨kd,[i],[j0,j1],dr⟩ a)/\∀ss,MI a.t x=a6 ss->∀s∈ss,Q7 N D a.t s:=by
 have hN:MB<=NB:=z8;have bN:=F.bN;have bN0:=F.bN0;have bM:=F.bM;have bX:=F.bX;have eC:=F.eC;have eC0:=F.eC0;have e1:=F.e1;have ed:=F.ed;have eX:=F.eX;have ez:=F.ez;have ez0:=F.ez0;have q:δ<=NB:=apm (sV _ _ _) c.b.sz;obtain⟨pre,sz⟩:=aiE d c H F.ed F.eX F.bX F.sX;have hcr:aL a.t (x.d a.t)=0->aL a.t x.h≠0->aL a.t (x.r a.t)= -1:=λU S=>by
  obtain⟨K,_,ι,s,P⟩:=c.b.ok.model (y6 a.t) (apc _);have m:=c.b.ok.sh;rw[ku ι s m P sz.bd.sh,dH.oL]at U;rw[ku ι s m P sz.bh.sh]at S;have hn:=pre.n.sh;have e:vl ι s a.t (x.r a.t)= -(vl ι s a.t x.h*vl ι s a.t x.h):=by
   unfold Rp.r;rw[dU ι s (Sh.mul m hn sz.bd.sh) (Sh.mul m sz.bh.sh sz.bh.sh),cZ ι s m P hn sz.bd.sh,cZ ι s m P sz.bh.sh sz.bh.sh,U,zY.bB,zY.sub_def',zY.iD]
  rw[ku ι s m P sz.bx.sh,e];refine dH.yO ?_;rw[zY.IA];exact dH.sq_pos λhh=>S (by rw[hh];exact dH.iU)
 unfold MI;by_cases C:aL a.t (x.d a.t)=0/\aL a.t x.h=0
 ·rw[aph C]
  exact⟨(HZ l a d J R c A L E f1 f2 y w v pre).1 trivial C.1 C.2,λss h=>by cases h⟩
 ·rw[ape C]
  by_cases d0:aL a.t (x.d a.t)=0
  ·have U:aL a.t x.h≠0:=λh=>C ⟨d0,h⟩
   have hr:=hcr d0 U;rw[ape (by rw[hr];decide),ape (by rw[hr];decide)]
   refine⟨((HZ l a d J R c A L E f1 f2 y w v pre).2.2.1 hr d0 ?_).loose rfl,λss h=>?_⟩
   ·by_cases S:aL a.t x.h=1
    ·exact y1 S
    ·exact y2 (CM S U)
   ·cases h
    intro s g;cases g
  ·have d1:aL a.t (x.d a.t)=1:=QC (a:=⟨x.o,[]⟩) (b:=⟨x.q,[]⟩) c.b pre.w d0
   have ow:=tV d c.b q za
   have hI0:aH I a.t (jq a.t (y6 a.t) (x.d a.t)):=by rw[F.eI];exact sz.bd.inv c.b d0
   by_cases p:aL a.t (x.r a.t)=1
   ·rw[aph p]
    have f:dn (δ+X) (x.T a.t):=Z4 c sz.bx (Eo p) za F.sT F.tT
    have eL:y6 (x.T a.t)=y6 a.t+1:=bW _;have G7:δ+X<=NB:=apm (sV _ _ _) F.sT;have V:=tV d f.b G7 (by rw[eL];omega)
    have ex:=NG d c q sz.bx F.bX F.sX (Eo p) hl;have H2:RpB r Z (x.T a.t) x (n8 (dQ l i j.to)):=⟨H.bp,H.bf,H.bt,H.hv,H.bo.up (x.r a.t),H.bq.up (x.r a.t)⟩;have Q:aH I (x.T a.t) (jq (x.T a.t) (x.T a.t).length (x.d a.t)):=by rw[F.eI];exact SV c.b sz.bd d0 _
    have M:aL (x.T a.t) (x.d a.t)≠0:=by
     show aL (a.t++[aZ (x.r a.t) (2^y6 a.t)]) (x.d a.t)≠0;rw[RM sz.bd.sh c.b.ok.sh];exact d0
    have kr:aH 0 (x.T a.t) (cg (y6 a.t)):=iO (x.r a.t);have u:=F.sB;have iB:=F.iB;have k:=F.sd;have o:=F.id1;rw[<-eL]at u iB k o ez;have z:=Z9 (t:=a.t) d f H2 B (sz.bw.up (x.r a.t)) (sz.bd.up (x.r a.t)) (sz.bh.up (x.r a.t)) kr Q M k o ez F.eC rfl za u iB
    have p2:=Z9 (t:=a.t) d f H2 B (sz.bw.up (x.r a.t)) (sz.bd.up (x.r a.t)) (sz.bh.up (x.r a.t)) kr.neg Q M k o ez F.eC rfl za u iB
    refine⟨(HZ l a d J R c A L E f1 f2 y w v pre).2.2.2.2 _ f V.2 (kr.mono za) z.1 p2.1 ex p d1,λss h=>?_⟩
    cases h;intro s g;obtain rfl|rfl:=vJ g
    ·exact⟨y2 ⟨_,rfl⟩,f.b.ok,f.b.bt.mono F.bD,λb O=>(apg.1 O)▸z.2.mono F.bN⟩
    ·exact⟨y2 ⟨_,rfl⟩,f.b.ok,f.b.bt.mono F.bD,λb O=>(apg.1 O)▸p2.2.mono F.bN⟩
   ·rw[ape p]
    by_cases x0:aL a.t (x.r a.t)=0
    ·rw[aph x0]
     have u:sb δ (y6 a.t) (4*(2*r+1)+1)<=NB:=apm (pJ _ _ za) F.sX
     have z:=Z9 (t:=a.t) d c H B sz.bw sz.bd sz.bh (aH.nil 0 _) hI0 d0 (apm (pJ _ _ za) F.sX) F.id0 F.ez0 F.eC0 rfl za u F.iB0
     refine⟨(HZ l a d J R c A L E f1 f2 y w v pre).2.2.2.1 ow.2 z.1 x0 d1,λss h=>?_⟩
     cases h;intro s g;rw[apg]at g;subst g;exact⟨y1 rfl,c.b.ok,c.b.bt.mono (by have:=F.bD;omega),λb O=>(apg.1 O)▸z.2.mono F.bN0⟩
    ·rw[ape x0]
     refine⟨((HZ l a d J R c A L E f1 f2 y w v pre).2.1 (CM p x0) d1).loose rfl,λss h=>?_⟩
     cases h;intro s g;cases g
def Tn.szs{r:aw}{x:Tn}(h:iC r x.t):iC (4*r+4) x.cos/\iC (4*r+4) x.sin/\(x.den≠0->4*r+4<=NB->(x.half=bj->x.t=0)->agR x):=by
 have o1:iC 0 ((1:cA):cl):=iC.int (m:=0) 1 zv;have c:iC (r+r) (x.t*x.t):=h.mul h;have e:iC (2*r+1) x.den:=(o1.add c).mono za;have d:iC (2*r+1) (((1:cA):cl)-x.t*x.t):=(o1.sub c).mono za;have hm:iC (2*r+1) (x.t+x.t):=(h.add h).mono za;have f:∀{p:cl},iC (2*r+1) p->iC (4*r+4) (p/x.den):=λ{p} g=>by by_cases b:x.den=0;rw[b,asi,asW,asX];exact iC.zero _;rw[asi];exact(g.mul (e.inv b)).mono za
 refine⟨?_,?_,λb k j=>⟨h.qk za,j,c.qk za,e.qk za,b,d.qk za,hm.qk za⟩⟩;unfold Tn.cos;split;exact(iC.int (m:=0) (-1) zv).mono za;exact f d;unfold Tn.sin;split;exact iC.zero _;exact f hm
def Tn.Ff(x:Tn):x.den≠0:=by intro h;have d:dH.nn (x.t*x.t):=dH.rN x.t;have c:dH.pos (((1:cA):cl)):=dH.j_;have b:=dH.BL c d;have e:((1:cA):cl)+x.t*x.t=0:=h;rw[e]at b;exact dH.lO b
structure aeh(r n δ k N:aw):Prop where
 sB:sb δ k 1<=NB
 iB:ib δ k 1<=MB
 bN:8*r+8+1+2+2*r+2+(n+r+r+2)<=N
 bM:N<=MB
def XS(f:aa G)(c:dn δ a.t)(y:y6 a.t<=4){b j d r n N D:aw}{x:Tn}(u:iC r x.t)(z:x.half=bj->x.t=0)(F:aeh r n δ (y6 a.t) N)(B:δ<=D)(v:V2.B r (n8 (jX l ⟨kd,[b],[j],d⟩ 0 b)))(w:mR (n+r+r+2) a.t (il l ⟨kd,[b],[j],d⟩ a 0 b))
  (p:iy zZq G f192 [y0 0 0,nat 0,nat b] (kQ l ⟨kd,[b],[j],d⟩ a) (.aP [(n8 (jX l ⟨kd,[b],[j],d⟩ 0 b)).Cd,mg (il l ⟨kd,[b],[j],d⟩ a 0 b)]) (kQ l ⟨kd,[b],[j],d⟩ a)):
  iy zZq G f149 [y0 0 0,J5 x] (kQ l ⟨kd,[b],[j],d⟩ a) (OM (Kv l a ⟨kd,[b],[j],d⟩ b x)) (kQ l ⟨kd,[b],[j],d⟩ a)/\∀ss,Kv l a ⟨kd,[b],[j],d⟩ b x=a6 ss->∀s∈ss,Q7 N D a.t s:=by
 have H:MB<=NB:=z8;have I:=F.bN;have J:=F.bM;obtain⟨k,e,q⟩:=Tn.szs u;have ok:=q x.Ff za z;have g:δ<=NB:=apm (sV _ _ _) c.b.sz;have hu:V2.B 0 ⟨((1:cA):cl),0⟩:=⟨iC.int (m:=0) 1 zv,iC.zero 0⟩;have o:V2.sq ⟨((1:cA):cl),0⟩≠0:=z2
 obtain⟨C,bl⟩:=N5 f c hu v o (k.pt e a.t) w rfl rfl za F.sB F.iB;have E:z5 N a.t (E9 l a ⟨kd,[b],[j],d⟩ b x.cos x.sin):=z5.mono bl za;refine⟨(acZ f l a c (k.qk za) (e.qk za) (ao_ f ok) (ao9 f ok) p C (tV f c.b g y).2).loose rfl,λss h=>?_⟩;cases h;intro s e;rw[apg]at e;subst e;exact⟨y1 rfl,c.b.ok,c.b.bt.mono B,λb A=>(apg.1 A)▸E⟩
end
end Tw
namespace Fb
open Gr Tw
variable {G:bn->Prop}
def Xb:D:=str [102,111,117,114,98,97,114]
def Xc:ai D:=[str [102,114,97,109,101],yI 2 aj [str [79],bool aj,yI 0 aj [],yI 0 aj [],bool aj,yI 0 aj [],yI 0 aj [],str [81],bool aj,xp 4,xp 1,bool aj,yI 0 aj [],yI 0 aj []],str [99,114,97,110,107],yI 2 aj [str [79],bool aj,yI 0 aj [],yI 0 aj [],bool aj,yI 0 aj [],yI 0 aj [],str [65],bool aj,xp 1,xp 1,bool aj,yI 0 aj [],yI 0 aj []],str [99,111,117,112,108,101,114],yI 3 aj [str [65],bool aj,yI 0 aj [],yI 0 aj [],bool aj,yI 0 aj [],yI 0 aj [],str [66],bool aj,xp 3,xp 1,bool aj,yI 0 aj [],yI 0 aj [],str [80],bool aj,yI 0 aj [],yI 0 aj [],bool aj,yI 0 aj [],yI 0 aj []],str [114,111,99,107,101,114],yI 2 aj [str [81],bool aj,yI 0 aj [],yI 0 aj [],bool aj,yI 0 aj [],yI 0 aj [],str [66],bool aj,xp 3,xp 1,bool aj,yI 0 aj [],yI 0 aj []]]
def ajB:ai D:=[str [111],nat 0,nat 1,nat 0,nat 0,nat 0,nat 0,str [97],nat 0,nat 2,nat 0,nat 1,nat 1,nat 0,str [98],nat 0,nat 3,nat 1,nat 2,nat 1,nat 0,str [113],nat 0,nat 3,nat 0,nat 0,nat 1,nat 0]
def ajD:ai D:=[str [100],nat 1]
def lk:D:=y4 [Xb,yI 4 aj Xc,yI 4 aj ajB,yI 1 aj ajD]
variable (a:aa G)
def W_(s:cB)(c b:b5)(m n p q:ai aw):xf G 73 [yT (.string s),qd c m n,qd b p q] (y4 [yT (.string s),bool c,ak m,ak n,bool b,ak p,ak q]):=
 Spec.r a func73 [] []
def IF(a:aa G)(s:ai aw)(n m:ai aw):Ent zZq G:=⟨73,[str s,qd aj n m,qd aj [] []],_,W_ a ⟨(s.map UInt8.ofNat).toArray⟩ aj aj n m [] []⟩
def q0:ai D:=[bool aj,ak [],ak []]
def qn(n:aw):ai D:=[bool aj,ak [n],ak [1]]
def Xe(a:aa G):xf G 29 [y4 (qn 4++qn 1++qn 3++qn 3++q0++q0)] lk:=
 Spec.ke a (oV a [IF a [79] [] [],IF a [81] [4] [1],IF a [65] [1] [1],IF a [65] [] [],IF a [66] [3] [1],IF a [80] [] [],IF a [81] [] []]) func29 (ro:=[]) (m:=60) []
def aml:xf G 156 [nat 0,nat 2] (bool bj):=Spec.r a func156 [] []
def amj:xf G 156 [nat 1,nat 2] (bool bj):=Spec.r a func156 [] []
def amk:xf G 156 [nat 0,nat 3] (bool bj):=Spec.r a func156 [] []
def ami:xf G 156 [nat 1,nat 3] (bool bj):=Spec.r a func156 [] []
def QP(a:aa G):xf G 37 [lk] xc:=
 Spec.ke a (oV a [⟨_,_,_,aml a⟩,⟨_,_,_,amj a⟩,⟨_,_,_,amk a⟩,⟨_,_,_,ami a⟩]) func37 (ro:=[]) (m:=60) []
def T:D:=bool bj
def Fa:D:=bool aj
def ahO(known b used:ai D)(c:aw)(a:ai D):ai D:=[yI 4 aj ajB,yI 1 aj ajD,yI 4 aj known,yI 4 aj b,yI 4 aj used,yI c aj a]
def g0c:ai D:=[nat 0,yI 1 aj [nat 1],yI 1 aj [nat 0],nat 0]
def g1c:ai D:=[nat 1,yI 2 aj [nat 2,nat 3],yI 3 aj [nat 1,nat 3,nat 2],nat 0]
def alD:ai D:=[yI 4 aj ajB,yI 1 aj ajD,yI 4 aj [T,Fa,Fa,Fa],yI 4 aj [Fa,T,Fa,Fa],yI 4 aj [Fa,Fa,Fa,Fa],yI 0 bj []]
def ahn:ai D:=ahO [T,T,Fa,Fa] [Fa,T,Fa,Fa] [T,Fa,Fa,Fa] 1 g0c
def ahm:ai D:=ahO [T,T,T,T] [Fa,T,Fa,Fa] [T,T,T,T] 2 (g0c++g1c)
def aow:D:=jO Xb 4 Xc alD
def acT:D:=jO Xb 4 Xc ahn
def amT:D:=jO Xb 4 Xc ahm
def roJ:c7->ai aw:=λf=>if f=295 then [5,6,7]else if f=113 then [32]else []
def an1:xf G 293 [aow,nat 0,nat 1] (int 0):=Spec.ke a (oV a [] [] roJ) func293 (ro:=[]) (m:=60) []
def an2:xf G 293 [acT,nat 0,nat 2] (int 1):=Spec.ke a (oV a [] [] roJ) func293 (ro:=[]) (m:=60) []
def an3:xf G 293 [acT,nat 0,nat 3] (int 3):=Spec.ke a (oV a [] [] roJ) func293 (ro:=[]) (m:=60) []
def jn2:xf G 295 [acT,nat 0,nat 2,.fn 296 [] [.aJ [nat 3]]] (int 2):=Spec.ke a (oV a [] [] roJ) func295 (ro:=[5,6,7]) (m:=60) []
def Qq(i:aw):b5:=decide (2<=i)
def fr2(i:aw)(b:i<4):xf G 297 [acT,nat i] (bool (Qq i)):=by
 have:i=0\/i=1\/i=2\/i=3:=za
 obtain rfl|rfl|rfl|rfl:=this
 exact Spec.r a func297 [] [];exact Spec.r a func297 [] [];exact Spec.r a func297 [] [];exact Spec.r a func297 [] []
def fr3(i:aw)(b:i<4):xf G 297 [amT,nat i] (bool aj):=by
 have:i=0\/i=1\/i=2\/i=3:=za
 obtain rfl|rfl|rfl|rfl:=this
 exact Spec.r a func297 [] [];exact Spec.r a func297 [] [];exact Spec.r a func297 [] [];exact Spec.r a func297 [] []
def an(i:aw):cA:=if i=2 then 1 else 3
def pa2(b:aa G):iS zZq G 239 [acT] (.aP [y4 g1c,bool bj]):=by
 refine BR (nm:=Xb) (bs:=Xc) (rest:=ahn) (an:=an) (jn:=λ_ _=>2) (free:=Qq) b za (fr2 b) (λi c a=>?_) (λi j d e c a=>?_) (λh=>?_) λi j d e c a g f=>?_
 ·have:i=2\/i=3:=by simp only[Qq,cm]at a;omega
  obtain rfl|rfl:=this
  ·exact an2 b
  ·exact an3 b
 ·obtain⟨rfl,rfl⟩:i=2/\j=3:=by simp only[Qq,cm]at a c;omega
  exact jn2 b
 ·exact api (h (2,3) zv) zv
 ·obtain⟨rfl,rfl⟩:i=2/\j=3:=by simp only[Qq,cm]at a c;omega
  rfl
def pa3(c:aa G):iS zZq G 239 [amT] ahN:=by refine BR (nm:=Xb) (bs:=Xc) (rest:=ahm) (an:=an) (jn:=λ_ _=>2) (free:=λ_=>aj) c za (fr3 c) (λi b a=>by cases a) (λi j d e b a=>by cases a) (λh=>rfl) λi j d e b a g f=>by cases a
def gs:D:=yI 2 aj (g0c++g1c)
def ZH(a:aa G):xf G 47 [lk] (.aP [gs,xc]):=
 Spec.ke a (oV a [⟨_,_,_,QP a⟩,⟨_,_,_,an1 a⟩] [⟨_,_,_,pa2 a⟩,⟨_,_,_,pa3 a⟩] roJ) func47 (ro:=[]) (m:=60) []
end Fb
open Go Go.RowKit
def Z3(P:cp){Good:bn->Prop}(ro:ai aw)(m:aw)(fn:kf)(args:ai D)(b:ai (Item P Good)):bF (D×ai (Item P Good)×ai (cY×cY)):=
 match fn.body with
 |some k=>if hM (y6 args) fn.ntmps then
   match mX P m ro 0 k (dA fn.ntmps args []) b with
   |some (y3,s,tr',eqs)|some (.ret,s,tr',eqs)=>match gw P s fn.results.toList with
    |some a=>if a.all (λd=>d.refs.isEmpty)then a6 (o9 a,tr',eqs)else bk
    |none=>bk
   |_=>bk
  else bk
 |none=>bk
def Spec.wD(T:aa Good){f:c7}{fn:kf}(Z:P.funcs[f]? =a6 fn){ro:ai aw}{m:aw}{args:ai D}{r:D}(I J:ai (Item P Good)){eqs:ai (cY×cY)}(LF:jU eqs)
  (h:Z3 P ro m fn args I=a6 (r,J,eqs)):Spec P Good f args r:=by
 intro w F y S A E;unfold Z3 at h;split at h;rename_i k M;split at h;rename_i hle;rw[aqB]at hle;have key:∀e s,mX P m ro 0 k (dA fn.ntmps args []) I=a6 (e,s,J,eqs)->(e=.normal\/e=.ret)->(∃g,gw P s fn.results.toList=a6 g/\g.all (λd=>d.refs.isEmpty)=bj/\o9 g=r)->
   vx P f y.toArray w λe q=>∃v,e=.returned v/\b9 q F v r/\Below w.heap.size w q/\Good q:=by
  intro e s x he Nr;obtain⟨g,B,j,rfl⟩:=Nr;have Y:=iK T m ro 0 k _ I e s J _ x LF;have hlen:=o5 (blks:=[]) (ns:=[]) hle;refine(n2 (n:=0)).1 (oi Z M trivial ?_);show Code.wpIn (Fw bk) 0 _ _ _ _ _
  let c:Ctx:=⟨P,Good,F,w,[],0,bk,[],λ_=>bk,0,λ_=>bk,λ_=>False⟩
  have K:∀b,(dA fn.ntmps args []).fs.blk b=bk:=λb=>by simp[dA,St.fs]
  refine Y.2 c _ _ w rfl rfl S (apc _) ⟨λ_=>0,F,rfl,?_,λt=>?_,?_,λb cs l=>?_,λb cs l=>?_,λb b' l=>?_,λ_ h=>h,E,E,⟨Below.refl _ _,λk o M=>(by cases M),apJ _⟩,λp L=>?_,λp L=>?_,ou.none rfl rfl⟩ λU q aF=>?_
  rw[hlen];have:=A.1;simp;omega;exact qE (Q':=λv d=>bU (λ_=>0) w F v d) A.1 hle (λi O N=>.c (.p (A.2 i O N))) (.c (.p (.lit _))) (.c (.p (.any _))) t;refine qG λd hd b l=>?_
  obtain⟨i,C,rfl⟩:=apF.1 hd;rw[eV (A.2 i (by rw[A.1];exact C) C)]at l;cases l;rw[K]at l;cases l;rw[K]at l;cases l;rw[K]at l;cases l;cases L;cases L;obtain⟨β,X,z⟩:=aF;obtain⟨H,O,N,h3,h4⟩:=kV (q:=c) z B;have ff:aR q F H g:=by
   refine⟨N,λi C R=>?_⟩;have x:g[i].refs=[]:=by have:=apH.1 j g[i] (apD R);simpa using this
   exact((h3 i C R).pure x).mono λa u hu W=>⟨hu,λE=>W (z.F _ E)⟩
  have V:U.defers=[]/\∃v,(results fn U.tmps).run P q=.ok v q/\(∃Q,og v=.returned Q/\b9 q F Q (o9 g)/\Below w.heap.size w q/\Good q):=
   ⟨z.defers,sY H,O,sY H,rfl,wu ff,z.below.uX,z.mz T S⟩
  obtain rfl|rfl:=he<;>exact V
 split at h;rename_i s tr' eqs x;split at h;rename_i g B;split at h;rename_i j;cases h;exact key _ _ x (.inl rfl) ⟨g,B,j,rfl⟩;cases h;cases h;rename_i s tr' eqs x;split at h;rename_i g B;split at h;rename_i j;cases h;exact key _ _ x (.inr rfl) ⟨g,B,j,rfl⟩;cases h;cases h;cases h;cases h;cases h
namespace Fb
open Gr Tw
variable {G:bn->Prop}
variable (a:aa G)
def ako(c:aw):xf G 146 [yT (.slice bk 0 c)] (yI 0 bj []):=Spec.wD (eqs:=[]) a func146 (ro:=[]) (m:=60) [] [] (λe b=>by cases b) zk
def agz(d:Addr)(b:aw):xf G 146 [yT (.slice (a6 d) 0 b)] (yI 0 bj []):=Spec.wD (eqs:=[]) a func146 (ro:=[]) (m:=60) [] [] (λe c=>by cases c) zk
def DV(f:aa G):Spec zZq G 146 [.row 0 aj []] (.row 0 bj []):=by
 intro w F c e b g
 match c,b with
 |[v],b=>
  obtain⟨i,d,j,h,o,n,m,l,k⟩:=oD b.head;subst h;cases i with
  |none=>exact ako f d w F _ e (aR.cons (.lit _) aR.nil) g
  |some a=>exact agz f a d w F _ e (aR.cons (.lit _) aR.nil) g
 |[],b=>have:=b.1;simp at this
 |_::_::_,b=>have:=b.1;simp at this
end Fb
def vK(kC:ai aw)(mx:aw):aw->ai (bF (ai D))->ai (bF (ai D))
 |_,[]=>[]
 |i,o::l=>(match c3 i mx||kC.contains i with|true=>o|false=>bk)::vK kC mx (i+1) l
def zm(kC:ai aw)(mx:aw):∀(i:aw)(l:ai (bF (ai D)))(b:aw),(vK kC mx i l).getD b bk=if c3 (i+b) mx||kC.contains (i+b)then y7 l b bk else bk
 |i,[],b=>by simp[vK]
 |i,o::l,0=>by simp only[vK,kt,n5];split<;>rename_i h<;>rw[h]<;>rfl
 |i,o::l,b+1=>by simp only[vK,iz];rw[zm kC mx (i+1) l b,show i+1+b=i+(b+1) by omega]
def kh.kC{fn:kf}{mx:aw}{args:ai D}{blks blks':ai (bF (ai D))}{d:D}(h:kh P Good fn mx args blks [] d blks' []):kh P Good fn mx args blks [] d (vK d.refs mx 0 blks') []:=by
 intro f s c w β X vals H G F E C B A z y l;refine(h f s c w β X vals H G F E C B A z y l).mono λe N I=>?_
 obtain⟨v,n,M,rfl,g,q,u⟩:=I;have kept:∀b,b<c.gb\/b∈d.refs->(vK d.refs mx 0 blks').getD b bk=blks'.getD b bk:=λb a=>by
  rw[zm,aqa,aph];rw[ap6];obtain a|a:=a
  left;rw[apZ];omega;right;exact apt.2 a
 have back:∀b cs,(vK d.refs mx 0 blks').getD b bk=a6 cs->blks'.getD b bk=a6 cs:=λb cs a=>by rw[zm]at a;split at a;exact a;cases a
 refine⟨v,n,M,rfl,⟨g.defers,g.size,g.tmp,λt b a=>by simp[D.refs]at a,λb cs a=>g.blk b cs (back b cs a),λb cs a x o j e=>?_,λb j K J=>?_,g.F,g.uZ,g.oH,g.below,g.gh,λp r b a=>?_,g.kp.sub λb a=>?_⟩,q,λb a=>?_⟩;have:=(g.qS b cs (back b cs a) x o j e).1;simp at this;obtain⟨m,i⟩:=apn.1 K;obtain⟨L,k⟩:=apn.1 J;exact g.inj b j (by show(blks'.getD b bk).isSome=bj;rw[back b m i];rfl) (by show(blks'.getD j bk).isSome=bj;rw[back j L k];rfl);obtain⟨i,k⟩:=g.i_ p r b a;refine⟨i,?_⟩;show((vK d.refs mx 0 blks').getD b bk).isSome=bj;rw[kept b (.inl i)];exact k;obtain⟨m,i⟩:=apn.1 a;show(blks'.getD b bk).isSome=bj;rw[back b m i];rfl;rw[kept b (.inr a)];exact u b a
def Z2(P:cp){Good:bn->Prop}(ro:ai aw)(m mx:aw)(fn:kf)(args:ai D)(blks:ai (bF (ai D)))(a:ai (Item P Good)):bF (D×ai (bF (ai D))×ai aw×ai (cY×cY)):=
 match runIn P ro m mx fn args blks a with
 |some (d,blks',ns',eqs)=>a6 (d,vK d.refs mx 0 blks',ns',eqs)
 |none=>bk
variable {b:aw} (z:aa Good)
def kh.abb(d:sC P Good)(ro:ai aw)(m:aw)
  (h:Z2 P ro m b A l I [Item.auto d]=a6 (g,J,[],[])):kh P Good A b l I [] g J []:=by
 unfold Z2 at h;split at h;rename_i d1 f c e a;cases h;exact(kh.ke z d a).kC;cases h
def YO.of{f:c7}{fn:kf}(b:P.funcs[f]? =a6 fn){mx:aw}{args:ai D}{blks blks':ai (bF (ai D))}{d:D}(h:kh P Good fn mx args blks [] d blks' []):YO P Good:=
 ⟨f,mx,args,blks,d,blks',λc a=>by rw[b]at a;exact(ap0 a)▸h⟩
namespace Tw
open fb
variable {G:bn->Prop}
def ixB(m:ai b5)(i:aw):St:=lay 19 [(0,gS m),(1,bool aj),(7,nat (y6 m)),(8,nat i)] []
variable (a:aa G) {e:Lk} {f:Fn}
def SX(m:ai b5)(k:y6 m<=1000000):xf G 173 [gS m,bool aj] (int (EU (λz=>!z) m)):=by
 have rd:∀i,i<m.findIdx (λz=>!z)->xo G (ae f173 0) (ixB m i) y3 (ixB m (i+1)):=λi j=>by
  obtain⟨b,f⟩:=qX aj j;have e:=jd b;have d:y7 m i aj=bj:=by simpa using f
  rw[d]at e;exact af.r a [.eb 9 (ah b),yu (gN b),yu (gO b),.eq 15 e,.eq 18 (bL (ax b za))]
 unfold EU;split;rename_i h;have f:=lS (p:=λz=>!z) aj h;have e:=jd h;have d:y7 m (m.findIdx λz=>!z) aj=aj:=by simpa using f
 rw[d]at e;have c:=aI.z zZq G (ae f173 0) .ret (lay 19 [(4,nat (m.findIdx λz=>!z))] []) (λi=>ixB m i) _ rd
  (af.r a [.eb 9 (ah h),yu (gN h),yu (gO h),.eq 15 e])
 exact Spec.r a func173 [] [.code c];rename_i h;have g:m.findIdx (λz=>!z)=y6 m:=arp aqu za;rw[g]at rd;have c:=aI.z zZq G (ae f173 0) (y5 0) (lay 19 [] []) (λi=>ixB m i) _ rd
  (af.r a [.eb 9 (av (apc (y6 m)))])
 exact Spec.r a func173 [] [.code c]
def Bj(m:ai b5)(b:y6 m<=1000000):xf G 114 [gS m,bool aj] (bool (m.contains aj)):=by
 have c:=SX a m b;have key:m.contains aj=decide (m.findIdx (λz=>!z)<y6 m):=by rw[aqf,cm,List.findIdx_lt_length];simp
 unfold EU at c;rw[key];by_cases h:m.findIdx (λz=>!z)<y6 m;rw[aph h]at c;rw[apE h];exact Spec.y a (az [173]) func114 [] [z3 c,.eb 8 (mP (m.findIdx λz=>!z))];rw[ape h]at c;rw[apG h];exact Spec.y a (az [173]) func114 [] [z3 c]
def aeR(t:Fn):bF (ai Gp):=if t.known.contains aj=bj\/t.used.contains aj=bj then bk else a6 t.gs
def alc:bF (ai Gp)->D
 |none=>.aP [yI 0 aj [],lY 7]
 |some gs=>.aP [aQ kg gs,xc]
def Uj(t:g7 e)(ck:xf G 37 [lM e] xc)(i:vR e (vU e) f)(d:qt e f):xf G 47 [lM e] (alc (aeR f)):=by
 have c:=akb a t ck i d;have m:=t.nb;have k:=t.nj;have b:=Bj a f.known (by rw[d.k];omega);have l:=Bj a f.used (by rw[d.u];omega);unfold aeR;cases h:f.known.contains aj with
 |true=>
  rw[h]at b;rw[aph (y1 rfl)];exact Spec.y a (az [113,114]) func47 [] [z3 c,z3 b]
 |false=>
  rw[h]at b;cases g:f.used.contains aj with
  |true=>
   rw[g]at l;rw[aph (y2 rfl)];exact Spec.y a (az [113,114]) func47 [] [z3 c,z3 b,z3 l]
  |false=>
   rw[g]at l;rw[ape zb];clear h g i d;obtain⟨n,o,j,gs⟩:=f;cases gs<;>exact Spec.y a (az [113,114]) func47 [] [z3 c,z3 b,z3 l]
def wV{x:aw}(h:x=b):xf G 246 [nD [b],nat x] (bool bj):=
 Spec.y a (az []) func246 [] [.eb 16 (gI h)]
def zL{x:aw}(h:x≠b):xf G 246 [nD [b],nat x] (bool aj):=
 Spec.y a (az []) func246 [] [.eb 16 (fh h)]
variable {S X d k:aw} {p:bF (ai uU)}
def L1{x:aw}(h:x=b):xf G 246 [nD [b,k],nat x] (bool bj):=
 Spec.y a (az []) func246 [] [.eb 16 (gI h)]
def L0{x:aw}(h:x≠b)(i:x=k):xf G 246 [nD [b,k],nat x] (bool bj):=
 Spec.y a (az []) func246 [] [.eb 16 (fh h),.eb 16 (gI i)]
def QJ{x:aw}(h:x≠b)(i:x≠k):xf G 246 [nD [b,k],nat x] (bool aj):=
 Spec.y a (az []) func246 [] [.eb 16 (fh h),.eb 16 (fh i)]
def ale(x:aw):iy zZq G f191 [.bG 0 1 1] [nat x] (.aP []) [nat x]:=
 iy.bK a (az []) _ (ro:=[998]) (m:=60) []
def ahu(z:cA):xf G 333 [int z] (bool aj):=
 Spec.y a (az []) func333 [] [.eb 5 (show(z !=z)=aj by simp)]
def EP{x y:cA}(h:x<y):xf G 307 [int x,int y] (bool bj):=
 Spec.y a (az [333]) func307 [] [z3 (ahu a x),.eb 15 (apE h)]
def abM{x y:cA}(h:¬x<y):xf G 307 [int x,int y] (bool aj):=
 Spec.y a (az [333]) func307 [] [z3 (ahu a x),.eb 15 (apG h)]
def roS:c7->ai aw:=λf=>if f=301 then [996]else if f=247 then [996]else []
def ahb(a:aa G)(x y:aw):∃p q:aw,(p=x\/p=y)/\(q=x\/q=y)/\iy zZq G f191 [.bG 0 2 1] [nat x,nat y] (.aP []) [nat p,nat q]:=by by_cases h:zNq y<zNq x;exact⟨y,x,y2 rfl,y1 rfl,iy.bK a (az [307] roS) _ (ro:=[998]) (m:=60) [z3 (EP a h)]⟩;exact⟨x,y,y1 rfl,y2 rfl,iy.bK a (az [307] roS) _ (ro:=[998]) (m:=60) [z3 (abM a h)]⟩
def Nh(x:aw):(-1:cA)<zNq x:=zT
def ald(a:aa G)(x y:aw):∃p q:aw,(p=x\/p=y)/\(q=x\/q=y)/\iy zZq G f191 [.bG 0 3 1] [nat x,nat y,int (-1)] (.aP []) [int (-1),nat p,nat q]:=by by_cases h:zNq y<zNq x;exact⟨y,x,y2 rfl,y1 rfl,iy.bK a (az [307] roS) _ (ro:=[998]) (m:=60) [z3 (EP a h),z3 (EP a (Nh x)),z3 (EP a (Nh y))]⟩;exact⟨x,y,y1 rfl,y2 rfl,iy.bK a (az [307] roS) _ (ro:=[998]) (m:=60) [z3 (abM a h),z3 (EP a (Nh y)),z3 (EP a (Nh x))]⟩
def dK(g:Gp):y6 (kg g)=4:=rfl
instance:ka Gp:=⟨⟨0,[],[],0⟩⟩
def lU(h:b<d):decide (zNq b>=zNq d)=aj:=zT
def BY(h:b=d):(zNq b !=zNq d)=aj:=by rw[h];simp
def al8:decide ((-1:cA)<0)=bj:=zv
def afE:ai c7:=[47,50,37,246,191,51,149,150,151,152]
def roZ:c7->ai aw:=λf=>if f=148 then [997]else if f=190 then [997]else if f=191 then [996]else []
def J_:bF (ai uU)->D
 |none=>.aP [yI 0 aj [],lY 15]
 |some l=>.aP [yI (y6 l) aj (l.flatMap adz),xc]
structure Fx(G:bn->Prop)(l:Lk)(a:As)(gs:ai Gp)(k:aw)(g:Gp)(δ:aw):Prop where
 HP:Spec zZq G 47 [lM l] (.aP [aQ kg gs,yT .nilIface])
 ck:Spec zZq G 37 [lM l] (yT .nilIface)
 hk:k<gs.length
 hg:gs.getD k bc=g
 hT:dn δ a.t
 lb:a.bs.length=l.bs.length
 pl:∀i,akQ a.t (dt a i)
def Q2(h:b<y6 e.js)(j:(y7 e.js b bc).a=d/\(y7 e.js b bc).b=k):D.agg (((e.js.flatMap Hh).drop ((zNq b).toNat*7)).take 7)=y4 [yT (.string (y7 e.js b bc).nm),nat (y7 e.js b bc).kind,nat d,nat (y7 e.js b bc).p,nat k,nat (y7 e.js b bc).on,nat (y7 e.js b bc).to]:=by rw[<-j.1,<-j.2];exact fO bQ h bc
def JW(l:Lk)(j b o:aw):Prop:=((y7 l.js j bc).a=b/\(y7 l.js j bc).b=o)\/((y7 l.js j bc).a=o/\(y7 l.js j bc).b=b)
def ag1(G:bn->Prop)(bs:ai aw)(x:aw)(z:b5):Prop:=xf G 246 [nD bs,nat x] (bool z)
def PZ{bs:ai aw}{z:b5}(h:JW e d b k)(c:ag1 G bs b bj)(j:ag1 G bs k z):∃u v:aw,∃y w:b5,((y7 e.js d bc).a=u/\(y7 e.js d bc).b=v)/\ag1 G bs u y/\ag1 G bs v w/\((b=u/\k=v/\bj=y/\z=w)\/(k=u/\b=v/\z=y/\bj=w)):=by
 obtain h|h:=h
 exact⟨_,_,_,_,h,c,j,y1 ⟨rfl,rfl,rfl,rfl⟩⟩;exact⟨_,_,_,_,h,j,c,y2 ⟨rfl,rfl,rfl,rfl⟩⟩
def Wi(l:Lk)(δ:As){gs:ai Gp}(w:Fx G l δ gs k ⟨0,[b],[S],d⟩ X){o:aw}(e:S<y6 l.js)(i:o<y6 δ.bs)(q:o≠b)(c:JW l S b o){x:Tn}
  (run:iy zZq G f149 [y0 0 0,J5 x] (kQ l ⟨0,[b],[S],d⟩ δ) (OM p) (kQ l ⟨0,[b],[S],d⟩ δ)):xf G 83 [lM l,nat k,J5 x,qx δ] (J_ p):=by
 have n:=fO dK w.hk bc;rw[w.hg]at n;obtain⟨u,v0,t,s,f,h,g,q0⟩:=PZ c (wV a rfl) (zL a q);rcases q0 with⟨rfl,rfl,rfl,rfl⟩|⟨rfl,rfl,rfl,rfl⟩<;>cases p<;>exact Spec.bK a (az afE roZ) func83 (ro:=[]) (m:=150) [z3 w.HP,.eb 30 (bT k),.eb 35 (lU w.hk),.eb 44 (BY w.lb),z3 (vA a w.hT),.er 55 (nat k),yu (ay dK za w.hk),yu (aq dK za w.hk),.eq 57 n,z3 w.ck,.eb 26 (bT S),.eb 32 (lU e),.er 37 (nat S),yu (ay bQ za e),yu (aq bQ za e),.eq 39 (Q2 e f),z3 h,z3 g,.a9 func191 (ale a o),.eb 81 (bT o),.er 84 (nat o),yu (ay fN za i),yu (aq fN za i),.eq 86 (fO fN i ⟨[],[],[],[]⟩),z3 (gZ a w.hT (w.pl o).c),z3 (gZ a w.hT (w.pl o).s),z3 (gZ a w.hT (w.pl o).x),z3 (gZ a w.hT (w.pl o).y),.er 115 (nat k),yu (ay dK za w.hk),yu (aq dK za w.hk),.eq 117 n,.a9 func149 run]
def aeU(l:Lk)(c:As){gs:ai Gp}{δ:aw}(w:Fx G l c gs k ⟨2,[b],[S,X],d⟩ δ){o m:aw}(f:S<y6 l.js)(e:X<y6 l.js)(M:o<y6 c.bs)(L:m<y6 c.bs)(C:o≠b)(B:m≠b)(A:JW l S b o)(hw:JW l X b m){x:Tn}
  (run:iy zZq G f151 [y0 0 0] (kQ l ⟨2,[b],[S,X],d⟩ c) (OM p) (kQ l ⟨2,[b],[S,X],d⟩ c)):xf G 83 [lM l,nat k,J5 x,qx c] (J_ p):=by
 have t:=fO dK w.hk bc;rw[w.hg]at t;obtain⟨J,v0,H,E,h,n,i,q0⟩:=PZ A (wV a rfl) (zL a C);obtain⟨I,v1,F,D,g,k11,k12,z⟩:=PZ hw (wV a rfl) (zL a B);obtain⟨u,v,hu,K,y⟩:=ahb a o m;have s:u<y6 c.bs:=za
 have q:v<y6 c.bs:=za
 rcases q0 with⟨rfl,rfl,rfl,rfl⟩|⟨rfl,rfl,rfl,rfl⟩<;>rcases z with⟨rfl,rfl,rfl,rfl⟩|⟨rfl,rfl,rfl,rfl⟩<;>cases p<;>exact Spec.bK a (az afE roZ) func83 (ro:=[]) (m:=150) [z3 w.HP,.eb 30 (bT k),.eb 35 (lU w.hk),.eb 44 (BY w.lb),z3 (vA a w.hT),.er 55 (nat k),yu (ay dK za w.hk),yu (aq dK za w.hk),.eq 57 t,z3 w.ck,.eb 26 (bT S),.eb 32 (lU f),.er 37 (nat S),yu (ay bQ za f),yu (aq bQ za f),.eq 39 (Q2 f h),z3 n,z3 i,.eb 26 (bT X),.eb 32 (lU e),.er 37 (nat X),yu (ay bQ za e),yu (aq bQ za e),.eq 39 (Q2 e g),z3 k11,z3 k12,.a9 func191 y,.eb 81 (bT u),.er 84 (nat u),yu (ay fN za s),yu (aq fN za s),.eq 86 (fO fN s ⟨[],[],[],[]⟩),z3 (gZ a w.hT (w.pl u).c),z3 (gZ a w.hT (w.pl u).s),z3 (gZ a w.hT (w.pl u).x),z3 (gZ a w.hT (w.pl u).y),.eb 81 (bT v),.er 84 (nat v),yu (ay fN za q),yu (aq fN za q),.eq 86 (fO fN q ⟨[],[],[],[]⟩),z3 (gZ a w.hT (w.pl v).c),z3 (gZ a w.hT (w.pl v).s),z3 (gZ a w.hT (w.pl v).x),z3 (gZ a w.hT (w.pl v).y),.er 115 (nat k),yu (ay dK za w.hk),yu (aq dK za w.hk),.eq 117 t,.a9 func151 run]
def aeT(l:Lk)(c:As){gs:ai Gp}{δ:aw}(w:Fx G l c gs k ⟨3,[b],[S,X],d⟩ δ){o m:aw}(f:S<y6 l.js)(e:X<y6 l.js)(M:o<y6 c.bs)(L:m<y6 c.bs)(C:o≠b)(B:m≠b)(A:JW l S b o)(hw:JW l X b m){x:Tn}
  (run:iy zZq G f152 [y0 0 0] (kQ l ⟨3,[b],[S,X],d⟩ c) (OM p) (kQ l ⟨3,[b],[S,X],d⟩ c)):xf G 83 [lM l,nat k,J5 x,qx c] (J_ p):=by
 have t:=fO dK w.hk bc;rw[w.hg]at t;obtain⟨J,v0,H,E,h,n,i,q0⟩:=PZ A (wV a rfl) (zL a C);obtain⟨I,v1,F,D,g,k11,k12,z⟩:=PZ hw (wV a rfl) (zL a B);obtain⟨u,v,hu,K,y⟩:=ahb a o m;have s:u<y6 c.bs:=za
 have q:v<y6 c.bs:=za
 rcases q0 with⟨rfl,rfl,rfl,rfl⟩|⟨rfl,rfl,rfl,rfl⟩<;>rcases z with⟨rfl,rfl,rfl,rfl⟩|⟨rfl,rfl,rfl,rfl⟩<;>cases p<;>exact Spec.bK a (az afE roZ) func83 (ro:=[]) (m:=150) [z3 w.HP,.eb 30 (bT k),.eb 35 (lU w.hk),.eb 44 (BY w.lb),z3 (vA a w.hT),.er 55 (nat k),yu (ay dK za w.hk),yu (aq dK za w.hk),.eq 57 t,z3 w.ck,.eb 26 (bT S),.eb 32 (lU f),.er 37 (nat S),yu (ay bQ za f),yu (aq bQ za f),.eq 39 (Q2 f h),z3 n,z3 i,.eb 26 (bT X),.eb 32 (lU e),.er 37 (nat X),yu (ay bQ za e),yu (aq bQ za e),.eq 39 (Q2 e g),z3 k11,z3 k12,.a9 func191 y,.eb 81 (bT u),.er 84 (nat u),yu (ay fN za s),yu (aq fN za s),.eq 86 (fO fN s ⟨[],[],[],[]⟩),z3 (gZ a w.hT (w.pl u).c),z3 (gZ a w.hT (w.pl u).s),z3 (gZ a w.hT (w.pl u).x),z3 (gZ a w.hT (w.pl u).y),.eb 81 (bT v),.er 84 (nat v),yu (ay fN za q),yu (aq fN za q),.eq 86 (fO fN q ⟨[],[],[],[]⟩),z3 (gZ a w.hT (w.pl v).c),z3 (gZ a w.hT (w.pl v).s),z3 (gZ a w.hT (w.pl v).x),z3 (gZ a w.hT (w.pl v).y),.er 115 (nat k),yu (ay dK za w.hk),yu (aq dK za w.hk),.eq 117 t,.a9 func152 run]
def aeV(f:aa G)(l:Lk)(a:As){gs:ai Gp}{m n δ:aw}(w:Fx G l a gs k ⟨1,[b,S],[X,m,n],d⟩ δ){o j:aw}(i:X<y6 l.js)(h:m<y6 l.js)(g:n<y6 l.js)(Y:o<y6 a.bs)(r:j<y6 a.bs)(ob:o≠b)(J:o≠S)(I:j≠b)(pc:j≠S)(D:b≠S)(M:JW l X b o)(L:JW l m S j)(K:JW l n b S){x:Tn}
  (run:iy zZq G f150 [y0 0 0] (kQ l ⟨1,[b,S],[X,m,n],d⟩ a) (OM p) (kQ l ⟨1,[b,S],[X,m,n],d⟩ a)):xf G 83 [lM l,nat k,J5 x,qx a] (J_ p):=by
 have C:=fO dK w.hk bc;rw[w.hg]at C;obtain⟨V,v0,c,P,t,z,y,q0⟩:=PZ M (L1 f rfl) (QJ f ob J);obtain⟨U,v1,R,O,s,k11,k12,H⟩:=PZ L (L0 f (λe=>D e.symm) rfl) (QJ f I pc);obtain⟨T,v2,Q,N,q,k21,k22,F⟩:=PZ K (L1 f rfl) (L0 f (λe=>D e.symm) rfl);obtain⟨u,v,hu,W,E⟩:=ald f o j;have B:u<y6 a.bs:=za
 have A:v<y6 a.bs:=za
 rcases q0 with⟨rfl,rfl,rfl,rfl⟩|⟨rfl,rfl,rfl,rfl⟩<;>rcases H with⟨rfl,rfl,rfl,rfl⟩|⟨rfl,rfl,rfl,rfl⟩<;>rcases F with⟨rfl,rfl,rfl,rfl⟩|⟨rfl,rfl,rfl,rfl⟩<;>cases p<;>exact Spec.bK f (az afE roZ) func83 (ro:=[]) (m:=150) [z3 w.HP,.eb 30 (bT k),.eb 35 (lU w.hk),.eb 44 (BY w.lb),z3 (vA f w.hT),.er 55 (nat k),yu (ay dK za w.hk),yu (aq dK za w.hk),.eq 57 C,z3 w.ck,.eb 26 (bT X),.eb 32 (lU i),.er 37 (nat X),yu (ay bQ za i),yu (aq bQ za i),.eq 39 (Q2 i t),z3 z,z3 y,.eb 26 (bT m),.eb 32 (lU h),.er 37 (nat m),yu (ay bQ za h),yu (aq bQ za h),.eq 39 (Q2 h s),z3 k11,z3 k12,.eb 26 (bT n),.eb 32 (lU g),.er 37 (nat n),yu (ay bQ za g),yu (aq bQ za g),.eq 39 (Q2 g q),z3 k21,z3 k22,.a9 func191 E,.eb 81 al8,.eb 81 (bT u),.er 84 (nat u),yu (ay fN za B),yu (aq fN za B),.eq 86 (fO fN B ⟨[],[],[],[]⟩),z3 (gZ f w.hT (w.pl u).c),z3 (gZ f w.hT (w.pl u).s),z3 (gZ f w.hT (w.pl u).x),z3 (gZ f w.hT (w.pl u).y),.eb 81 (bT v),.er 84 (nat v),yu (ay fN za A),yu (aq fN za A),.eq 86 (fO fN A ⟨[],[],[],[]⟩),z3 (gZ f w.hT (w.pl v).c),z3 (gZ f w.hT (w.pl v).s),z3 (gZ f w.hT (w.pl v).x),z3 (gZ f w.hT (w.pl v).y),.er 115 (nat k),yu (ay dK za w.hk),yu (aq dK za w.hk),.eq 117 C,.a9 func150 run]
end Tw
end Lw
