/- Part 8. -/
import Derived.Test.YtmcpfihkambgnaaGreatLs07
set_option maxHeartbeats 2000000
set_option linter.all false
open Option renaming some->a6,none->bk,map_some->dm
open _root_ renaming List->ai,Nat->aw,Bool->b5,Option->bF,beq_eq_false_iff_ne->c4,Int->cA,ByteArray->cB,Rat->cl,if_true->gn,beq_self_eq_true->gp,if_false->jv
open Bool renaming false->aj,true->bj,false_eq_true->cy,and_eq_true->dT
open Go renaming Value->b3,World->bn,FuncId->c7,Program->cp,Func->kf,callsIn_wide->n2,callsIn_of_wp->oi,wpIn_loop_ghost->rX
open List renaming mem_cons->b4,not_mem_nil->bI,replicate->cd,range->ch,mem_singleton->dc,nil_append->lp,cons_append->pa,drop_of_length_le->v7,filter_cons_of_pos->vc,filter_cons->vk,length->y6,getD->y7
open Inhabited renaming default->bc
open Option.some renaming injEq->eE
open Prod.mk renaming injEq->gu
open Nat renaming ble->hM,beq->ml
open Go.World renaming cell?_of_block->ma
open Go.Ending renaming returned->og
open Classical renaming choose->rm
open Lw.Item renaming call->z3,prop->yu
open Lw.D renaming row->yI,lit->yT,ptr->y0,agg->y4
open Or renaming inl->y1,inr->y2
open Lw.iw renaming normal->y3,exit->y5
open Go.Proofs.Tryz renaming prog->zZq
open Go.Proofs.Tryz
open Int renaming ofNat->zNq
namespace Lw
open Go Go.RowKit
variable {P:cp} {Good:bn->Prop}
variable {B L u v:St} {b j:aw} {d:Code} {f:D} {h:iw} {k:ai D}
def Il{x:D}(a:x∈f.parts)(c:x.ref=a6 b):b∈f.refs:=by
 cases f with
 |agg xs=>exact apM.2 ⟨x,a,c⟩
 |aP xs=>exact apM.2 ⟨x,a,c⟩
 |_=>
  simp only[D.parts,dc]at a;subst a;exact pN c
def R3(a:b∈f.refs):∃x∈f.parts,x.ref=a6 b:=by
 cases f with
 |agg xs=>obtain⟨x,e,c⟩:=apM.1 (show b∈xs.filterMap D.ref from a);exact⟨x,e,c⟩
 |aP xs=>obtain⟨x,e,c⟩:=apM.1 (show b∈xs.filterMap D.ref from a);exact⟨x,e,c⟩
 |ptr d off=>exact⟨_,apg.2 rfl,(apg.1 a)▸rfl⟩
 |aY d off len cap=>exact⟨_,apg.2 rfl,(apg.1 a)▸rfl⟩
 |bG d n size=>exact⟨_,apg.2 rfl,(apg.1 a)▸rfl⟩
 |_=>simp[D.refs]at a
def bU.part{β:aw->aw}{w:bn}{X:aw->Prop}{v:b3}{d:D}(h:bU β w X v d){x:D}(g:x∈d.parts):∃u,aX β w X u x:=by
 cases h with
 |c h=>
  cases h with
  |p h=>
   cases h with
   |agg us xs j k=>obtain⟨i,l,rfl⟩:=aqU (show x∈xs from g);exact⟨_,.p (k i za l)⟩
   |aP us xs j k=>obtain⟨i,l,rfl⟩:=aqU (show x∈xs from g);exact⟨_,.p (k i za l)⟩
   |any v=>simp only[D.parts,dc]at g;subst g;exact⟨_,.p (.any v)⟩
   |lit v=>simp only[D.parts,dc]at g;subst g;exact⟨_,.p (.lit v)⟩
   |row a len cap full us xs j hlen q s hm k=>simp only[D.parts,dc]at g;subst g;exact⟨_,.p (.row a len cap full us xs j hlen q s hm k)⟩
   |aJ a us xs j hm k=>simp only[D.parts,dc]at g;subst g;exact⟨_,.p (.aJ a us xs j hm k)⟩
   |fn f us y xs z j A k r=>simp only[D.parts,dc]at g;subst g;exact⟨_,.p (.fn f us y xs z j A k r)⟩
  |ptr b off=>simp only[D.parts,dc]at g;subst g;exact⟨_,.ptr b off⟩
  |aY b off len cap o m=>simp only[D.parts,dc]at g;subst g;exact⟨_,.aY b off len cap o m⟩
  |bG b n size cap e o m t=>simp only[D.parts,dc]at g;subst g;exact⟨_,.bG b n size cap e o m t⟩
 |agg us xs j=>obtain⟨i,l,rfl⟩:=aqU (show x∈xs from g);exact⟨_,j.2 i (by rw[j.1];exact l) l⟩
 |aP us xs j=>obtain⟨i,l,rfl⟩:=aqU (show x∈xs from g);exact⟨_,j.2 i (by rw[j.1];exact l) l⟩
def LQ.one{Q:b3->D->Prop}{us:ai b3}(h:LQ Q us k){x:D}(b:x∈k):∃u,Q u x:=by obtain⟨i,a,rfl⟩:=aqU b;exact⟨_,h.2 i (by rw[h.1];exact a) a⟩
structure anf(bC:aw->b5)(s s':as0)(n0 n1:aw->b5)(pins:ai D)(gb:aw):Prop where
 blk:∀b,bC b=bj->s'.blk b=s.blk b
 bu:∀b,bC b=bj->s'.bu b=s.bu b
 clo:∀b cs,bC b=bj->s.blk b=a6 cs->∀d∈cs,∀b',d.ref=a6 b'->bC b'=bj\/d∈pins
 o8:∀x∈pins,x.sized=bj/\(∃b cs,s.blk b=a6 cs/\x∈cs)/\∃b,x.ref=a6 b/\b<gb/\bC b=aj
 ns:∀b cs,bC b=aj->s.blk b=a6 cs->∀d∈cs,∀b',d.ref=a6 b'->bC b'=aj->s.bu b=bj->n0 b=bj
 ns':∀b cs,bC b=aj->s'.blk b=a6 cs->∀d∈cs,∀b',d.ref=a6 b'->bC b'=aj->n1 b=bj->s'.bu b=bj
 sz:∀d,s.holds bC d->d.sized=bj
 own:∀b,bC b=aj->(s'.blk b).isSome=bj->∀d cs,s'.blk b=a6 cs->d∈cs->∀b',d.ref=a6 b'->bC b'=bj->s'.bu b=bj
 FX:∀d b,s'.holds bC d->d.ref=a6 b->bC b=bj->s.holds bC d
def aI.frame{n:aw}{k:Code}{e:iw}{S S':St}{T T':(D->b3)->St}{n0 n1:aw->b5}{pins:ai D}{gb:aw}(bC:aw->b5)(hT:∀lit,(T lit).fs=S.fs.B5 bC lit n0)(fq:∀lit,(T' lit).fs=S'.fs.B5 bC lit n1)
  (ok:anf bC S.fs S'.fs n0 n1 pins gb) (hA:∀lit:D->b3,(∀d,(D.lit (lit d)).bV=bj)->aI P Good n gb k (T lit) e (T' lit)):aI P Good n 0 k S e S':=by
 intro c Q a w q1 q2 q3 q4 P9 hQ;obtain⟨β,X,h⟩:=P9;generalize hs:S.fs=s at*;generalize hs':S'.fs=M at*;have qj:∀p∈c.gh,∀b,b∉p.2.refs:=λp F b f=>by have:=(h.i_ p F b f).1;omega
 classical
 let lit:D->b3:=λd=>if h:∃v,aX β w X v d/\(D.lit v).bV=bj then rm h else .bool aj
 have anZ:∀d,(D.lit (lit d)).bV=bj:=λd=>by
  show(D.lit (if h:∃v,aX β w X v d/\(D.lit v).bV=bj then rm h else .bool aj)).bV=bj
  split
  ·rename_i h;exact(arX h).2
  ·rfl
 have abG:∀d b,d.ref=a6 b->(∃v,aX β w X v d)->aX β w X (lit d) d:=λd b f ⟨v,J⟩=>by
  have Y:∃v,aX β w X v d/\(D.lit v).bV=bj:=⟨v,J,by
   cases J with
   |p h=>rw[fC h]at f;cases f
   |ptr=>rfl
   |aY=>rfl
   |bG=>rfl⟩
  show aX β w X (if h:∃v,aX β w X v d/\(D.lit v).bV=bj then rm h else .bool aj) d
  rw[dif_pos Y];exact(arX Y).1
 have held:∀d,s.holds bC d->∃v,aX β w X v d:=λd Y=>by
  rcases Y with⟨t,ht⟩|⟨b,cs,-,f,i⟩
  ·exact(h.tmp t).part ht
  ·obtain⟨-,-,U,e,-,-,g⟩:=h.blk b cs f
   exact g.one i
 have amc:∀d,s.holds bC d->∀b,d.ref=a6 b->∀v,aX β w X v d->v=lit d:=λd Y b f v J=>J.one (abG d b f (held d Y)) f (ok.sz d Y)
 have ahI:∀x∈pins,aX β w X (lit x) x:=λx i=>by
  obtain⟨-,⟨b,cs,f,hm⟩,j,o,-⟩:=ok.o8 x i;obtain⟨-,-,U,e,-,-,g⟩:=h.blk b cs f;exact abG x j o (g.one hm)
 let seen:aw->Prop:=λk=>∃b,bC b=aj/\(s.blk b).isSome=bj/\k=β b
 have alu:∀k,seen k->X k:=λk ⟨b,_,f,e⟩=>by
  obtain⟨cs,jz⟩:=apn.1 f;rw[e];exact(h.blk b cs jz).2.1
 let c':Ctx:={c with gh:=pins.map (λx=>(lit x,x))++c.gh,gb:=gb,ns:=w.heap.size,kp:=λk=>if seen k then bk else w.heap[k]?,kx:=λk=>X k/\¬seen k}
 have small:∀{u:as0}{m:aw->b5}{b:aw}{cs:ai D},(u.B5 bC lit m).blk b=a6 cs->bC b=aj/\∃V,u.blk b=a6 V/\cs=V.map (gK bC lit):=λ{u m b cs} f=>by
  have f:(if bC b then bk else(u.blk b).map (·.map (gK bC lit)))=a6 cs:=f
  split at f
  ·cases f
  ·rename_i l
   obtain⟨V,e1,e2⟩:=arA.1 f;exact⟨by simpa using l,V,e1,e2.symm⟩
 have R:∀{u:as0}{m:aw->b5}{b:aw},((u.B5 bC lit m).blk b).isSome=bj↔bC b=aj/\(u.blk b).isSome=bj:=λ{u m b}=>by
  show((if bC b then bk else(u.blk b).map (·.map (gK bC lit))):bF (ai D)).isSome=bj↔_
  cases bC b<;>simp
 have qV:df c' n (s.B5 bC lit n0) a w β X:=by
  refine⟨h.defers,h.size,λt=>(h.tmp t).B5 λx i b f _ v J=>amc x (.inl ⟨t,i⟩) b f v J,λt b f=>?_,λb cs f=>?_,λb cs f x i j o=>?_,λb j f o e=>?_,h.F,h.uZ,h.oH,⟨h.below.uX,h.below.nc,apc _⟩,λp F=>?_,λp F b f=>?_,⟨λk q r=>?_,λk r=>r.1,λk r=>h.oH k r.1,λk r b f=>?_⟩⟩
  ·obtain⟨O,I⟩:=XA f
   exact(R (m:=n0)).2 ⟨I,h.nd t b O⟩
  ·obtain⟨O,V,I,rfl⟩:=small f
   obtain⟨K,A,U,e,G,h4,h5⟩:=h.blk b V I;refine⟨K,A,U,e,G,by rw[apq];exact h4,?_⟩
   rw[apq];refine h5.map λu x i C=>?_
   cases z:x.ref with
   |none=>rw[gF (by rw[z];intro b h;cases h)];exact C
   |some j=>
    cases l:bC j with
    |true=>rw[rV z l,amc x (.inr ⟨b,V,O,I,i⟩) j z u C];exact .p (.lit _)
    |false=>rw[gF (by rw[z];intro b h;cases h;exact l)];exact C
  ·obtain⟨O,V,I,rfl⟩:=small f
   obtain⟨y,hy,rfl⟩:=apN.1 i;obtain⟨e1,e2,-⟩:=I3 o;obtain⟨f1,f2⟩:=h.qS b V I y hy j e1;exact⟨ok.ns b V O I y hy j e1 e2 f1,(R (m:=n0)).2 ⟨e2,f2⟩⟩
  ·exact h.inj b j (R.1 f).2 (R.1 o).2 e
  ·obtain F|F:=aps.1 F
   ·obtain⟨x,i,rfl⟩:=apN.1 F
    exact .c (ahI x i)
   ·exact h.gh p F
  ·obtain F|F:=aps.1 F
   ·obtain⟨x,i,rfl⟩:=apN.1 F
    obtain⟨-,⟨b1,cs,Az,hm⟩,j,o,bZ,l⟩:=ok.o8 x i;rw[show b=j from apg.1 (by rw[<-O8 o];exact f)]
    exact⟨bZ,(R (m:=n0)).2 ⟨l,(h.qS b1 cs Az x hm j o).2⟩⟩
   ·exact api f (qj p F b)
  ·have fX:(if seen k then bk else w.heap[k]?)=a6 q:=r
   split at fX
   ·cases fX
   ·exact fX
  ·obtain⟨O,I⟩:=R.1 f
   intro e;have hsn:seen k:=⟨b,O,I,e.symm⟩;obtain r|r:=r
   ·have fX:(if seen k then bk else w.heap[k]?).isSome=bj:=r
    rw[aph hsn]at fX;cases fX
   ·exact r.2 hsn
 refine hA lit anZ c' Q a w q1 q2 q3 (apc _) ⟨β,X,by rw[hT];exact qV⟩ λa' w' z=>hQ a' w' ?_
 rw[fq]at z;obtain⟨β',X',z⟩:=z;have vH:∀k q,¬seen k->w.heap[k]? =a6 q->w'.heap[k]? =a6 q:=λk q r C=>z.kp.obj k q (by show(if seen k then bk else w.heap[k]?)=a6 q;rw[ape r];exact C)
 have apart:∀k,¬seen k->(w.heap[k]?).isSome=bj->∀b,bC b=aj->(M.blk b).isSome=bj->β' b≠k:=λk r C b K A=>
  z.kp.off k (.inl (by show(if seen k then bk else w.heap[k]?).isSome=bj;rw[ape r];exact C)) b ((R (m:=n1)).2 ⟨K,A⟩)
 have kXX:∀k,X k->¬seen k->X' k:=λk K A=>z.kp.x k ⟨K,A⟩
 let X2:aw->Prop:=λk=>X' k/\(X k\/∃b,bC b=aj/\(M.blk b).isSome=bj/\k=β' b)
 have low:∀a u,w.cell? a=a6 u->¬X a.block->w'.cell? a=a6 u/\¬X2 a.block:=λa u ha i=>by
  have yq:¬seen a.block:=λhs=>i (alu _ hs)
  have bZ:=yd ha;refine⟨?_,λhX=>?_⟩
  ·have e2:w'.heap[a.block]? =w.heap[a.block]? :=by rw[vH a.block _ yq (ap9 bZ),ap9 bZ]
   rw[ma e2];exact ha
  ·obtain hX|⟨b,K,A,G⟩:=hX.2
   ·exact i hX
   ·exact apart _ yq (by rw[ap9 bZ];rfl) b K A G.symm
 have back:∀a u,w'.cell? a=a6 u->¬X' a.block->w'.cell? a=a6 u/\¬X2 a.block:=λa u ha i=>⟨ha,λhX=>i hX.1⟩
 let β2:aw->aw:=λb=>if bC b then β b else β' b
 have E:∀b,bC b=bj->β2 b=β b:=λb f=>aph f
 have H:∀b,bC b=aj->β2 b=β' b:=λb f=>ape (by rw[f];simp)
 have U':∀b,bC b=bj->(s.blk b).isSome=bj->¬seen (β b):=λb f hS ⟨j,K,A,G⟩=>by
  have:=h.inj b j hS A G;rw[this]at f;rw[f]at K;cases K
 have shp:∀b,bC b=bj->(s.blk b).isSome=bj->∀e n,w.shape? (β b)=a6 (e,n)->∃e',w'.shape? (β2 b)=a6 (e',n):=λb f hS e n uw=>by
  obtain⟨U,fr,O,I⟩:=ju uw;exact⟨e,by rw[E b f,<-I];exact cw (vH _ _ (U' b f hS) O)⟩
 have ahE:∀{v:b3}{x:D}{b:aw},x.ref=a6 b->bC b=bj->(s.blk b).isSome=bj->aX β w X v x->aX β2 w' X2 v x:=λ{v x b} i f hS J=>by
  have:=J.FZ (w':=w') (X':=X2) low λj o e n uw=>by
   rw[i]at o;cases o;obtain⟨e',he⟩:=shp b f hS e n uw;rw[E b f]at he;exact⟨e',he⟩
  exact this.congr λj o=>by rw[i]at o;cases o;exact E b f
 have F4:∀{v:b3}{x:D},(∀b,x.ref=a6 b->bC b=aj)->aX β' w' X' v x->aX β2 w' X2 v x:=λ{v x} i J=>
  (J.FZ back λb _ e n hs=>⟨e,hs⟩).congr λb f=>H b (i b f)
 have alP:∀x∈pins,aX β2 w' X2 (lit x) x/\∀b,x.ref=a6 b->(M.blk b).isSome=bj:=λx i=>by
  have hm:(lit x,x)∈c'.gh:=aqt _ (apN.2 ⟨x,i,rfl⟩);obtain⟨-,-,j,o,-,l⟩:=ok.o8 x i;have g:=z.gh _ hm;refine⟨F4 (λb f=>by rw[o]at f;cases f;exact l) (g.cell (λxs e=>by rw[show x=_ from e]at o;cases o) (λxs e=>by rw[show x=_ from e]at o;cases o)),λb f=>?_⟩
  exact(R.1 (z.i_ _ hm b (pN f)).2).2
 have M3:∀d b,M.holds bC d->d.ref=a6 b->bC b=bj->(s.blk b).isSome=bj/\aX β2 w' X2 (lit d) d:=λd b Y f l=>by
  have ho:=ok.FX d b Y f l;have alive:(s.blk b).isSome=bj:=by
   rcases ho with⟨t,ht⟩|⟨j,cs,-,A,G⟩
   ·exact h.nd t b (Il ht f)
   ·exact(h.qS j cs A d G b f).2
  exact⟨alive,ahE f l alive (abG d b f (held d ho))⟩
 have W:∀b,bC b=bj->M.blk b=s.blk b:=ok.blk;refine⟨β2,X2,z.defers,z.size,λt=>(z.tmp t).Zs (λx i v hn J=>F4 hn J) (λx i b f l=>(M3 x b (.inl ⟨t,i⟩) f l).2),λt b f=>?_,λb cs f=>?_,λb cs f x i j o=>?_,λb j f o e=>?_,λk r=>⟨z.F k r,.inl (h.F k r)⟩,h.uZ,λk r=>z.oH k r.1,⟨z.below.uX,z.below.nc,apm h.below.sz z.below.sz⟩,λp F=>?_,λp F b f=>api f (qj p F b),⟨λk q r=>?_,λk r=>?_,λk r=>?_,λk r b f=>?_⟩⟩
 ·obtain⟨x,i,N⟩:=R3 f
  cases l:bC b with
  |true=>rw[W b l];exact(M3 x b (.inl ⟨t,i⟩) N l).1
  |false=>
   have:b∈((M.B5 bC lit n1).tmp t).refs:=by
    show b∈(yD bC lit (M.tmp t)).refs;generalize M.tmp t=d at f i;cases d with
    |agg xs=>exact apM.2 ⟨x,apN.2 ⟨x,i,gF (by rw[N];intro b h;cases h;exact l)⟩,N⟩
    |aP xs=>exact apM.2 ⟨x,apN.2 ⟨x,i,gF (by rw[N];intro b h;cases h;exact l)⟩,N⟩
    |_=>
     simp only[D.parts,dc]at i;subst i;simp only[yD];rw[gF (by rw[N];intro b h;cases h;exact l)]
     exact f
   exact(R.1 (z.nd t b this)).2
 ·cases l:bC b with
  |true=>
   rw[W b l]at f;obtain⟨K,A,U,e,G,h4,h5⟩:=h.blk b cs f;have al:(s.blk b).isSome=bj:=by rw[f];rfl
   have ns:=U' b l al;rw[E b l];refine⟨K,⟨kXX _ A ns,.inl A⟩,U,e,vH _ _ ns G,h4,h5.mono λu x i C=>?_⟩
   cases L:x.ref with
   |none=>exact .p ((C.pure L).mono low)
   |some j=>
    obtain Z|Z:=ok.clo b cs l f x i j L
    ·exact ahE L Z (h.qS b cs f x i j L).2 C
    ·rw[C.one (ahI x Z) L (ok.o8 x Z).1]
     exact(alP x Z).1
  |false=>
   have xT:(M.B5 bC lit n1).blk b=a6 (cs.map (gK bC lit)):=by
    show(if bC b then bk else(M.blk b).map (·.map (gK bC lit)))=_
    rw[l,f];rfl
   obtain⟨K,A,U,e,G,h4,h5⟩:=z.blk b _ xT;rw[H b l];rw[apq]at h4 h5;refine⟨K,⟨A,.inr ⟨b,l,by rw[f];rfl,rfl⟩⟩,U,e,G,h4,h5.abC λu x i C=>?_⟩
   cases L:x.ref with
   |none=>
    rw[gF (by rw[L];intro b h;cases h)]at C
    exact F4 (by rw[L];intro b h;cases h) C
   |some j=>
    cases B:bC j with
    |true=>
     rw[rV L B]at C;cases C with
     |p C=>cases C;exact(M3 x j (.inr ⟨b,cs,l,f,i⟩) L B).2
    |false=>
     rw[gF (by rw[L];intro b h;cases h;exact B)]at C
     exact F4 (by rw[L];intro b h;cases h;exact B) C
 ·cases l:bC b with
  |true=>
   rw[W b l]at f;obtain⟨O,I⟩:=h.qS b cs f x i j o;refine⟨by rw[ok.bu b l];exact O,?_⟩
   obtain Z|Z:=ok.clo b cs l f x i j o
   ·rw[W j Z];exact I
   ·exact(alP x Z).2 j o
  |false=>
   have xT:(M.B5 bC lit n1).blk b=a6 (cs.map (gK bC lit)):=by
    show(if bC b then bk else(M.blk b).map (·.map (gK bC lit)))=_
    rw[l,f];rfl
   cases B:bC j with
   |false=>
    obtain⟨O,I⟩:=z.qS b _ xT x (apN.2 ⟨x,i,gF (by rw[o];intro b h;cases h;exact B)⟩) j o
    exact⟨ok.ns' b cs l f x i j o B O,(R.1 I).2⟩
   |true=>
    have hx':M.bu b=bj:=ok.own b l (by rw[f];rfl) x cs f i j o B
    exact⟨hx',by rw[W j B];exact(M3 x j (.inr ⟨b,cs,l,f,i⟩) o B).1⟩
 ·cases l:bC b with
  |true=>
   cases B:bC j with
   |true=>
    rw[E b l,E j B]at e;exact h.inj b j (by rw[<-W b l];exact f) (by rw[<-W j B];exact o) e
   |false=>
    rw[E b l,H j B]at e;have al:(s.blk b).isSome=bj:=by rw[<-W b l];exact f
    obtain⟨cs,jz⟩:=apn.1 al;obtain⟨-,-,U,e0,g3,-⟩:=h.blk b cs jz;exact api e.symm (apart _ (U' b l al) (by rw[g3];rfl) j B o)
  |false=>
   cases B:bC j with
   |true=>
    rw[H b l,E j B]at e;have al:(s.blk j).isSome=bj:=by rw[<-W j B];exact o
    obtain⟨cs,jz⟩:=apn.1 al;obtain⟨-,-,U,e0,g3,-⟩:=h.blk j cs jz;exact api e (apart _ (U' j B al) (by rw[g3];rfl) b l f)
   |false=>
    rw[H b l,H j B]at e;exact z.inj b j ((R (m:=n1)).2 ⟨l,f⟩) ((R (m:=n1)).2 ⟨B,o⟩) e
 ·have g:=h.gh p F
  have hn:∀x∈p.2.parts,x.ref=bk:=λx i=>by
   cases L:x.ref with
   |none=>rfl
   |some b=>exact api (Il i L) (qj p F b)
  have id1:yD bC lit p.2=p.2:=by
   generalize p.2=d at hn;cases d with
   |agg xs=>exact aql D.agg ((apz λx i=>gF (by rw[hn x i];intro b h;cases h)).trans (aqo _))
   |aP xs=>exact aql D.aP ((apz λx i=>gF (by rw[hn x i];intro b h;cases h)).trans (aqo _))
   |_=>exact gF (f:=bC) (g:=lit) (by rw[hn _ (apg.2 rfl)];intro b h;cases h)
  exact bU.Zs (bC:=bC) (lit:=lit) (by rw[id1];exact g) (λx i v _ J=>.p ((J.pure (hn x i)).mono low)) (λx i b f _=>by rw[hn x i]at f;cases f)
 ·have h0:=h.kp.obj k q r
  exact vH k q (λ⟨b,_,A,G⟩=>h.kp.off k (.inl (by rw[r];rfl)) b A G.symm) h0
 ·have hX:=h.kp.x k r
  exact⟨kXX k hX λ⟨b,_,A,G⟩=>h.kp.off k (.inr r) b A G.symm,.inl hX⟩
 ·exact apV (h.kp.lt k r) z.below.sz
 ·cases l:bC b with
  |true=>
   rw[E b l];exact h.kp.off k r b (by rw[<-W b l];exact f)
  |false=>
   rw[H b l];refine apart k (λ⟨j,_,A,G⟩=>h.kp.off k r j A G.symm) ?_ b l f
   rw[ap9 (h.kp.below r)];rfl
open Go Go.RowKit Go.Proofs
def fI.abs(e:fI P Good j d u h v)(m:y6 u.tmps=b):aI P Good b j d u h v:=by obtain⟨s1,q,p⟩:=e;intro c Q a w k i g s r o;subst m;exact q.2 c Q a w k i g s r λf n l=>o f n (p c f n s l)
def af.abs{n gb:aw}{k:Code}{s s':St}{e:iw}(h:af P Good gb k s e s')(a:y6 s.tmps=n):aI P Good n gb k s e s':=h.YT.abs a
def aI.seq{n gb:aw}{x y:Code}{s s1 s2:St}{e:iw}(l:aI P Good n gb x s y3 s1)(k:aI P Good n gb y s1 e s2):aI P Good n gb (.seq x y) s e s2:=by intro c Q a w f d b g m j;exact oM rfl (l c _ a w f d b g m λo h i=>k c Q o h f d b g i j)
def aI.to(s:aI P Good b j d u h v)(o:∀(c:Ctx)(a:Act)(w:bn),c.gb<=j->Rel c b v.fs a w->Rel c b B.fs a w):aI P Good b j d u h B:=
 λc Q a w k i g n p m=>s c Q a w k i g n p λf e l=>m f e (o c f e n l)
def aI.by(s:aI P Good b j d u h v)(k:∀(c:Ctx)(a:Act)(w:bn),c.gb<=j->Rel c b B.fs a w->Rel c b u.fs a w):aI P Good b j d B h v:=
 λc Q a w g f n e l i=>s c Q a w g f n e (k c a w e l) i
def aI.amQ(t:aI P Good b j d u h v)(o:u.fs=B.fs)(m:v.fs=L.fs):aI P Good b j d B h L:=
 λc Q a w g f s k p l=>t c Q a w g f s k (by rw[o];exact p) λq n i=>l q n (by rw[<-m];exact i)
def aI.loop{n gb:aw}{body:Code}(inv:aw->St)(N:aw){e:iw}{s':St}(q:e≠.normal)(round:∀i<N,aI P Good n gb body (inv i) y3 (inv (i+1)))
  (last:aI P Good n gb body (inv N) e s'):aI P Good n gb (.loop body) (inv 0) e s':=by
 intro c Q a w m l j h g r;have s:∀d b,Rel c n s'.fs d b->Q e.BA d b:=λd b f=>by have:=r d b f;cases e<;>exact this
 refine rX (λk a w=>∃i,N-i=k/\i<=N/\Rel c n (inv i).fs a w) (N-0) ⟨0,rfl,apJ _,g⟩ λk a w p=>?_
 obtain⟨i,rfl,t,g⟩:=p;obtain o|u:=apy i N
 ·exact round i o c _ a w m l j h g λd b f=>⟨N-(i+1),by omega,i+1,rfl,o,f⟩
 ·obtain rfl:i=N:=za
  refine last c _ a w m l j h g λd b f=>?_
  have:=s d b f;cases e with
  |normal=>exact api rfl q
  |exit id=>exact this
  |ret=>exact this
def mv(bC:aw->b5)(lit:D->b3)(l:ai (aw×D)):ai (aw×D):=l.map λp=>(p.1,yD bC lit p.2)
def iR(bC:aw->b5)(lit:D->b3)(bl:ai (aw×ai D)):ai (aw×ai D):=(bl.filter λp=>!bC p.1).map λp=>(p.1,p.2.map (gK bC lit))
variable {I:cp} {J:bn->Prop} {c e:ai (aw×ai D)} {i l:ai (aw×D)} {n:Type} {q r:ai aw}
def LO(f:aw×n->aw×n)(a:∀p,(f p).1=p.1)(l:ai (aw×n))(b:aw):(l.map f).find? (λp=>p.1==b)=(l.find? λp=>p.1==b).map f:=by
 rw[asH];have:((λp:aw×n=>p.1==b)∘f)=λp=>p.1==b:=by funext p;show((f p).1==b)=_;rw[a]
 rw[this]
def zD(q:aw->b5)(l:ai (aw×n))(b:aw):(l.filter λp=>q p.1).find? (λp=>p.1==b)=if q b then l.find? (λp=>p.1==b)else bk:=by
 induction l with
 |nil=>cases q b<;>rfl
 |cons p l a=>
  rw[vk,ar_];by_cases c:p.1=b;rw[c,gp];cases d:q b;simp only[cy,jv];rw[a,d];rfl;simp only[gn];rw[ar_,c,gp];have:(p.1==b)=aj:=c4.2 c;rw[this];cases d:q p.1;simp only[cy,jv];exact a;simp only[gn];rw[ar_,this];exact a
def PW(n:aw)(l:ai (aw×D))(bl:ai (aw×ai D))(ns ns':ai aw)(bC:aw->b5)(lit:D->b3):
  (lay n (mv bC lit l) (iR bC lit bl) ns').fs=(lay n l bl ns).fs.B5 bC lit λb=>ns'.contains b:=by
 have d:(lay n (mv bC lit l) (iR bC lit bl) ns').fs.tmp=((lay n l bl ns).fs.B5 bC lit λb=>ns'.contains b).tmp:=by
  funext t
  show(lay n (mv bC lit l) (iR bC lit bl) ns').fs.tmp t=yD bC lit ((lay n l bl ns).fs.tmp t);rw[ct,ct];split;rw[mv,LO (λp:aw×D=>(p.1,yD bC lit p.2)) (λ_=>rfl)];cases l.find? λp=>p.1==t<;>rfl;rfl
 have c:(lay n (mv bC lit l) (iR bC lit bl) ns').fs.blk=((lay n l bl ns).fs.B5 bC lit λb=>ns'.contains b).blk:=by
  funext b
  show(lay n (mv bC lit l) (iR bC lit bl) ns').fs.blk b=if bC b then bk else((lay n l bl ns).fs.blk b).map (·.map (gK bC lit))
  rw[fU,fU,iR,LO (λp:aw×ai D=>(p.1,p.2.map (gK bC lit))) (λ_=>rfl),zD (λb=>!bC b)];cases bC b;simp only[Bool.not_false,gn,cy,jv];cases bl.find? λp=>p.1==b<;>rfl;rfl
 have a:(lay n (mv bC lit l) (iR bC lit bl) ns').fs.bu=((lay n l bl ns).fs.B5 bC lit λb=>ns'.contains b).bu:=rfl;generalize(lay n (mv bC lit l) (iR bC lit bl) ns').fs=x at*;generalize(lay n l bl ns).fs.B5 bC lit (λb=>ns'.contains b)=y at*;cases x;cases y;simp only at d c a;rw[d,c,a]
def kZ(h:(lay b l c q).fs.blk j=a6 k):(j,k)∈c:=by
 rw[fU]at h;obtain⟨p,a,rfl⟩:=arA.1 h;have d:=aqA a;have n:p.1=j:=by simpa using aro a
 rw[<-n];exact d
def PV(h:f∈((lay b l c q).fs.tmp j).parts):f=.any\/∃p∈l,f∈p.2.parts:=by
 rw[ct]at h;split at h;cases a:l.find? λp=>p.1==j with
 |none=>rw[a]at h;exact y1 (apg.1 h)
 |some p=>rw[a]at h;exact y2 ⟨p,aqA a,h⟩
 exact y1 (apg.1 h)
def JX(bC:aw->b5)(l:ai (aw×D))(bl:ai (aw×ai D))(d:D):Prop:=(∃p∈l,d∈p.2.parts)\/∃p∈bl,bC p.1=aj/\d∈p.2
def LB{bC:aw->b5}(h:(lay b l c q).fs.holds bC f):f=.any\/JX bC l c f:=by
 rcases h with⟨t,a⟩|⟨d,cs,ns,e,n⟩
 obtain h|h:=PV a
 exact y1 h;exact y2 (y1 h);exact y2 (y2 ⟨_,kZ e,ns,n⟩)
def aI.Vh{P:cp}{Good:bn->Prop}{n:aw}{k:Code}{e:iw}{l l':ai (aw×D)}{bl AR:ai (aw×ai D)}{ns ns':ai aw}(m m':ai aw)(bC:aw->b5)(pins:ai D)(gb:aw)
  (w:∀lit:D->b3,(∀d,(D.lit (lit d)).bV=bj)->aI P Good n gb k (lay n (mv bC lit l) (iR bC lit bl) m) e (lay n (mv bC lit l') (iR bC lit AR) m'))
  (v:(AR.filter λp=>bC p.1)=bl.filter λp=>bC p.1) (u:∀b,bC b=bj->ns'.contains b=ns.contains b)
  (o:∀p∈bl,bC p.1=bj->∀d∈p.2,∀a,d.ref=a6 a->bC a=bj\/d∈pins)
  (o8:∀x∈pins,x.sized=bj/\(∃b cs,(lay n l bl ns).fs.blk b=a6 cs/\x∈cs)/\∃b,x.ref=a6 b/\b<gb/\bC b=aj)
  (t:∀b,bC b=aj->ns.contains b=bj->m.contains b=bj\/∀p∈bl,p.1=b->∀d∈p.2,∀a,d.ref=a6 a->bC a=bj)
  (q:∀b,bC b=aj->m'.contains b=bj->ns'.contains b=bj)
  (own:∀p∈AR,bC p.1=aj->∀d∈p.2,∀a,d.ref=a6 a->bC a=bj->ns'.contains p.1=bj)
  (sz:∀d,JX bC l bl d->d.sized=bj) (z:∀d b,JX bC l' AR d->d.ref=a6 b->bC b=bj->(lay n l bl ns).fs.holds bC d):
  aI P Good n 0 k (lay n l bl ns) e (lay n l' AR ns'):=by
 refine aI.frame (T:=λlit=>lay n (mv bC lit l) (iR bC lit bl) m) (T':=λlit=>lay n (mv bC lit l') (iR bC lit AR) m') bC (λlit=>PW ..) (λlit=>PW ..)
  ⟨λb h=>?_,u,λb cs f c d g a j=>o _ (kZ c) f d g a j,o8,λb cs f c d g a j i y=>?_,λb cs f _ _ _ _ _ _ c=>q b f c,λd g=>?_,λb f _ d cs c g a j i=>own _ (kZ c) f d g a j i,λd b f c i=>?_⟩ w
 rw[fU,fU];have s:=zD bC bl b;have r:=zD bC AR b;rw[h,aph rfl]at s r;rw[<-s,<-r,v];obtain h|h:=t b f y
 exact h;exact api (h _ (kZ c) rfl d g a j) (by rw[i];simp);obtain rfl|h:=LB g
 rfl;exact sz d h;obtain rfl|h:=LB f
 cases c;exact z d b h c i
def aI.zC(m m':ai aw)(bC:aw->b5)
  (ns':∀lit:D->b3,(∀P,(D.lit (lit P)).bV=bj)->aI I J b 0 d (lay b (mv bC lit l) (iR bC lit c) m) h (lay b (mv bC lit i) (iR bC lit e) m'))
  (Good:(e.filter λp=>bC p.1)=c.filter λp=>bC p.1) (j:∀n,bC n=bj->r.contains n=q.contains n)
  (k:∀p∈c,bC p.1=bj->∀P∈p.2,∀a,P.ref=a6 a->bC a=bj)
  (g:∀n,bC n=aj->q.contains n=bj->m.contains n=bj\/∀p∈c,p.1=n->∀P∈p.2,∀a,P.ref=a6 a->bC a=bj)
  (f:∀n,bC n=aj->m'.contains n=bj->r.contains n=bj)
  (own:∀p∈e,bC p.1=aj->∀P∈p.2,∀a,P.ref=a6 a->bC a=bj->r.contains p.1=bj)
  (sz:∀P,JX bC l c P->P.sized=bj) (t:∀P n,JX bC i e P->P.ref=a6 n->bC n=bj->(lay b l c q).fs.holds bC P):
  aI I J b 0 d (lay b l c q) h (lay b i e r):=
 aI.Vh m m' bC [] 0 ns' Good j (λp ns l' P o a s=>y1 (k p ns l' P o a s)) (λ_ l'=>api l' apQ) g f own sz t
namespace Tw
open fb
variable {G:bn->Prop}
def vS(b:aw):ai Mk->D
 |[]=>yI 0 bj []
 |x::xs=>.bG b (x::xs).length 7
def Bc(b:aw):ai Mk->ai (aw×ai D)
 |[]=>[]
 |x::xs=>[(b,(x::xs).flatMap vt)]
structure Oc where
 v:b3
 u:b3
 bs:ai Bd
 n:aw
 i:aw
def cI(o:Oc)(nm:cB)(aC done:ai Mk)(j:aw):St:=lay 60 [(3,yT o.v),(2,yT o.u),(19,aQ A4 o.bs),(20,nat o.n),(21,nat o.i),(6,y0 1 0),(29,aQ vt aC),(30,nat (y6 aC)),(31,nat j)] ((1,[yT (.string nm),vS 2 done])::Bc 2 done) [1]
def cE(o:Oc)(nm:cB)(done:ai Mk):St:=lay 60 [(3,yT o.v),(2,yT o.u),(19,aQ A4 o.bs),(20,nat o.n),(21,nat o.i),(6,y0 1 0)] ((1,[yT (.string nm),vS 2 done])::Bc 2 done) [1]
variable {K:Oc} (a:aa G) {o:cB} {s t:ai Mk} {y:Mk}
def afO(h:y6 s<=1000000):(vt y).all D.bV=bj/\0<1/\y6 (s.flatMap vt)=y6 s*7/\y6 (vt y)=1*7/\y6 s+1<=2^62/\(y6 s+1)*128<=2^47:=by rw[dq p_];exact⟨rfl,by omega,rfl,rfl,by omega,by omega⟩
def ads(i:aa G)(c:j<y6 s)(nm:y6 s<=1000000)(r:y6 t<=1000000)(q:Qk (y7 s j bc).x)(p:Qk (y7 s j bc).y):
  fI zZq G 0 (ae f44 1) (cI K o s t j) y3 (cI K o s (t++[y7 s j bc]) (j+1)):=by
 have n:=ay p_ za c;have l:=aq p_ za c;have e:=fO p_ c bc;have q0:Qk 0:=GO zv;generalize y7 s j bc=m at*;obtain⟨h,f,d⟩:=m;have a1:=YH i q q0;have k:=YH i p q0;rw[asQ]at a1 k;cases t with
 |nil=>exact fI.br i (ro:=[]) (m:=60) [(2,3)] (aB ..) [.eb 32 (ah c),yu n,yu l,.eq 34 e,z3 a1,z3 k,.eq 51 (bL (ax c za))] (by rfl) zk
 |cons y b=>
  have g:fI zZq G 0 (ae f44 1) (cI K o s (y::b) j) y3 (lay 60 [(3,yT K.v),(2,yT K.u),(19,aQ A4 K.bs),(20,nat K.n),(21,nat K.i),(6,y0 1 0),(29,aQ vt s),(30,nat (y6 s)),(31,nat (j+1))] [(1,[yT (.string o),.bG 2 (y6 (y::b)+1) 7]),(2,(y::b).flatMap vt++vt ⟨h,f,d⟩)] [1]):=
   fI.br i (ro:=[]) (m:=60) [] (aB ..) [.eb 32 (ah c),yu n,yu l,.eq 34 e,z3 a1,z3 k,.er 48 (yI 1 bj (vt ⟨h,f,d⟩)),yu (afO (s:=y::b) (y:=⟨h,f,d⟩) r),.eq 51 (bL (ax c za))] (by rfl) zk
  rw[show y6 (y::b)+1=y6 (y::b++[(⟨h,f,d⟩:Mk)]) from by simp,show(y::b).flatMap vt++vt (⟨h,f,d⟩:Mk)=(y::b++[(⟨h,f,d⟩:Mk)]).flatMap vt from by simp]at g;exact g
def akq:xo G (ae f44 1) (cI K o s t (y6 s)) (y5 2) (cE K o t):=by cases t<;>exact af.r a [.eb 32 (av (apc (y6 s)))]
def adC(o:Oc)(nm:cB)(aC done:ai Mk)(j:aw):(cI o nm aC done j).tmps.length=60:=aB ..
def agA(c:aa G)(d:y6 s<=1000000)(b:∀m∈s,Qk m.x/\Qk m.y):
  aI zZq G 60 0 (.loop (ae f44 1)) (cI K o s [] 0) (y5 2) (cE K o s):=by
 have h:=aI.loop (P:=zZq) (Good:=G) (n:=60) (gb:=0) (body:=ae f44 1) (λj=>cI K o s (s.take j) j) (y6 s) (e:=y5 2) (s':=cE K o s) z1 (λj a=>by
  have r:=ads c (K:=K) (o:=o) (t:=s.take j) a d (by rw[apr];omega) (b _ (aA a bc)).1 (b _ (aA a bc)).2;rw[show s.take j++[y7 s j bc]=s.take (j+1)from by rw[aq6,apj a,apf,apj a];rfl]at r;exact r.abs (adC ..)) (by
  have r:=akq c (K:=K) (o:=o) (s:=s) (t:=s);rw[aqM];exact r.abs (adC ..))
 exact h
end Tw
def aI.block{P:cp}{Good:bn->Prop}{n gb id:aw}{x:Code}{s s':St}(h:aI P Good n gb x s y3 s'):aI P Good n gb (.block id x) s y3 s':=by intro c Q a w f e d i k j;exact uJ rfl (h c _ a w f e d i k λl b g=>j l b g)
variable {A:aw}
def aI.adG{Good:bn->Prop}{x:Code}(h:aI I Good b j x u (y5 A) v):aI I Good b j (.block A x) u y3 v:=by intro c Q a w f e d i k s;refine uJ rfl (h c _ a w f e d i k λl n g=>?_);have:=s l n g;simpa [Exit.inBlock]using this
namespace Tw
open fb
variable {G:bn->Prop}
def Rg(K:Code):Code:=kL (kL (kR (kR K)))
def akk:(ae f44 0)=.seq (kL (ae f44 0)) (.seq (kL (kR (ae f44 0))) (.seq (.block 1 (Rg (ae f44 0))) (kR (kR (kR (ae f44 0)))))):=zk
def amW:(Rg (ae f44 0))=.seq (kL (Rg (ae f44 0))) (.seq (kL (kR (Rg (ae f44 0)))) (.seq (kL (kR (kR (Rg (ae f44 0))))) (kR (kR (kR (Rg (ae f44 0))))))):=zk
def oT(o:Oc):ai (aw×D):=[(3,yT o.v),(2,yT o.u),(19,aQ A4 o.bs),(20,nat o.n),(21,nat o.i)]
section
variable {o:Oc}
variable {M:cB} {R Z:aw} {S w:ai D} {U:Bd} (a:aa G) {p:ai Bd} {x:b3} {z:bF b3}
def ai0(b:o.i<o.n):xo G (kL (ae f44 0)) (lay 60 (oT o) []) y3 (lay 60 ((22,bool bj)::oT o) []):=
 af.r a [.eb 22 (ah b)]
def aiZ:xo G (kL (kR (ae f44 0))) (lay 60 ((22,bool bj)::oT o) []) y3 (lay 60 (oT o) []):=
 af.r a []
def aiY(b:o.i<y6 o.bs):xo G (kL (Rg (ae f44 0))) (lay 60 (oT o) []) y3 (lay 60 ((5,y0 0 0)::oT o) [(0,A4 (y7 o.bs o.i bc))] []):=
 af.r a [yu (ay AP za b),yu (aq AP za b),.eq 24 (fO AP b bc)]
def aiX:xo G (kL (kR (Rg (ae f44 0)))) (lay 60 ((5,y0 0 0)::oT o) [(0,A4 U)] []) y3 (lay 60 ((6,y0 1 0)::(5,y0 0 0)::oT o) [(0,A4 U),(1,[yT (.string U.nm),vS 2 []])] []):=
 af.br a (ro:=[27]) (m:=60) (aB ..) []
def aiW(a:aa G)(e:y6 U.aC<=1000000)(d:∀m∈U.aC,Qk m.x/\Qk m.y):xo G (kL (kR (kR (Rg (ae f44 0))))) (lay 60 ((6,y0 1 0)::(5,y0 0 0)::oT o) [(0,A4 U),(1,[yT (.string U.nm),vS 2 []])] []) y3 (cE o U.nm U.aC):=by have c:=agA a (K:=o) (o:=U.nm) e d;obtain⟨nm,f⟩:=U;cases f<;>exact af.r a [.code c]
def pc:bF b3->D
 |none=>yI 0 bj []
 |some v=>yT v
def agJ(a:(pc z).bV=bj)(h:y6 k=b*2)(v:b<=1000):([yT (.string M),pc z]:ai D).all D.bV=bj/\0<1/\y6 k=b*2/\y6 ([yT (.string M),pc z]:ai D)=1*2/\b+1<=2^62/\(b+1)*40<=2^47:=
 ⟨by rw[List.all_cons,List.all_cons,a];rfl,by omega,h,rfl,by omega,by omega⟩
def aaV{ln:cB}:
  xo G (kR (kR (kR (Rg (ae f44 0))))) (lay 60 [(3,y0 7 0),(2,yT x),(6,y0 1 0),(19,aQ A4 p),(20,nat j),(21,nat A)] [(1,[yT (.string M),pc z]),(7,[yT (.string ln),yI 0 bj [],yI R aj k,yI b aj w])] []) y3
   (lay 60 [(3,y0 7 0),(2,yT x),(19,aQ A4 p),(20,nat j),(21,nat A)] [(7,[yT (.string ln),.bG 8 1 2,yI R aj k,yI b aj w]),(8,[yT (.string M),pc z])] [7]):=by
 cases z<;>exact af.r a []
def afw{ln:cB}(d:(pc z).bV=bj)(h:y6 k=Z*2)(e:Z<=1000):
  xo G (kR (kR (kR (Rg (ae f44 0))))) (lay 60 [(3,y0 7 0),(2,yT x),(6,y0 1 0),(19,aQ A4 p),(20,nat j),(21,nat A)] [(1,[yT (.string M),pc z]),(7,[yT (.string ln),.bG 8 Z 2,yI R aj w,yI b aj S]),(8,k)] [7]) y3
   (lay 60 [(3,y0 7 0),(2,yT x),(19,aQ A4 p),(20,nat j),(21,nat A)] [(7,[yT (.string ln),.bG 8 (Z+1) 2,yI R aj w,yI b aj S]),(8,k++[yT (.string M),pc z])] [7]):=by
 have q:=agJ (k:=k) (M:=M) d h e;cases z;exact af.r a [.er 55 (yI 1 bj [yT (.string M),pc bk]),yu q];rename_i z;exact af.r a [.er 55 (yI 1 bj [yT (.string M),pc (a6 z)]),yu q]
def aiV{o:Oc}(b:o.i<o.n)(c:o.n<=1000):xo G (kR (kR (kR (ae f44 0)))) (lay 60 (oT o) []) y3 (lay 60 (oT {o with i:=o.i+1}) []):=
 af.r a [.eq 58 (bL (ax b za))]
end
end Tw
def Ks(b:aw):b5:=hM 7 b
def DA(h:b<7):Ks b=aj:=by unfold Ks;rw[arc,ne_eq,aqB];omega
def F_(h:7<=b):Ks b=bj:=Nat.ble_eq_true_of_le h
def aec(l:ai (aw×D)):Prop:=∀p∈l,∀x∈p.2.parts,x.sized=bj/\∀b,x.ref=a6 b->b<7
def YK(bl:ai (aw×ai D)):Prop:=∀p∈bl,p.1<7/\∀x∈p.2,x.sized=bj/\∀b,x.ref=a6 b->b<7
def aed(bl:ai (aw×ai D)):Prop:=∀p∈bl,7<=p.1/\∀x∈p.2,∀b,x.ref=a6 b->7<=b
variable {g:D->b3}
def ab8(h:∀x∈f.parts,x.sized=bj/\∀b,x.ref=a6 b->b<7):yD Ks g f=f:=by
 have one:∀x:D,(∀b,x.ref=a6 b->b<7)->gK Ks g x=x:=λx h=>gF λb c=>DA (h b c)
 cases f with
 |agg xs=>exact aql D.agg ((apz λx a=>one x (h x a).2).trans (aqo _))
 |aP xs=>exact aql D.aP ((apz λx a=>one x (h x a).2).trans (aqo _))
 |_=>exact one _ (h _ (apg.2 rfl)).2
def ab9(h:aec l):mv Ks g l=l:=by unfold mv;exact(apz λp a=>by rw[ab8 (h p a)];rfl).trans (aqo _)
def Qj(h:YK e)(bl:aed c):iR Ks g (e++c)=e:=by unfold iR;rw[aq_,aqq.2 λp a=>by rw[DA (h p a).1];rfl,aqQ.2 λp a=>by rw[F_ (bl p a).1];simp,aqs];exact(apz λp a=>by rw[show p.2.map (gK Ks g)=p.2 from(apz λx d=>gF λb c=>DA (((h p a).2 x d).2 b c)).trans (aqo _)];rfl).trans (aqo _)
def aI.Ks{n t b off:aw}{k:Code}{e:iw}{l l':ai (aw×D)}{bl AR r:ai (aw×ai D)}{ns ns' hs:ai aw}(F:t<n)(B:7<=b)(l1:aec l)(l2:aec l')(w:YK bl)(u:YK AR)(h:aed r)(y:∀x∈hs,7<=x)(z:∀x∈ns,x<7)(I:∀x∈ns',x<7)
  (H:∀v,aI P Good n 0 k (lay n ((t,yT v)::l) bl ns) e (lay n ((t,yT v)::l') AR ns')):aI P Good n 0 k (lay n ((t,y0 b off)::l) (bl++r) (ns++hs)) e (lay n ((t,y0 b off)::l') (AR++r) (ns'++hs)):=by
 have E:∀(lit:D->b3){l:ai (aw×D)},aec l->mv Lw.Ks lit ((t,y0 b off)::l)=(t,yT (lit (y0 b off)))::l:=λlit {l} A=>by show(t,yD Lw.Ks lit (y0 b off))::mv Lw.Ks lit l=_;rw[ab9 A];exact aql (·::l) (aql (Prod.mk t) (rV (i:=y0 b off) rfl (F_ B)))
 have C:∀{bl:ai (aw×ai D)},YK bl->((bl++r).filter λp=>Lw.Ks p.1)=r:=λ{bl} A=>by rw[aq_,aqQ.2 λp c=>by rw[DA (A p c).1];simp,aqq.2 λp c=>F_ (h p c).1];rfl
 refine aI.zC ns ns' Lw.Ks (λlit _=>by rw[E lit l1,E lit l2,Qj w h,Qj u h];exact H _) (by rw[C w,C u]) (λx m=>?_) (λp c i d f o q=>?_) (λx m j=>?_) (λx m j=>?_) (λp c i d f o q s=>?_) (λd f=>?_) (λd o f q i=>?_);have g:∀(a:ai aw),(∀x∈a,x<7)->(a++hs).contains x=hs.contains x:=λa G=>by rw[aqf,apt,apt,aps];exact⟨λh=>h.resolve_left λh=>(by have:=G x h;rw[DA this]at m;exact api m zb),y2⟩
 rw[g ns' I,g ns z];obtain c|c:=aps.1 c
 rw[DA (w p c).1]at i;cases i;exact F_ ((h p c).2 d f o q);left;rw[apt]at j⊢;obtain j|j:=aps.1 j
 exact j;rw[F_ (y x j)]at m;cases m;rw[apt]at j⊢;exact aps.2 (y1 j);obtain c|c:=aps.1 c
 rw[DA (((u p c).2 d f).2 o q)]at s;cases s;rw[F_ (h p c).1]at i;cases i;rcases f with⟨p,c,f⟩|⟨p,c,i,f⟩
 obtain rfl|c:=apo.1 c
 rw[apg.1 f];rfl;exact(l1 p c d f).1;obtain c|c:=aps.1 c
 exact((w p c).2 d f).1;rw[F_ (h p c).1]at i;cases i;rcases f with⟨p,c,f⟩|⟨p,c,s,f⟩
 obtain rfl|c:=apo.1 c
 refine y1 ⟨t,?_⟩;rw[ct,aph F,ar_];simp only[gp];exact f;rw[DA ((l2 p c d f).2 o q)]at i;cases i;obtain c|c:=aps.1 c
 rw[DA (((u p c).2 d f).2 o q)]at i;cases i;rw[F_ (h p c).1]at s;cases s
def aI.DJ{n gb:aw}(s:aI P Good n gb d u h v)(b:u=B)(a:v=L):aI P Good n gb d B h L:=by subst b;subst a;exact s
def afU(x:D):b5:=x.sized&&(match x.ref with|none=>bj|some b=>hM (b+1) 7)
def al_(l:ai (aw×D)):b5:=l.all λp=>p.2.parts.all afU
def al'(bl:ai (aw×ai D)):b5:=bl.all λp=>hM (p.1+1) 7&&p.2.all afU
def UY{x:D}(h:afU x=bj):x.sized=bj/\∀b,x.ref=a6 b->b<7:=by unfold afU at h;rw[dT]at h;refine⟨h.1,λb c=>?_⟩;have a:=h.2;rw[c]at a;exact arE a
def mj{l:ai (aw×D)}(h:al_ l=bj):aec l:=λp b x a=>UY (apH.1 (apH.1 h p b) x a)
def m7{bl:ai (aw×ai D)}(h:al' bl=bj):YK bl:=λp b=>by have:=apH.1 h p b;rw[dT]at this;exact⟨arE this.1,λx a=>UY (apH.1 this.2 x a)⟩
def I4{bC:aw->b5}(a b:ai (aw×ai D)):iR bC g (a++b)=iR bC g a++iR bC g b:=by unfold iR;rw[aq_,aqp]
def jH{bC:aw->b5}{a:ai (aw×ai D)}(h:∀p∈a,bC p.1=bj):iR bC g a=[]:=by unfold iR;rw[aqQ.2 λp b=>by rw[h p b];simp];rfl
def ir{bC:aw->b5}{b:aw}{cs:ai D}{a:ai (aw×ai D)}(h:bC b=aj):iR bC g ((b,cs)::a)=(b,cs.map (gK bC g))::iR bC g a:=by unfold iR;rw[vk,h];rfl
def Uy{ρ:aw->aw}(h:∀b,f.ref=a6 b->ρ b=b):f.fD ρ=f:=by cases f<;>first|rfl|(show _=_;simp only[D.fD];rw[h _ rfl])
namespace Tw
open fb
variable {G:bn->Prop}
structure Cp where
 u:b3
 ln:cB
 a:aw
 js:ai D
 b:aw
 ds:ai D
def ba(o:Cp):aw->ai D
 |0=>[yT (.string o.ln),yI 0 bj [],yI o.a aj o.js,yI o.b aj o.ds]
 |i+1=>[yT (.string o.ln),.bG 8 (i+1) 2,yI o.a aj o.js,yI o.b aj o.ds]
def j6(bs:ai Bd):aw->ai D
 |0=>[]
 |i+1=>j6 bs i++[yT (.string (y7 bs i bc).nm),vS (10+i) (y7 bs i bc).aC]
def sR(bs:ai Bd):aw->ai (aw×ai D)
 |0=>[]
 |i+1=>[(8,j6 bs (i+1))]
def jK(bs:ai Bd):aw->ai (aw×ai D)
 |0=>[]
 |i+1=>Bc (10+i) (y7 bs i bc).aC++jK bs i
def zK(o:Cp)(bs:ai Bd)(i:aw):ai (aw×ai D):=(7,ba o i)::(sR bs i++jK bs i)
def Y8(o:Cp)(bs:ai Bd)(i:aw):ai (aw×D):=[(2,yT o.u),(19,aQ A4 bs),(20,nat (y6 bs)),(21,nat i)]
def cpS(o:Cp)(bs:ai Bd)(i:aw):St:=lay 60 ((3,y0 7 0)::Y8 o bs i) ([]++zK o bs i) ([]++[7,8])
variable {y:Mk}
def adB{x:D}(h:x∈vt y):x.ref=bk:=by
 have e:(vt y).all (λx=>x.ref.isNone)=bj:=zk
 exact Option.isNone_iff_eq_none.1 (apH.1 e x h)
def l_{aC:ai Mk}{x:D}(h:x∈aC.flatMap vt):x.ref=bk:=by obtain⟨m,-,h⟩:=aq9.1 h;exact adB h
def xD{b:aw}{aC:ai Mk}{p:aw×ai D}(h:p∈Bc b aC):p.1=b/\∀x∈p.2,x.ref=bk:=by
 cases aC with
 |nil=>exact api h apQ
 |cons m ms=>
  rw[Bc,apg]at h;subst h;exact⟨rfl,λx a=>l_ a⟩
def mM{bs:ai Bd}:∀{i:aw}{p:aw×ai D},p∈jK bs i->10<=p.1/\p.1<10+i/\∀x∈p.2,x.ref=bk
 |0,p,h=>api h apQ
 |i+1,p,h=>by
  rcases aps.1 (show p∈Bc (10+i) (y7 bs i bc).aC++jK bs i from h)with h|h
  obtain⟨e,q⟩:=xD h;exact⟨by omega,by omega,q⟩;obtain⟨a,b,c⟩:=mM h;exact⟨a,by omega,c⟩
def C1{b a:aw}{aC:ai Mk}(h:(vS b aC).ref=a6 a):a=b:=by
 cases aC with
 |nil=>cases h
 |cons m ms=>exact(ap0 h).symm
def EA{b:aw}{aC:ai Mk}:(vS b aC).sized=bj:=by cases aC<;>rfl
def jx{bs:ai Bd}:∀{i:aw}{x:D},x∈j6 bs i->x.sized=bj/\∀b,x.ref=a6 b->10<=b/\b<10+i
 |0,p,h=>api h apQ
 |i+1,x,h=>by
  rcases aps.1 (show x∈j6 bs i++[yT (.string (y7 bs i bc).nm),vS (10+i) (y7 bs i bc).aC]from h)with h|h
  obtain⟨a,b⟩:=jx h;exact⟨a,λd c=>by have:=b d c;omega⟩;obtain rfl|h:=apo.1 h
  exact⟨rfl,λb c=>by cases c⟩;rw[apg]at h;subst h;exact⟨EA,λb c=>by rw[C1 c];omega⟩
def N7{bs:ai Bd}:∀(i:aw),y6 (j6 bs i)=i*2
 |0=>rfl
 |i+1=>by rw[j6,ap4,N7 i];show i*2+2=_;omega
def jS{o:Cp}{i:aw}{x:D}(h:x∈ba o i):x.sized=bj/\∀b,x.ref=a6 b->b=8:=by
 cases i with
 |zero=>
  simp only[ba,b4,bI,or_false]at h;obtain rfl|rfl|rfl|rfl:=h<;>exact⟨rfl,λb a=>by cases a⟩
 |succ i=>
  simp only[ba,b4,bI,or_false]at h;obtain rfl|rfl|rfl|rfl:=h
  exact⟨rfl,λb a=>by cases a⟩;exact⟨rfl,λb a=>(ap0 a).symm⟩;exact⟨rfl,λb a=>by cases a⟩;exact⟨rfl,λb a=>by cases a⟩
def p6{bs:ai Bd}{i:aw}{p:aw×ai D}(h:p∈sR bs i):p=(8,j6 bs i):=by
 cases i with
 |zero=>exact api h apQ
 |succ i=>exact apg.1 h
def uD{o:Cp}{bs:ai Bd}{i:aw}:aed (zK o bs i):=λp d=>by
 obtain rfl|d:=apo.1 d
 exact⟨apc 7,λx f b e=>by have:=(jS f).2 b e;omega⟩;obtain d|d:=aps.1 d
 obtain rfl:=p6 d;exact⟨by show 7<=8;omega,λx f b e=>by have:=(jx f).2 b e;omega⟩;obtain⟨a,b,c⟩:=mM d;exact⟨by omega,λx f b e=>by rw[c x f]at e;cases e⟩
def xJ:∀x∈([7,8]:ai aw),7<=x:=λx a=>by simp only[b4,bI,or_false]at a;omega
def ajb:∀x∈([1]:ai aw),x<7:=λx a=>by rw[apg]at a;omega
section
variable {o:Cp} {bs:ai Bd} {i:aw}
def aoU(b:aa G)(a:i<y6 bs):aI zZq G 60 0 (kL (ae f44 0)) (cpS o bs i) y3 (lay 60 ((3,y0 7 0)::(22,bool bj)::Y8 o bs i) ([]++zK o bs i) ([]++[7,8])):=
 aI.Ks zv zv (mj zk) (mj zk) (m7 rfl) (m7 rfl) uD xJ (λ_ h=>api h apQ) (λ_ h=>api h apQ)
  λv=>((ai0 b (o:=⟨v,o.u,bs,y6 bs,i⟩) a).abs (aB ..)).DJ rfl zk
def aoT(a:aa G):aI zZq G 60 0 (kL (kR (ae f44 0))) (lay 60 ((3,y0 7 0)::(22,bool bj)::Y8 o bs i) ([]++zK o bs i) ([]++[7,8])) y3 (cpS o bs i):=
 aI.Ks zv zv (mj zk) (mj zk) (m7 rfl) (m7 rfl) uD xJ (λ_ h=>api h apQ) (λ_ h=>api h apQ)
  λv=>((aiZ a (o:=⟨v,o.u,bs,y6 bs,i⟩)).abs (aB ..)).DJ zk rfl
def aoS(b:aa G)(a:i<y6 bs):aI zZq G 60 0 (kL (Rg (ae f44 0))) (cpS o bs i) y3 (lay 60 ((3,y0 7 0)::(5,y0 0 0)::Y8 o bs i) ([(0,A4 (y7 bs i bc))]++zK o bs i) ([]++[7,8])):=
 aI.Ks zv zv (mj zk) (mj zk) (m7 rfl) (m7 zk) uD xJ (λ_ h=>api h apQ) (λ_ h=>api h apQ)
  λv=>((aiY b (o:=⟨v,o.u,bs,y6 bs,i⟩) a).abs (aB ..)).DJ rfl zk
def aoR(a:aa G){b:Bd}:aI zZq G 60 0 (kL (kR (Rg (ae f44 0)))) (lay 60 ((3,y0 7 0)::(5,y0 0 0)::Y8 o bs i) ([(0,A4 b)]++zK o bs i) ([]++[7,8])) y3 (lay 60 ((3,y0 7 0)::(6,y0 1 0)::(5,y0 0 0)::Y8 o bs i) ([(0,A4 b),(1,[yT (.string b.nm),vS 2 []])]++zK o bs i) ([]++[7,8])):=
 aI.Ks zv zv (mj zk) (mj zk) (m7 zk) (m7 zk) uD xJ (λ_ h=>api h apQ) (λ_ h=>api h apQ)
  λv=>((aiX a (o:=⟨v,o.u,bs,y6 bs,i⟩) (U:=b)).abs (aB ..)).DJ zk zk
variable {E:Ctx} {H:Act} {M:cB} (a:aa G)
def anY{aC:ai Mk}:YK ((1,[yT (.string M),vS 2 aC])::Bc 2 aC):=λp f=>by
 obtain rfl|f:=apo.1 f
 refine⟨by show 1<7;omega,λx d=>?_⟩;obtain rfl|d:=apo.1 d
 exact⟨rfl,λb e=>by cases e⟩;rw[apg]at d;subst d;exact⟨EA,λb e=>by rw[C1 e];omega⟩;obtain⟨a,c⟩:=xD f;refine⟨by omega,λx d=>⟨?_,λb e=>by rw[c x d]at e;cases e⟩⟩;have:=c x d;cases x<;>first|rfl|cases this
def aoQ(d:aa G){b:Bd}(c:y6 b.aC<=1000000)(a:∀m∈b.aC,Qk m.x/\Qk m.y):aI zZq G 60 0 (kL (kR (kR (Rg (ae f44 0))))) (lay 60 ((3,y0 7 0)::(6,y0 1 0)::(5,y0 0 0)::Y8 o bs i) ([(0,A4 b),(1,[yT (.string b.nm),vS 2 []])]++zK o bs i) ([]++[7,8])) y3 (lay 60 ((3,y0 7 0)::(6,y0 1 0)::Y8 o bs i) (((1,[yT (.string b.nm),vS 2 b.aC])::Bc 2 b.aC)++zK o bs i) ([1]++[7,8])):=
 aI.Ks zv zv (mj zk) (mj zk) (m7 zk) anY uD xJ (λ_ h=>api h apQ) ajb
  λv=>((aiW d (o:=⟨v,o.u,bs,y6 bs,i⟩) (U:=b) c a).abs (aB ..)).DJ zk zk
def aoO(c:aa G)(a:i<y6 bs)(b:y6 bs<=1000):aI zZq G 60 0 (kR (kR (kR (ae f44 0)))) (lay 60 ((3,y0 7 0)::Y8 o bs i) ([]++zK o bs (i+1)) ([]++[7,8])) y3 (cpS o bs (i+1)):=
 aI.Ks zv zv (mj zk) (mj zk) (m7 rfl) (m7 rfl) uD xJ (λ_ h=>api h apQ) (λ_ h=>api h apQ)
  λv=>((aiV c (o:=⟨v,o.u,bs,y6 bs,i⟩) a b).abs (aB ..)).DJ rfl rfl
def nO(b:aw):b5:=ml b 2||hM 10 b
def xS{b:aw}(h:b=2\/10<=b):nO b=bj:=by unfold nO;rw[ap6,ar4,aqB];exact h
def ajW{b:aw}(h:nO b=bj):b=2\/10<=b:=by unfold nO at h;rw[ap6,ar4,aqB]at h;exact h
def zu{aC:ai Mk}:∀p∈Bc 2 aC++jK bs i,nO p.1=bj:=λp a=>by
 obtain a|a:=aps.1 a
 exact xS (y1 (xD a).1);exact xS (y2 (mM a).1)
def pv(lit:D->b3):ai Mk->bF b3
 |[]=>bk
 |x::xs=>a6 (lit (.bG 2 (x::xs).length 7))
def Vb{aC:ai Mk}:gK nO g (vS 2 aC)=pc (pv g aC):=by cases aC<;>rfl
def alI(h:∀d,(D.lit (g d)).bV=bj){aC:ai Mk}:(pc (pv g aC)).bV=bj:=by
 cases aC with
 |nil=>rfl
 |cons x xs=>exact h _
def s6(o:Cp)(bs:ai Bd)(i:aw)(nm:cB)(aC:ai Mk):St:=lay 60 [(3,y0 7 0),(2,yT o.u),(6,y0 1 0),(19,aQ A4 bs),(20,nat (y6 bs)),(21,nat i)] ((1,[yT (.string nm),vS 2 aC])::(Bc 2 aC++zK o bs i)) [1,7,8]
def s7(o:Cp)(bs:ai Bd)(i:aw)(nm:cB)(aC:ai Mk):St:=lay 60 [(3,y0 7 0),(2,yT o.u),(19,aQ A4 bs),(20,nat (y6 bs)),(21,nat i)] ((7,ba o (i+1))::(8,j6 bs i++[yT (.string nm),vS 2 aC])::(Bc 2 aC++jK bs i)) [7,8]
def ajU{aC:ai Mk}:iR nO g ((1,[yT (.string M),vS 2 aC])::(Bc 2 aC++zK o bs i))=(1,[yT (.string M),pc (pv g aC)])::(7,ba o i)::iR nO g (sR bs i):=by
 rw[ir rfl,I4,jH λp b=>xS (y1 (xD b).1),zK,ir rfl,I4,jH (a:=jK bs i) λp b=>xS (y2 (mM b).1),aqs]
 have c:(ba o i).map (gK nO g)=ba o i:=by cases i<;>rfl
 rw[c];show(1,[yT (.string M),gK nO g (vS 2 aC)])::_=_;rw[Vb];rfl
def ajT{aC:ai Mk}:iR nO g ((7,ba o (i+1))::(8,j6 bs i++[yT (.string M),vS 2 aC])::(Bc 2 aC++jK bs i))=[(7,ba o (i+1)),(8,(j6 bs i).map (gK nO g)++[yT (.string M),pc (pv g aC)])]:=by rw[ir rfl,ir rfl,jH zu,aqp];show [(7,ba o (i+1)),(8,(j6 bs i).map (gK nO g)++[yT (.string M),gK nO g (vS 2 aC)])]=_;rw[Vb]
def aoP(t:aa G){aC:ai Mk}(A:i<=1000):aI zZq G 60 0 (kR (kR (kR (Rg (ae f44 0))))) (s6 o bs i M aC) y3 (s7 o bs i M aC):=by
 have f6:((1,[yT (.string M),vS 2 aC])::(Bc 2 aC++zK o bs i)).filter (λp=>nO p.1)=Bc 2 aC++jK bs i:=by
  have F:(Bc 2 aC).filter (λp=>nO p.1)=Bc 2 aC:=aqq.2 λp c=>xS (y1 (xD c).1)
  have E:(jK bs i).filter (λp=>nO p.1)=jK bs i:=aqq.2 λp c=>xS (y2 (mM c).1)
  have C:(sR bs i).filter (λp=>nO p.1)=[]:=aqQ.2 λp c=>by rw[p6 c];exact(show¬nO 8=bj by decide)
  rw[ap5 (by show¬nO 1=bj;decide),aq_,F,zK,ap5 (by show¬nO 7=bj;decide),aq_,E,C];rfl
 have f7:((7,ba o (i+1))::(8,j6 bs i++[yT (.string M),vS 2 aC])::(Bc 2 aC++jK bs i)).filter (λp=>nO p.1)=Bc 2 aC++jK bs i:=by
  rw[ap5 (by show¬nO 7=bj;decide),ap5 (by show¬nO 8=bj;decide)]
  exact aqq.2 zu
 have B:∀lit:D->b3,(∀d,(D.lit (lit d)).bV=bj)->aI zZq G 60 0 (kR (kR (kR (Rg (ae f44 0))))) (lay 60 (mv nO lit [(3,y0 7 0),(2,yT o.u),(6,y0 1 0),(19,aQ A4 bs),(20,nat (y6 bs)),(21,nat i)]) (iR nO lit ((1,[yT (.string M),vS 2 aC])::(Bc 2 aC++zK o bs i))) (match i with|0=>[]|_+1=>[7])) y3
   (lay 60 (mv nO lit [(3,y0 7 0),(2,yT o.u),(19,aQ A4 bs),(20,nat (y6 bs)),(21,nat i)]) (iR nO lit ((7,ba o (i+1))::(8,j6 bs i++[yT (.string M),vS 2 aC])::(Bc 2 aC++jK bs i))) [7]):=λlit z=>by
  rw[ajU,ajT];have y:=alI z (aC:=aC);cases i with
  |zero=>exact(aaV t (ln:=o.ln) (k:=o.js) (w:=o.ds) (R:=o.a) (b:=o.b) (x:=o.u) (p:=bs) (j:=y6 bs) (A:=0) (M:=M) (z:=pv lit aC)).abs (aB ..)
  |succ i=>exact(afw t (ln:=o.ln) (w:=o.js) (S:=o.ds) (R:=o.a) (b:=o.b) (x:=o.u) (p:=bs) (j:=y6 bs) (A:=i+1) (Z:=i+1) (M:=M) (k:=(j6 bs (i+1)).map (gK nO lit)) y (by rw[apq,N7]) A).abs (aB ..)
 have l:∀p∈Bc 2 aC++jK bs i,∀x∈p.2,x.ref=bk:=λp c=>by
  obtain c|c:=aps.1 c
  ·exact(xD c).2
  ·exact(mM c).2.2
 have m:∀p∈((1,[yT (.string M),vS 2 aC])::(Bc 2 aC++zK o bs i)),p=(1,[yT (.string M),vS 2 aC])\/p=(7,ba o i)\/p∈sR bs i\/p∈Bc 2 aC++jK bs i:=λp c=>by
  obtain c|c:=apo.1 c
  ·exact y1 c
  ·obtain c|c:=aps.1 c
   ·exact y2 (y2 (y2 (aqt _ c)))
   ·obtain c|c:=apo.1 c
    ·exact y2 (y1 c)
    ·obtain c|c:=aps.1 c
     ·exact y2 (y2 (y1 c))
     ·exact y2 (y2 (y2 (aqX _ c)))
 refine aI.zC _ _ nO B (by rw[f6,f7]) (λb j=>?_) (λp c h d f q g=>?_) (λb j r=>?_) (λb j r=>?_) (λp c h d f q g s=>?_) (λd f=>?_) (λd b f j h=>?_)
 ·have:=ajW j
  rw[aqf,apt,apt];simp only[b4,bI,or_false];omega
 ·obtain rfl|rfl|c|c:=m p c
  ·exact api h (show¬nO 1=bj by decide)
  ·exact api h (show¬nO 7=bj by decide)
  ·rw[p6 c]at h;exact api h (show¬nO 8=bj by decide)
  ·rw[l p c d f]at g;cases g
 ·cases i with
  |zero=>
   refine y2 λp c e d f q g=>?_
   obtain rfl|rfl|c|c:=m p c
   ·obtain rfl|f:=apo.1 f
    ·cases g
    ·rw[apg]at f
     subst f;exact xS (y1 (C1 g))
   ·simp only[ba,b4,bI,or_false]at f
    obtain rfl|rfl|rfl|rfl:=f<;>cases g
   ·exact api c apQ
   ·rw[l p c d f]at g;cases g
  |succ i=>
   by_cases w:b=7
   ·subst w;exact y1 rfl
   refine y2 λp c e d f q g=>?_
   obtain rfl|rfl|c|c:=m p c
   ·obtain rfl|f:=apo.1 f
    ·cases g
    ·rw[apg]at f
     subst f;exact xS (y1 (C1 g))
   ·exact api e.symm w
   ·rw[p6 c]at f
    exact xS (y2 ((jx f).2 q g).1)
   ·rw[l p c d f]at g;cases g
 ·rw[apt,apg]at r
  subst r;decide
 ·obtain rfl|c:=apo.1 c
  ·show([7,8]:ai aw).contains 7=bj;decide
  ·obtain rfl|c:=apo.1 c
   ·show([7,8]:ai aw).contains 8=bj;decide
   ·rw[zu p c]at h;cases h
 ·rcases f with⟨p,c,f⟩|⟨p,c,h,f⟩
  ·have e:([(3,y0 7 0),(2,yT o.u),(6,y0 1 0),(19,aQ A4 bs),(20,nat (y6 bs)),(21,nat i)]:ai (aw×D)).all (λp=>p.2.parts.all D.sized)=bj:=zk
   exact apH.1 (apH.1 e p c) d f
  ·obtain rfl|rfl|c|c:=m p c
   ·obtain rfl|f:=apo.1 f
    ·rfl
    ·rw[apg]at f
     subst f;exact EA
   ·exact(jS f).1
   ·rw[p6 c]at f;exact(jx f).1
   ·rw[zu p c]at h;cases h
 ·rcases f with⟨p,c,f⟩|⟨p,c,s,f⟩
  ·exfalso
   simp only[b4,bI,or_false]at c;obtain rfl|rfl|rfl|rfl|rfl:=c<;>(rw[show d=_ from apg.1 f]at j;first|(cases j;done)|(cases j;exact api h zv))
  ·obtain rfl|c:=apo.1 c
   ·rw[(jS (show d∈ba o (i+1)from f)).2 b j]at h
    exact api h zv
   ·obtain rfl|c:=apo.1 c
    ·obtain f|f:=aps.1 f
     ·cases i with
      |zero=>exact api f apQ
      |succ i=>
       refine y2 ⟨8,j6 bs (i+1),by decide,?_,f⟩
       rw[fU];cases aC<;>rfl
     ·refine y2 ⟨1,[yT (.string M),vS 2 aC],by decide,by rw[fU];rfl,f⟩
    ·rw[zu p c]at s;cases s
def CI{x y b:aw}(c:b≠x)(a:b≠y):g9 [(x,y)] b=b:=by show Ue x y b=b;unfold Ue;rw[ape c,ape a]
def ZF{x y:aw}(h:y≠x):g9 [(x,y)] y=x:=by show Ue x y y=x;unfold Ue;rw[ape h,aph rfl]
def Pa{ρ:aw->aw}{ns:ai aw}(h:∀b,10<=b->b<10+i->ρ b=b/\ns.contains b=aj):t_ ρ ns (jK bs i)=jK bs i:=by unfold t_;refine(apz λp c=>?_).trans (aqo _);obtain⟨a,b,-⟩:=mM c;obtain⟨e,d⟩:=h _ a b;rw[e,d];rfl
def aki{w:bn}(s:E.gb<=0)(h:Rel E 60 (s7 o bs i (y7 bs i bc).nm (y7 bs i bc).aC).fs H w):Rel E 60 (lay 60 ((3,y0 7 0)::Y8 o bs i) ([]++zK o bs (i+1)) ([]++[7,8])).fs H w:=by
 refine Rel.wg (gb:=0) [(2,10+i)] (λp _=>⟨apJ _,apJ _⟩) s ?_
 have j:g9 [(2,10+i)] 7=7:=CI za za
 have g:g9 [(2,10+i)] 8=8:=CI za za
 have e:g9 [(2,10+i)] (10+i)=2:=ZF za
 have f:∀b,10<=b->b<10+i->g9 [(2,10+i)] b=b:=λb d m=>CI za za
 have k:∀b,10<=b->([7,8]:ai aw).contains b=aj:=λb l=>by
  rw[arc,ne_eq,apt];simp only[b4,bI,or_false];omega
 generalize g9 [(2,10+i)]=ρ at*;have A:(((3,y0 7 0)::Y8 o bs i).map λp=>(p.1,p.2.Ew ρ))=(3,y0 (ρ 7) 0)::Y8 o bs i:=rfl
 have z:t_ ρ [7,8] (zK o bs (i+1))=(ρ 7,(ba o (i+1)).map (D.fD ρ))::(ρ 8,(j6 bs (i+1)).map (D.fD ρ))::(t_ ρ [7,8] (Bc (10+i) (y7 bs i bc).aC)++t_ ρ [7,8] (jK bs i)):=by
  show t_ ρ [7,8] ((7,ba o (i+1))::(8,j6 bs (i+1))::(Bc (10+i) (y7 bs i bc).aC++jK bs i))=_;unfold t_;rw[are,are,aqp];rfl
 have y:(ba o (i+1)).map (D.fD ρ)=[yT (.string o.ln),.bG (ρ 8) (i+1) 2,yI o.a aj o.js,yI o.b aj o.ds]:=rfl;have v:(j6 bs (i+1)).map (D.fD ρ)=j6 bs i++[yT (.string (y7 bs i bc).nm),vS 2 (y7 bs i bc).aC]:=by
  rw[j6,aqp];congr 1
  ·exact(apz λx r=>Uy λb l=>by obtain⟨q,n⟩:=(jx r).2 b l;exact f b q n).trans (aqo _)
  ·show [_,(vS (10+i) (y7 bs i bc).aC).fD ρ]=_
   cases(y7 bs i bc).aC with
   |nil=>rfl
   |cons x xs=>show [_,D.bG (ρ (10+i)) _ _]=_;rw[e];rfl
 have u:t_ ρ [7,8] (Bc (10+i) (y7 bs i bc).aC)=Bc 2 (y7 bs i bc).aC:=by
  cases(y7 bs i bc).aC with
  |nil=>rfl
  |cons x xs=>
   show [(ρ (10+i),bif ([7,8]:ai aw).contains (10+i)then _ else _)]=_
   rw[e,k _ za];rfl
 have t:([]++[7,8]:ai aw).map ρ=[7,8]:=by show [ρ 7,ρ 8]=_;rw[j,g]
 rw[t,A,aq0,aq0,z,y,v,u,Pa λb d m=>⟨f b d m,k b d⟩,j,g]
 exact h
def ade(d:i<y6 bs)(j:y6 bs<=1000)(f:(y7 bs i bc).aC.length<=1000000)(e:∀m∈(y7 bs i bc).aC,Qk m.x/\Qk m.y):aI zZq G 60 0 (ae f44 0) (cpS o bs i) y3 (cpS o bs (i+1)):=by rw[akk];refine(aoU a d).seq ((aoT a).seq (aI.seq (aI.block ?_) (aoO a d j)));rw[amW];exact(aoS a d).seq ((aoR a).seq ((aoQ a f e).seq (((aoP a za).DJ zk rfl).to λc b w g h=>aki g h)))
def akj:aI zZq G 60 0 (ae f44 0) (cpS o bs (y6 bs)) (y5 0) (lay 60 [(3,y0 7 0),(2,yT o.u)] ([]++zK o bs (y6 bs)) ([]++[7,8])):=by
 have h:∀v,xo G (ae f44 0) (lay 60 [(3,yT v),(2,yT o.u),(19,aQ A4 bs),(20,nat (y6 bs)),(21,nat (y6 bs))] []) (y5 0) (lay 60 [(3,yT v),(2,yT o.u)] []):=λv=>af.r a [.eb 22 (av (apc (y6 bs)))]
 exact aI.Ks zv zv (mj zk) (mj rfl) (m7 rfl) (m7 rfl) uD xJ (λ_ h=>api h apQ) (λ_ h=>api h apQ) λv=>(h v).abs (aB ..)
def ags(f:y6 bs<=1000)(e:∀b∈bs,y6 b.aC<=1000000)(d:∀b∈bs,∀m∈b.aC,Qk m.x/\Qk m.y):aI zZq G 60 0 (.loop (ae f44 0)) (cpS o bs 0) (y5 0) (lay 60 [(3,y0 7 0),(2,yT o.u)] (zK o bs (y6 bs)) [7,8]):=
 aI.loop (cpS o bs) (y6 bs) z1 (λi c=>ade a c f (e _ (aA c bc)) (d _ (aA c bc))) (akj a)
end
end Tw
variable {X:kf}
open Classical in
def kh.Sv{ds:ai D}{blks:ai (bF (ai D))}(o:X.body=a6 d)(hle:y6 k<=X.ntmps)
  (ns:aI P Good X.ntmps b d (dA X.ntmps k blks q) h u) (hs:y6 u.tmps=X.ntmps) (f:h=y3\/h=.ret) (mx:gw P u X.results.toList=a6 ds) (n:(y6 ds==1||ds.all D.single)=bj):
  kh P Good X b k blks q (o9 ds) u.blks u.bu:=by
 let g:Runner P Good:=λ_ m j c e=>if m=b/\j=d/\c=dA X.ntmps k blks q then a6 (h,u,e,[])else bk
 have p:∀ro l d u e h c tr' a,g ro l d u e=a6 (h,c,tr',a)->jU a->nK P Good l d u h c:=by
  intro ro m j v e w c tr' a s _;simp only[g]at s;split at s
  ·rename_i i
   simp only[eE,gu]at s;rw[i.1,i.2.1,i.2.2,<-s.1,<-s.2.1];exact YB ns (o5 hle) hs
  ·cases s
 refine n_ p b [] X k blks q [] (o9 ds) u.blks u.bu [] [] ?_ (λe f=>by cases f)
 have args:g [] b d (dA X.ntmps k blks q) []=a6 (h,u,[],[]):=aph ⟨rfl,rfl,rfl⟩;have t:(([]:ai aw).contains 998)=aj:=rfl;have r:hM (y6 k) X.ntmps=bj:=by rw[aqB];exact hle
 unfold wK;rw[oR,o];simp only[r,gn,args];obtain rfl|rfl:=f<;>simp only[t,cy,jv,mx,n,gn]
def Rel.bu{c:Ctx}{n:aw}{s s':as0}{a:Act}{w:bn}(h:Rel c n s a w)(o:s'.tmp=s.tmp)(g:s'.blk=s.blk)(p:∀b,(s.blk b).isSome=bj->s.bu b=bj->s'.bu b=bj):Rel c n s' a w:=by obtain⟨β,X,e⟩:=h;obtain⟨m,q,r⟩:=s;obtain⟨i,f,ns'⟩:=s';obtain rfl:i=m:=o;obtain rfl:f=q:=g;exact⟨β,X,e.defers,e.size,e.tmp,e.nd,e.blk,λb cs g d j k l=>⟨p b (by show(f b).isSome=bj;rw[show f b=a6 cs from g];rfl) (e.qS b cs g d j k l).1,(e.qS b cs g d j k l).2⟩,e.inj,e.F,e.uZ,e.oH,e.below,e.gh,e.i_,e.kp.sub λb h=>h⟩
def NoT(r:aw)(l:ai (aw×D)):Prop:=∀p∈l,∀x∈p.2.parts,x.sized=bj/\x.ref≠a6 r
def NoB(r:aw)(bl:ai (aw×ai D)):Prop:=∀p∈bl,p.1≠r/\∀x∈p.2,x.sized=bj/\x.ref≠a6 r
def noD(r:aw)(x:D):b5:=x.sized&&(match x.ref with|none=>bj|some b=>!ml b r)
def abj{x:D}(h:noD b x=bj):x.sized=bj/\x.ref≠a6 b:=by unfold noD at h;rw[dT]at h;refine⟨h.1,λe=>?_⟩;have a:=h.2;rw[e]at a;simp at a
def vI(h:(l.all λp=>p.2.parts.all (noD b))=bj):NoT b l:=λp r x a=>abj (apH.1 (apH.1 h p r) x a)
def EL(h:(c.all λp=>(!ml p.1 b)&&p.2.all (noD b))=bj):NoB b c:=λp r=>by have:=apH.1 h p r;rw[dT]at this;exact⟨λe=>by have:=this.1;rw[e]at this;simp at this,λx a=>abj (apH.1 this.2 x a)⟩
def aI.hi1{n t r:aw}{k:Code}{e:iw}{l l':ai (aw×D)}{bl AR:ai (aw×ai D)}{ns ns':ai aw}{i:ai D}(J:t<n)(l1:NoT r l)(l2:NoT r l')(y:NoB r bl)(w:NoB r AR)(I:∀d∈i,d.ref=bk)(A:r∉ns)(O:r∉ns')
  (L:∀v,aI P Good n 0 k (lay n ((t,.lit v)::l) bl ns) e (lay n ((t,.lit v)::l') AR ns')):aI P Good n 0 k (lay n ((t,.ptr r 0)::l) ((r,i)::bl) ns) e (lay n ((t,.ptr r 0)::l') ((r,i)::AR) ns'):=by
 generalize E:(λb:aw=>ml b r)=H
 have j:H r=bj:=by rw[<-E];exact Nat.beq_refl r
 have o:∀b,H b=bj->b=r:=λb h=>by rw[<-E]at h;exact aqJ h
 have B:∀b,b≠r->H b=aj:=λb h=>by
  rw[arc];exact λe=>h (o b e)
 have u:∀(lit:D->b3){x:D},x.ref≠a6 r->gK H lit x=x:=λlit {x} h=>gF λb f=>B b λe=>h (by rw[f,e])
 have G:∀(lit:D->b3){l:ai (aw×D)},NoT r l->mv H lit ((t,.ptr r 0)::l)=(t,.lit (lit (.ptr r 0)))::l:=λlit {l} K=>by
  show(t,yD H lit (.ptr r 0))::mv H lit l=_;have M:mv H lit l=l:=by
   unfold mv;refine(apz λp a=>?_).trans (aqo _)
   have:yD H lit p.2=p.2:=by
    have q:=K p a;generalize p.2=d at q;cases d with
    |agg xs=>exact aql D.agg ((apz λx m=>u lit (q x m).2).trans (aqo _))
    |aP xs=>exact aql D.aP ((apz λx m=>u lit (q x m).2).trans (aqo _))
    |_=>exact u lit (q _ (apg.2 rfl)).2
   rw[this];rfl
  rw[M];exact aql (·::l) (aql (Prod.mk t) (rV (i:=.ptr r 0) rfl j))
 have eB:∀(lit:D->b3){bl:ai (aw×ai D)},NoB r bl->iR H lit ((r,i)::bl)=bl:=λlit {bl} f=>by
  unfold iR;rw[ap5 (by show¬(!H r)=bj;rw[j];simp),aqq.2 λp a=>by rw[B p.1 (f p a).1];rfl]
  refine(apz λp a=>?_).trans (aqo _)
  rw[(apz λx m=>u lit ((f p a).2 x m).2).trans (aqo _)];rfl
 have F:∀{bl:ai (aw×ai D)},NoB r bl->((r,i)::bl).filter (λp=>H p.1)=[(r,i)]:=λ{bl} f=>by
  rw[vc (by show H r=bj;exact j),aqQ.2 λp a=>by rw[B p.1 (f p a).1];simp]
 refine aI.zC ns ns' H (λlit _=>by rw[G lit l1,G lit l2,eB lit y,eB lit w];exact L _) (by rw[F y,F w]) (λb f=>?_) (λp a g d c N z=>?_) (λb f C=>.inl C) (λb f C=>C) (λp a g d c N z s=>?_) (λd c=>?_) (λd b c f g=>?_)
 ·obtain rfl:=o b f
  rw[aqf,apt,apt];exact⟨λh=>api h O,λh=>api h A⟩
 ·obtain rfl|a:=apo.1 a
  ·rw[I d c]at z;cases z
  ·exact api (o _ g) (y p a).1
 ·obtain rfl|a:=apo.1 a
  ·rw[j]at g;cases g
  ·exact api (by rw[z,o _ s]) ((w p a).2 d c).2
 ·rcases c with⟨p,a,c⟩|⟨p,a,g,c⟩
  ·obtain rfl|a:=apo.1 a
   ·rw[apg.1 c];rfl
   ·exact(l1 p a d c).1
  ·obtain rfl|a:=apo.1 a
   ·rw[j]at g;cases g
   ·exact((y p a).2 d c).1
 ·obtain rfl:=o b g
  rcases c with⟨p,a,c⟩|⟨p,a,s,c⟩
  ·obtain rfl|a:=apo.1 a
   ·refine .inl ⟨t,?_⟩
    rw[ct,aph J,ar_];simp only[gp];exact c
   ·exact api f (l2 p a d c).2
  ·obtain rfl|a:=apo.1 a
   ·rw[j]at s;cases s
   ·exact api f ((w p a).2 d c).2
namespace Tw
open fb
variable {G:bn->Prop}
variable (a:aa G)
def agx(c:aw):xf G 110 [yT (.slice bk 0 c)] (yI 0 bj []):=Spec.wD (eqs:=[]) a func110 (ro:=[]) (m:=60) [] [] (λe b=>by cases b) zk
def adn(d:Addr)(b:aw):xf G 110 [yT (.slice (a6 d) 0 b)] (yI 0 bj []):=Spec.wD (eqs:=[]) a func110 (ro:=[]) (m:=60) [] [] (λe c=>by cases c) zk
def agy(c:aw):xf G 111 [yT (.slice bk 0 c)] (yI 0 bj []):=Spec.wD (eqs:=[]) a func111 (ro:=[]) (m:=60) [] [] (λe b=>by cases b) zk
def ado(d:Addr)(b:aw):xf G 111 [yT (.slice (a6 d) 0 b)] (yI 0 bj []):=Spec.wD (eqs:=[]) a func111 (ro:=[]) (m:=60) [] [] (λe c=>by cases c) zk
def VA{f:c7}{r:D}(i:∀b,Spec zZq G f [.lit (.slice bk 0 b)] r)(h:∀a b,Spec zZq G f [.lit (.slice (a6 a) 0 b)] r):Spec zZq G f [.row 0 aj []] r:=by
 intro w F d e c g
 match d,c with
 |[v],c=>
  obtain⟨k,b,m,j,s,q,p,o,n⟩:=oD c.head;subst j;cases k with
  |none=>exact i b w F _ e (aR.cons (.lit _) aR.nil) g
  |some a=>exact h a b w F _ e (aR.cons (.lit _) aR.nil) g
 |[],c=>have:=c.1;simp at this
 |_::_::_,c=>have:=c.1;simp at this
def QN{f:n->ai D}{m:n}{ms:ai n}(a:∀x,y6 (f x)=j)(h:y6 (m::ms)<=1000)(hs:b<=1000):0<y6 (m::ms)/\y6 ([]:ai D)=0*j/\y6 ((m::ms).flatMap f)=y6 (m::ms)*j/\0+y6 (m::ms)<=2^62/\(0+y6 (m::ms))*b<=2^47:=by refine⟨by simp,by rw[aqH];rfl,dq a _,by omega,?_⟩;rw[aqa];exact apm (apR h hs) zv
def X_(ms:ai Jt)(h:y6 ms<=1000):xf G 110 [aQ Hh ms] (aQ Hh ms):=by
 cases ms with
 |nil=>exact Spec.loose (VA (agx a) (adn a))
 |cons m ms=>
  have d:=QN (b:=64) bQ h zv;have c:xf G 110 [aQ Hh (m::ms)] (yI (0+y6 (m::ms)) aj (((m::ms).flatMap Hh).take ((0+y6 (m::ms))*7))):=
   Spec.y a (az []) func110 [] [.er 6 (aQ Hh (m::ms)),yu d]
  have e:D.row (0+y6 (m::ms)) aj (((m::ms).flatMap Hh).take ((0+y6 (m::ms))*7))=aQ Hh (m::ms):=by rw[aqa,apA (by rw[dq bQ];omega)];rfl
  rw[e]at c;exact c
def Ya(ms:ai Dr)(h:y6 ms<=1000):xf G 111 [aQ Ky ms] (aQ Ky ms):=by
 cases ms with
 |nil=>exact Spec.loose (VA (agy a) (ado a))
 |cons m ms=>
  have d:=QN (b:=24) gd h zv;have c:xf G 111 [aQ Ky (m::ms)] (yI (0+y6 (m::ms)) aj (((m::ms).flatMap Ky).take ((0+y6 (m::ms))*2))):=
   Spec.y a (az []) func111 [] [.er 6 (aQ Ky (m::ms)),yu d]
  have e:D.row (0+y6 (m::ms)) aj (((m::ms).flatMap Ky).take ((0+y6 (m::ms))*2))=aQ Ky (m::ms):=by rw[aqa,apA (by rw[dq gd];omega)];rfl
  rw[e]at c;exact c
def Kw(u:b3)(l:Lk):Cp:=⟨u,l.nm,y6 l.js,l.js.flatMap Hh,y6 l.ds,l.ds.flatMap Ky⟩
def Cx:ai D:=[yT (.string ByteArray.empty),yI 0 aj [],yI 0 aj [],yI 0 aj []]
section
variable {l:Lk}
def aoN:aI zZq G 60 0 (kL (aN f44)) (dA 60 [lM l] [] []) y3 (lay 60 [(2,y0 9 0),(1,.aJ (yJ l))] [(9,Cx)] []):=
 (fI.br a (ro:=[1]) (m:=60) [(0,9)] rfl [] (by rfl) zk).abs rfl
def aoM{v:b3}(b:y6 l.js<=1000)(c:y6 l.ds<=1000):fI zZq G 0 (kL (kR (aN f44))) (lay 60 [(2,yT v),(1,.aJ (yJ l))] [] []) y3 (lay 60 [(2,yT v),(1,.aJ (yJ l)),(3,y0 7 0)] [(7,ba (Kw v l) 0)] []):=
 fI.br a (ro:=[17]) (m:=60) [(0,7)] (aB ..) [z3 (X_ a l.js b),z3 (Ya a l.ds c)] (by rfl) zk
def aoL{v:b3}:xo G (kL (kL (kR (kR (aN f44))))) (lay 60 [(2,yT v),(1,.aJ (yJ l)),(3,y0 7 0)] [(7,ba (Kw v l) 0)] []) y3 (lay 60 [(2,yT v),(3,y0 7 0),(19,aQ A4 l.bs),(20,nat (y6 l.bs)),(21,nat 0)] [(7,ba (Kw v l) 0)] []):=
 af.r a []
end
variable {m:Cp} {p:ai Bd}
def Vv:∀x∈ba m b,x.sized=bj/\x.ref≠a6 9:=λx c=>by obtain⟨a,o⟩:=jS c;exact⟨a,λe=>by have:=o 9 e;omega⟩
def qP{x:D}(h:x.ref=bk):x.sized=bj:=by cases x<;>first|rfl|cases h
def NQ:NoB 9 (zK m p b):=λp d=>by
 obtain rfl|d:=apo.1 d
 exact⟨by show 7≠9;omega,Vv⟩;obtain d|d:=aps.1 d
 obtain rfl:=p6 d;exact⟨by show 8≠9;omega,λx f=>⟨(jx f).1,λe=>by have:=(jx f).2 9 e;omega⟩⟩;obtain⟨a,i,c⟩:=mM d;exact⟨by omega,λx f=>⟨qP (c x f),λe=>by rw[c x f]at e;cases e⟩⟩
def pF:∀d∈Cx,d.ref=bk:=λd a=>by simp only[Cx,b4,bI,or_false]at a;obtain rfl|rfl|rfl|rfl:=a<;>rfl
section
variable {l:Lk} {v0:b3}
def aoK(c:y6 l.js<=1000)(b:y6 l.ds<=1000):aI zZq G 60 0 (kL (kR (aN f44))) (lay 60 [(2,y0 9 0),(1,.aJ (yJ l))] [(9,Cx)] []) y3 (lay 60 [(2,y0 9 0),(1,.aJ (yJ l)),(3,y0 7 0)] [(9,Cx),(7,ba (Kw v0 l) 0)] []):=
 aI.hi1 zv (vI zk) (vI zk) (EL rfl) (EL zk) pF apQ apQ λ_=>(aoM a c b).abs (aB ..)
def aoJ:aI zZq G 60 0 (kL (kL (kR (kR (aN f44))))) (lay 60 [(2,y0 9 0),(1,.aJ (yJ l)),(3,y0 7 0)] [(9,Cx),(7,ba (Kw v0 l) 0)] []) y3 (lay 60 [(2,y0 9 0),(3,y0 7 0),(19,aQ A4 l.bs),(20,nat (y6 l.bs)),(21,nat 0)] [(9,Cx),(7,ba (Kw v0 l) 0)] []):=
 aI.hi1 zv (vI zk) (vI zk) (EL zk) (EL zk) pF apQ apQ λ_=>(aoL a).abs (aB ..)
def aoI(d:y6 l.bs<=1000)(f:∀b∈l.bs,y6 b.aC<=1000000)(e:∀b∈l.bs,∀m∈b.aC,Qk m.x/\Qk m.y):aI zZq G 60 0 (.block 0 (.loop (ae f44 0))) (lay 60 [(2,y0 9 0),(3,y0 7 0),(19,aQ A4 l.bs),(20,nat (y6 l.bs)),(21,nat 0)] [(9,Cx),(7,ba (Kw v0 l) 0)] []) y3 (lay 60 [(2,y0 9 0),(3,y0 7 0)] ((9,Cx)::zK (Kw v0 l) l.bs (y6 l.bs)) [7,8]):=
 aI.hi1 zv (vI zk) (vI zk) (EL zk) NQ pF apQ zv λv=>
  aI.by (aI.DJ (aI.adG (ags (o:=Kw v l) a d f e)) rfl zk) λc g w i h=>Rel.bu h zk rfl λb _ d=>by cases d
def mf(b:aw):b5:=ml b 8||hM 10 b
def EW(h:b=8\/10<=b):mf b=bj:=by unfold mf;rw[ap6,ar4,aqB];exact h
def ab_(h:mf b=bj):b=8\/10<=b:=by unfold mf at h;rw[ap6,ar4,aqB]at h;exact h
def adf(o:Cp)(lit:D->b3):aw->ai D
 |0=>[yT (.string o.ln),yI 0 bj [],yI o.a aj o.js,yI o.b aj o.ds]
 |i+1=>[yT (.string o.ln),yT (lit (.bG 8 (i+1) 2)),yI o.a aj o.js,yI o.b aj o.ds]
def DP{lit:D->b3}:(ba m b).map (gK mf lit)=adf m lit b:=by cases b<;>rfl
def adb{w:b3}(h:f=yI 0 bj []\/f=yT w/\(D.lit w).bV=bj):xo G (kR (kR (kR (aN f44)))) (lay 60 [(2,y0 9 0),(3,y0 7 0)] [(9,Cx),(7,[yT (.string m.ln),f,yI m.a aj m.js,yI m.b aj m.ds])] []) .ret (lay 60 [(2,y0 9 0)] [(9,[yT (.string m.ln),f,yI m.a aj m.js,yI m.b aj m.ds])] []):=by
 obtain rfl|⟨rfl,hw⟩:=h
 exact af.r a [];cases w<;>first|(cases hw;done)|exact af.r a []
def aoH(t:aa G){o:Cp}{bs:ai Bd}{i:aw}:aI zZq G 60 0 (kR (kR (kR (aN f44)))) (lay 60 [(2,.ptr 9 0),(3,.ptr 7 0)] ((9,Cx)::zK o bs i) [7,8]) .ret (lay 60 [(2,.ptr 9 0)] ((9,ba o i)::(sR bs i++jK bs i)) [8,9]):=by
 have j:∀p∈sR bs i++jK bs i,mf p.1=bj/\∀x∈p.2,∀b,x.ref=a6 b->mf b=bj:=λp f=>by
  obtain f|f:=aps.1 f
  obtain rfl:=p6 f;exact⟨rfl,λx n b h=>EW (.inr ((jx n).2 b h).1)⟩;obtain⟨a,b,c⟩:=mM f;exact⟨EW (.inr a),λx n b h=>by rw[c x n]at h;cases h⟩
 have f1:((9,Cx)::zK o bs i).filter (λp=>mf p.1)=sR bs i++jK bs i:=by rw[ap5 (by show¬mf 9=bj;decide),zK,ap5 (by show¬mf 7=bj;decide)];exact aqq.2 λp f=>(j p f).1
 have f2:((9,ba o i)::(sR bs i++jK bs i)).filter (λp=>mf p.1)=sR bs i++jK bs i:=by rw[ap5 (by show¬mf 9=bj;decide)];exact aqq.2 λp f=>(j p f).1
 have v:∀lit:D->b3,(∀d,(D.lit (lit d)).bV=bj)->aI zZq G 60 0 (kR (kR (kR (aN f44)))) (lay 60 (mv mf lit [(2,.ptr 9 0),(3,.ptr 7 0)]) (iR mf lit ((9,Cx)::zK o bs i)) []) .ret
   (lay 60 (mv mf lit [(2,.ptr 9 0)]) (iR mf lit ((9,ba o i)::(sR bs i++jK bs i))) []):=λlit u=>by
  have z:iR mf lit ((9,Cx)::zK o bs i)=[(9,Cx),(7,adf o lit i)]:=by rw[ir rfl,zK,ir rfl,jH λp f=>(j p f).1,DP];rfl
  have y:iR mf lit ((9,ba o i)::(sR bs i++jK bs i))=[(9,adf o lit i)]:=by rw[ir rfl,jH λp f=>(j p f).1,DP]
  rw[z,y];cases i with
  |zero=>exact(adb t (m:=o) (w:=.bool aj) (.inl rfl)).abs (aB ..)
  |succ i=>exact(adb t (m:=o) (.inr ⟨rfl,u _⟩)).abs (aB ..)
 have sz:∀p∈(9,Cx)::zK o bs i,∀x∈p.2,x.sized=bj:=λp f x n=>by
  obtain rfl|f:=apo.1 f
  exact qP (pF x n);exact((NQ p f).2 x n).1
 refine aI.zC _ _ mf v (by rw[f1,f2]) (λb h=>?_) (λp f k d g q m=>?_) (λb h s=>?_) (λb h s=>by cases s) (λp f k d g q m r=>?_) (λd g=>?_) (λd b g h k=>?_);have:=ab_ h;rw[aqf,apt,apt];simp only[b4,bI,or_false];omega;obtain rfl|f:=apo.1 f
 exact api k (show¬mf 9=bj by decide);obtain rfl|f:=apo.1 f
 exact api k (show¬mf 7=bj by decide);exact(j p f).2 d g q m;refine .inr λp f e d g q m=>?_
 obtain rfl|f:=apo.1 f
 rw[pF d g]at m;cases m;obtain rfl|f:=apo.1 f
 exact EW (.inl ((jS g).2 q m));exact(j p f).2 d g q m;obtain rfl|f:=apo.1 f
 show([8,9]:ai aw).contains 9=bj;decide;rw[(j p f).1]at k;cases k;rcases g with⟨p,f,g⟩|⟨p,f,k,g⟩
 simp only[b4,bI,or_false]at f;obtain rfl|rfl:=f<;>(rw[show d=_ from apg.1 g];rfl);exact sz p f d g;rcases g with⟨p,f,g⟩|⟨p,f,r,g⟩
 rw[apg]at f;subst f;rw[show d=_ from apg.1 g]at h;cases h;exact api k zv;obtain rfl|f:=apo.1 f
 exact .inr ⟨7,ba o i,by decide,by rw[fU];rfl,g⟩;rw[(j p f).1]at r;cases r
def oK(rest:ai (aw×ai D))(b:aw):bF (ai D):=(rest.find? λp=>p.1==b).map (·.2)
def mH(rest:ai (aw×ai D))(x:bF (ai D)):ai (bF (ai D)):=[bk,bk,bk,bk,bk,bk,bk,bk,oK rest 8,x,oK rest 10,oK rest 11,oK rest 12,oK rest 13,oK rest 14,oK rest 15]
def eK(h:∀p∈c,p.1=8\/10<=p.1/\p.1<16)(rest:b<8\/b=9\/16<=b):oK c b=bk:=by unfold oK;rw[arB.2 λp a e=>by have:=h p a;have e:p.1=b:=(by simpa using e);omega];rfl
def Mw(h:∀p∈c,p.1=8\/10<=p.1/\p.1<16)(rest:ai D)(b:aw):(((9,rest)::c).find? λp=>p.1==b).map (·.2)=(mH c (a6 rest)).getD b bk:=by
 by_cases a:b=9;subst a;rfl;rw[aq4 (by simpa using aqZ a)];show oK c b=_;rcases(by omega:b=0\/b=1\/b=2\/b=3\/b=4\/b=5\/b=6\/b=7\/b=8\/b=10\/b=11\/b=12\/b=13\/b=14\/b=15\/16<=b)with rfl|rfl|rfl|rfl|rfl|rfl|rfl|rfl|rfl|rfl|rfl|rfl|rfl|rfl|rfl|d
 exact eK h za;exact eK h za;exact eK h za;exact eK h za;exact eK h za;exact eK h za;exact eK h za;exact eK h za;rfl;rfl;rfl;rfl;rfl;rfl;rfl;rw[eK h za,apf,apL (by show 16<=b;exact d)];rfl
def QI(h:b<=6):∀bs∈sR p b++jK p b,bs.1=8\/10<=bs.1/\bs.1<16:=λp c=>by
 obtain c|c:=aps.1 c
 rw[p6 c];exact y1 rfl;obtain⟨a,i,-⟩:=mM c;omega
def adh(a:aa G)(i:y6 l.bs<=6)(e:y6 l.js<=1000)(f:y6 l.ds<=1000)(d:∀b∈l.bs,y6 b.aC<=1000000)(c:∀b∈l.bs,∀m∈b.aC,Qk m.x/\Qk m.y):
  kh zZq G f44 0 [lM l] [] [] (y4 (ba (Kw v0 l) (y6 l.bs))) (mH (sR l.bs (y6 l.bs)++jK l.bs (y6 l.bs)) (a6 (ba (Kw v0 l) (y6 l.bs)))) [8,9]:=by
 have g:Tryz.f44.body=a6 (.seq (kL (aN f44)) (.seq (kL (kR (aN f44))) (.seq (.seq (kL (kL (kR (kR (aN f44))))) (.block 0 (.loop (ae f44 0)))) (kR (kR (kR (aN f44))))))):=zk
 have h:=(aoN (l:=l) a).seq ((aoK (v0:=v0) a e f).seq (((aoJ a).seq (aoI a za d c)).seq (aoH a)));have j:(lay 60 [(2,y0 9 0)] ((9,ba (Kw v0 l) (y6 l.bs))::(sR l.bs (y6 l.bs)++jK l.bs (y6 l.bs))) [8,9]).fs=(St.mk (lay 60 [(2,y0 9 0)] [] []).tmps (mH (sR l.bs (y6 l.bs)++jK l.bs (y6 l.bs)) (a6 (ba (Kw v0 l) (y6 l.bs)))) [8,9]).fs:=by
  have k:(lay 60 [(2,y0 9 0)] ((9,ba (Kw v0 l) (y6 l.bs))::(sR l.bs (y6 l.bs)++jK l.bs (y6 l.bs))) [8,9]).fs.blk=λb=>(mH (sR l.bs (y6 l.bs)++jK l.bs (y6 l.bs)) (a6 (ba (Kw v0 l) (y6 l.bs)))).getD b bk:=by
   funext b
   rw[fU];exact Mw (QI i) _ b
  show as0.mk _ (lay 60 [(2,y0 9 0)] ((9,ba (Kw v0 l) (y6 l.bs))::(sR l.bs (y6 l.bs)++jK l.bs (y6 l.bs))) [8,9]).fs.blk _=_;rw[k];rfl
 exact kh.Sv (ds:=[y4 (ba (Kw v0 l) (y6 l.bs))]) g (by show 1<=60;omega) (h.amQ rfl j) rfl (y2 rfl) (by generalize y6 l.bs=n;cases n<;>kernel_rfl) rfl
end
end Tw
def Spec.Sv(O:aa Good){f:c7}{fn:kf}(M:P.funcs[f]? =a6 fn){k:Code}{args ds:ai D}{e:iw}{s:St}(m:fn.body=a6 k)(hle:args.length<=fn.ntmps)
  (h:aI P Good fn.ntmps 0 k (dA fn.ntmps args []) e s) (H:e=.normal\/e=.ret) (T:gw P s fn.results.toList=a6 ds):Spec P Good f args (o9 (ds.map (D.rowOf s.fs.blk s.fs.bu))):=by
 intro w F B E r I;refine(n2 (n:=0)).1 (oi M m trivial ?_);show Code.wpIn (Fw bk) 0 _ _ _ _ _
 let c:Ctx:=⟨P,Good,F,w,[],0,bk,[],λ_=>bk,0,λ_=>bk,λ_=>False⟩
 have y:∀b,(dA fn.ntmps args []).fs.blk b=bk:=λb=>by simp[dA,St.fs]
 refine h c _ _ w rfl rfl E (apc _) ⟨λ_=>0,F,rfl,?_,λt=>?_,?_,λb cs a=>?_,λb cs a=>?_,λb b' a=>?_,λ_ h=>h,I,I,⟨Below.refl _ _,λk o m=>(by cases m),apJ _⟩,λp z=>?_,λp z=>?_,ou.none rfl rfl⟩ λJ j S=>?_
 ·have:=r.1;simp;omega
 ·exact qE (Q':=λv d=>bU (λ_=>0) w F v d) r.1 hle (λi A u=>.c (.p (r.2 i A u))) (.c (.p (.lit _))) (.c (.p (.any _))) t
 ·refine qG λd N b a=>?_
  obtain⟨i,q,rfl⟩:=apF.1 N;rw[eV (r.2 i (by rw[r.1];exact q) q)]at a;cases a
 ·rw[y]at a;cases a
 ·rw[y]at a;cases a
 ·rw[y]at a;cases a
 ·cases z
 ·cases z
 ·obtain⟨β,X,g⟩:=S
  obtain⟨x,A,u,Q,Z⟩:=kV (q:=c) g T;have R:aR j F x (ds.map (D.rowOf s.fs.blk s.fs.bu)):=by
   refine⟨by simpa using u,λi q V=>?_⟩
   rw[ap2];have U:i<ds.length:=by rw[<-u];exact q
   refine qN g (Q i q U) g.F λb cs L k m H=>?_
   have Y:=(g.blk b cs L).1;have W:=g.uZ k m;omega
  have K:J.defers=[]/\∃v,(results fn J.tmps).run P j=.ok v j/\(∃C,og v=.returned C/\b9 j F C (o9 (ds.map (D.rowOf s.fs.blk s.fs.bu)))/\Below w.heap.size w j/\Good j):=
   ⟨g.defers,sY x,A,sY x,rfl,wu R,g.below.uX,g.mz O E⟩
  obtain rfl|rfl:=H<;>exact K
def Rel.drop{c:Ctx}{n:aw}{s s':as0}{a:Act}{w:bn}(dr:aw->b5)(h:Rel c n s a w)(p:∀t,s'.tmp t=.any\/s'.tmp t=s.tmp t/\∀b∈(s.tmp t).refs,dr b=aj)(m:∀b,s'.blk b=if dr b then bk else s.blk b)(y:∀b,s.bu b=bj->s'.bu b=bj)
  (A:∀b cs,s.blk b=a6 cs->dr b=aj->∀d∈cs,∀j,d.ref=a6 j->dr j=aj) (v:∀b<c.gb,dr b=aj):Rel c n s' a w:=by
 obtain⟨β,X,o⟩:=h;have kC:∀b,dr b=aj->s'.blk b=s.blk b:=λb f=>by rw[m,f];rfl
 refine Rel.weaken ⟨β,X,o⟩ (λt=>(p t).imp id (·.1)) (λb=>?_) y (λt b f=>?_) (λb cs i x d r j q=>?_) (λb h=>kC b (v b h))
 ·rw[m];split
  ·exact .inl rfl
  ·exact .inr rfl
 ·obtain e|⟨e,g⟩:=p t
  ·rw[e]at f;simp[D.refs]at f
  ·rw[e]at f
   rw[kC b (g b f)];exact o.nd t b f
 ·have u:dr b=aj:=by
   rw[m]at i;cases z:dr b with
   |false=>rfl
   |true=>rw[z]at i;cases i
  rw[kC b u]at i;rw[kC j (A b cs i u d r j q)];exact(o.qS b cs i d r j q).2
def afx{α:Type}(f:ai (cY×cY)->α)(o:bF (Out P Good)):bF (iw×St×α):=o.map λo=>(o.1,o.2.1,f o.2.2.2)
variable (O:aa Good)
def nK.bK(A:sC P Good){ro:ai aw}{m:aw}{k:Code}(a:ai (Item P Good))(s:afx yV (mX P m ro b k u (.auto A::a))=a6 (h,v,said a):=by kernel_rfl)
  (d:afx IP (mX P m ro b k u (.auto A::a))=afx BJ (mX P m ro b k u (.auto A::a)):=by kernel_rfl):nK P Good b k u h v:=by
 unfold afx at s d;cases c:mX P m ro b k u (.auto A::a)with
 |none=>rw[c]at s;cases s
 |some o=>
  obtain⟨i,s1,f,g⟩:=o;rw[c]at s d;simp only[dm,eE,gu,true_and]at s d;obtain⟨rfl,rfl,s⟩:=s;exact iK O m ro b k u (.auto A::a) _ s1 _ _ c (w8 s d)
namespace Tw
section
open fb
variable {G:bn->Prop} {l:Lk} {k:cl} {v0:b3}
variable (a:aa G) {m:Cp} {w:ai D}
def anz:aI zZq G 66 0 (kL (aN f14)) (dA 66 [lM l,F k] [] []) y3 (lay 66 [(4,y0 9 0),(2,.aJ (yJ l)),(3,.aJ (cF k))] [(9,Cx)] []):=
 (fI.br a (ro:=[2,3]) (m:=60) [(0,9)] rfl [] (by rfl) zk).abs rfl
def anx(ck:xf G 37 [lM l] xc):aI zZq G 66 0 (kL (kR (aN f14))) (lay 66 [(4,y0 9 0),(2,.aJ (yJ l)),(3,.aJ (cF k))] [(9,Cx)] []) y3 (lay 66 [(4,y0 9 0),(2,.aJ (yJ l)),(3,.aJ (cF k))] [(9,Cx)] []):=
 (af.r a [z3 ck]).abs (aB ..)
def anw(b:Qk k)(c:nV k=1):aI zZq G 66 0 (kL (kR (kR (aN f14)))) (lay 66 [(4,y0 9 0),(2,.aJ (yJ l)),(3,.aJ (cF k))] [(9,Cx)] []) y3 (lay 66 [(4,y0 9 0),(2,.aJ (yJ l)),(3,.aJ (cF k))] [(9,Cx)] []):=
 (af.r a [z3 (D9 a b),z3 (ad6 a b c)]).abs (aB ..)
def anv{v:b3}(h:kh zZq G f44 0 [lM l] [] [] (y4 (ba m (b+1))) (mH c (a6 (ba m (b+1)))) [8,9]):
  nK zZq G 0 (kL (kR (kR (kR (aN f14))))) (lay 66 [(4,yT v),(2,.aJ (yJ l)),(3,.aJ (cF k))] [] []) y3 ⟨(lay 66 [(4,yT v),(2,.aJ (yJ l)),(3,.aJ (cF k)),(28,lM l),(29,y4 (ba m (b+1))),(7,y0 16 0)] [] []).tmps,mH c (a6 (ba m (b+1)))++[a6 (ba m (b+1))],[16,8,9]⟩:=
 nK.bK a (az [44]) (ro:=[]) (m:=60) [.vr func44 h]
def Ua(h:∀p∈c,p.1=8\/10<=p.1/\p.1<16){c9:bF (ai D)}(b:aw):((((16,w)::c).find? λp=>p.1==b).map (·.2))=if ml b 9=bj then bk else(mH c c9++[a6 w]).getD b bk:=by
 by_cases a:b=16;subst a;rfl;rw[aq4 (by simpa using aqZ a)];show oK c b=_;rcases(by omega:b=0\/b=1\/b=2\/b=3\/b=4\/b=5\/b=6\/b=7\/b=9\/b=8\/b=10\/b=11\/b=12\/b=13\/b=14\/b=15\/17<=b)with rfl|rfl|rfl|rfl|rfl|rfl|rfl|rfl|rfl|rfl|rfl|rfl|rfl|rfl|rfl|rfl|d
 exact eK h za;exact eK h za;exact eK h za;exact eK h za;exact eK h za;exact eK h za;exact eK h za;exact eK h za;exact eK h za;rfl;rfl;rfl;rfl;rfl;rfl;rfl;rw[eK h za,apf,apL (by show 17<=b;exact d)];split<;>rfl
def afX{n:aw}{l l':ai (aw×D)}{bl AR:ai (aw×ai D)}{ns ns':ai aw}{Q:D->Prop}(h:∀p∈l',(l.find? λq=>q.1==p.1)=a6 p/\Q p.2)(t:aw):(lay n l' AR ns').fs.tmp t=.any\/(lay n l' AR ns').fs.tmp t=(lay n l bl ns).fs.tmp t/\Q ((lay n l bl ns).fs.tmp t):=by
 rw[ct,ct];split;cases a:l'.find? λp=>p.1==t with
 |none=>exact .inl rfl
 |some p=>
  obtain⟨b,c⟩:=h p (aqA a);have e:p.1=t:=by simpa using aro a
  rw[e]at b;rw[b];exact .inr ⟨rfl,c⟩
 exact .inl rfl
def anu(F:aa G){v:b3}{o:Cp}{bs:ai Bd}{m:aw}(H:m+1<=6)(h:kh zZq G f44 0 [lM l] [] [] (.agg (ba o (m+1))) (mH (sR bs (m+1)++jK bs (m+1)) (a6 (ba o (m+1)))) [8,9]):
  aI zZq G 66 0 (kL (kR (kR (kR (aN f14))))) (lay 66 [(4,.lit v),(2,.aJ (yJ l)),(3,.aJ (cF k))] [] []) .normal (lay 66 [(4,.lit v),(3,.aJ (cF k)),(7,.ptr 7 0)] (zK o bs (m+1)) [7,8]):=by
 refine(Wn (anv (k:=k) (v:=v) F h)).to λc a w E B=>?_
 have r:=QI (p:=bs) H;have mem:∀{b:aw}{cs:ai D},(b,cs)∈(16,ba o (m+1))::(sR bs (m+1)++jK bs (m+1))->∀d∈cs,∀i,d.ref=a6 i->i=8\/10<=i/\i<16:=λ{b cs} g d n i j=>by
  obtain e|g:=apo.1 g
  cases e;exact .inl ((jS n).2 i j);obtain g|g:=aps.1 g
  cases p6 g;have:=(jx n).2 i j;omega;rw[(mM g).2.2 d n]at j;cases j
 have y:Rel c 66 (lay 66 [(4,.lit v),(3,.aJ (cF k)),(7,.ptr 16 0)] ((16,ba o (m+1))::(sR bs (m+1)++jK bs (m+1))) [16,8,9]).fs a w:=by
  refine Rel.drop (λb=>ml b 9) B (λt=>?_) (λb=>?_) (λb f=>f) (λb cs f n d g i j=>?_) (λb f=>by omega);refine afX (bl:=[]) (ns:=[]) (Q:=λd=>∀b∈d.refs,ml b 9=aj) (λp s=>?_) t;simp only[b4,bI,or_false]at s;obtain rfl|rfl|rfl:=s
  exact⟨rfl,λb f=>by cases f⟩;exact⟨rfl,λb f=>by cases f⟩;exact⟨rfl,λb f=>by rw[apg.1 f];rfl⟩;rw[fU];exact Ua r b;have e:(lay 66 [(4,.lit v),(3,.aJ (cF k)),(7,.ptr 16 0)] ((16,ba o (m+1))::(sR bs (m+1)++jK bs (m+1))) [16,8,9]).fs.blk b=a6 cs:=by rw[fU,Ua (c9:=a6 (ba o (m+1))) r b,ape (by rw[n];simp)];exact f
  have:=mem (kZ e) d g i j;rw[arc];intro C;have:=aqJ C;omega
 have u:Rel c 66 (lay 66 [(4,.lit v),(3,.aJ (cF k)),(7,.ptr 16 0)] ((16,ba o (m+1))::(sR bs (m+1)++jK bs (m+1))) [16,8]).fs a w:=by
  refine Rel.bu y rfl rfl λb f q=>?_
  obtain⟨cs,z⟩:=apn.1 f;have L:b≠9:=λe=>by
   subst e;rcases apo.1 (kZ z)with e|g
   cases e;have:=r _ g;simp only at this;omega
  have q:([16,8,9]:ai aw).contains b=bj:=q;show([16,8]:ai aw).contains b=bj;rw[apt]at q⊢;simp only[b4,bI,or_false]at q⊢;omega
 refine Rel.wg (gb:=0) [(7,16)] (λp _=>⟨apJ _,apJ _⟩) E ?_;have I:t_ (g9 [(7,16)]) [7,8] (zK o bs (m+1))=(16,ba o (m+1))::(sR bs (m+1)++jK bs (m+1)):=by
  show(16,(ba o (m+1)).map (D.fD (g9 [(7,16)])))::(8,(j6 bs (m+1)).map (D.fD (g9 [(7,16)])))::t_ (g9 [(7,16)]) [7,8] (jK bs (m+1))=_;rw[Pa λb N M=>⟨CI za za,by
   rw[arc,ne_eq,apt];simp only[b4,bI,or_false];omega⟩,show(j6 bs (m+1)).map (D.fD (g9 [(7,16)]))=j6 bs (m+1)from(apz λx A=>Uy λb f=>by obtain⟨K,J⟩:=(jx A).2 b f;exact CI za za).trans (aqo _)]
  rfl
 rw[I];exact u
end
open fb
variable {G:bn->Prop}
def Vf{i n:aw}(h:i<n):(0:cA)<=zNq i/\zNq i<((n:aw):cA):=⟨arn i,Int.ofNat_lt.2 h⟩
def Ve{α:Type}{f:α->ai D}{sz:aw}(c:∀x,y6 (f x)=sz)(d:0<sz){l:ai α}{i:aw}(h:i<y6 l):0<sz/\(zNq i).toNat*sz+sz<=y6 (l.flatMap f):=by have e:(zNq i).toNat=i:=rfl;have:(i+1)*sz<=y6 l*sz:=apB _ h;rw[aqk]at this;rw[dq c,e];exact⟨d,this⟩
def FM(A B ds:ai D)(k:aw):aE (A++B) (y6 A+k) ds=A++aE B k ds:=by unfold aE;rw[List.take_append,List.drop_append,apA za,v7 (l:=A) za,aq0,aqV,show y6 A+k-y6 A=k from by omega,show y6 A+k+y6 ds-y6 A=k+y6 ds from by omega]
variable {s t:ai Mk} {y:Mk}
def Yl{j:aw}(c:y6 s=j){X Y:cl}:aE (aE ((s++y::t).flatMap vt) ((zNq j).toNat*7+1) (cF X)) ((zNq j).toNat*7+4) (cF Y)=(s++⟨y.nm,X,Y⟩::t).flatMap vt:=by
 have e:(zNq j).toNat*7=y6 (s.flatMap vt):=by rw[dq p_,c];rfl
 rw[aqI,ap',e,FM,FM,aqI,ap'];rfl
def scI(u a b:b3)(k:cl)(N i:aw)(nm:cB)(n:aw)(c:ai Mk)(j:aw):St:=lay 66 [(4,yT u),(3,.aJ (cF k)),(7,yT a),(31,yT b),(32,nat N),(33,nat i),(9,y0 9 0),(38,.bG 0 n 7),(39,nat n),(40,nat j)] [(9,[yT (.string nm),.bG 0 n 7]),(0,c.flatMap vt)] [9]
section
variable {u a b:b3} {k:cl} {N i n:aw} {nm:cB}
def ZT(p:aa G){m:Mk}{j:aw}(l2:y6 s=j)(A:y6 (s++m::t)=n)(z:n<=1000000)(l1:Qk k)(w:Qk m.x)(v:Qk m.y):af zZq G 1 (ae f14 1) (scI u a b k N i nm n (s++m::t) j) y3 (scI u a b k N i nm n (s++rO k m::t) (j+1)):=by
 have r:j<y6 (s++m::t):=by rw[ap4,aqO];omega
 have o:j<n:=za
 have f:=Vf o;have d:=Ve p_ za r
 have e:=fO p_ r m;have x:(s++m::t).getD j m=m:=by rw[apf,apS za,l2,asw];rfl
 rw[x]at e;have s1:(zNq j).toNat*7+1+3<=y6 ((s++m::t).flatMap vt):=by have:=d.2;omega
 have s2:(zNq j).toNat*7+4+3<=y6 (aE ((s++m::t).flatMap vt) ((zNq j).toNat*7+1) (cF (m.x*k))):=by
  have:=d.2;unfold aE;rw[ap4,ap4,apr,apu];have:y6 (cF (m.x*k))=3:=rfl;omega
 have a1:=Og p w l1;have y:=Og p v l1;have c:=Yl (t:=t) (y:=m) l2 (X:=m.x*k) (Y:=m.y*k);obtain⟨q,l,h⟩:=m;have g:af zZq G 1 (ae f14 1) (scI u a b k N i nm n (s++⟨q,l,h⟩::t) j) y3 (lay 66 [(4,yT u),(3,.aJ (cF k)),(7,yT a),(31,yT b),(32,nat N),(33,nat i),(9,y0 9 0),(38,.bG 0 n 7),(39,nat n),(40,nat (j+1))] [(9,[yT (.string nm),.bG 0 n 7]),(0,aE (aE ((s++⟨q,l,h⟩::t).flatMap vt) ((zNq j).toNat*7+1) (cF (l*k))) ((zNq j).toNat*7+4) (cF (h*k)))] [9]):=
  af.r p [.eb 41 (ah o),yu f,yu d,.eq 44 e,z3 a1,z3 y,yu f,yu s1,yu f,yu s2,.eq 63 (bL (ax o za))]
 rw[c]at g;exact g
def YV(u a b:b3)(k:cl)(N i:aw):ai (aw×D):=[(4,yT u),(3,.aJ (cF k)),(7,yT a),(31,yT b),(32,nat N),(33,nat i)]
def ae7(d:aa G)(t:y6 s=n)(l:n<=1000000)(o:Qk k)(f:∀m∈s,Qk m.x/\Qk m.y):aI zZq G 66 1 (.loop (ae f14 1)) (scI u a b k N i nm n s 0) (y5 2) (lay 66 (YV u a b k N i) [(0,(s.map (rO k)).flatMap vt)] [9]):=by
 refine aI.loop (P:=zZq) (Good:=G) (n:=66) (gb:=1) (body:=ae f14 1) (λj=>scI u a b k N i nm n ((s.take j).map (rO k)++s.drop j) j) n (e:=y5 2) z1 (λj v=>?_) ?_;have c:j<y6 s:=za
 have p:s.drop j=s[j]::s.drop (j+1):=aqr c;have r:(s.take (j+1)).map (rO k)=(s.take j).map (rO k)++[rO k s[j]]:=by rw[aq6,apj c,aqp];rfl
 have hm:=f _ (apD c);have g:=ZT (u:=u) (a:=a) (b:=b) (k:=k) (N:=N) (i:=i) (n:=n) (nm:=nm) d (s:=(s.take j).map (rO k)) (t:=s.drop (j+1)) (m:=s[j]) (j:=j) (by rw[apq,apr];omega) (by rw[ap4,apq,apr,aqO,apu];omega) l o hm.1 hm.2;rw[p,r,aqV];exact g.abs (aB ..);rw[apA za,v7 za,aqs];generalize s.map (rO k)=q;exact(af.r d [.eb 41 (av (apc n))]).abs (aB ..)
def alb(d:aa G)(g:y6 s=n)(f:n<=1000000)(h:Qk k)(e:∀m∈s,Qk m.x/\Qk m.y):af zZq G 1 (kR (kL (kL (kR (kR (ae f14 0)))))) (lay 66 (YV u a b k N i++[(9,y0 9 0)]) [(9,[yT (.string nm),.bG 0 n 7]),(0,s.flatMap vt)] [9]) y3 (lay 66 (YV u a b k N i) [(0,(s.map (rO k)).flatMap vt)] [9]):=by have c:=ae7 (u:=u) (a:=a) (b:=b) (N:=N) (i:=i) (nm:=nm) d g f h e;generalize s.map (rO k)=q at c⊢;exact af.r d [.code c]
def aio(c:aa G):xo G (kR (kL (kL (kR (kR (ae f14 0)))))) (lay 66 (YV u a b k N i++[(9,y0 9 0)]) [(9,[yT (.string nm),yI 0 bj []])] [9]) y3 (lay 66 (YV u a b k N i) [] [9]):=
 af.r c []
def ans(d:aa G)(c:i<N):xo G (kL (ae f14 0)) (lay 66 (YV u a b k N i) [] []) y3 (lay 66 (YV u a b k N i++[(34,bool bj)]) [] []):=
 af.r d [.eb 34 (ah c)]
def ak_(c:aa G):xo G (kL (kR (ae f14 0))) (lay 66 (YV u a b k N i++[(34,bool bj)]) [] []) y3 (lay 66 (YV u a b k N i) [] []):=
 af.r c []
def ala(d:aa G)(c:i<N)(e:N<=1000):xo G (kR (kR (kR (ae f14 0)))) (lay 66 (YV u a b k N i) [] []) y3 (lay 66 (YV u a b k N (i+1)) [] []):=
 af.r d [.eq 64 (bL (ax c za))]
def ain(c:aa G):xo G (ae f14 0) (lay 66 (YV u a b k N N) [] []) (y5 0) (lay 66 [(4,yT u),(7,yT a)] [] []):=
 af.r c [.eb 34 (av (apc N))]
def aiw:(ae f14 0)=.seq (kL (ae f14 0)) (.seq (kL (kR (ae f14 0))) (.seq (.block 1 (.seq (kL (kL (kL (kR (kR (ae f14 0)))))) (kR (kL (kL (kR (kR (ae f14 0)))))))) (kR (kR (kR (ae f14 0)))))):=zk
def cHv(p:cB×bF b3):ai D:=[yT (.string p.1),pc p.2]
def VE(p:cB×bF b3):y6 (cHv p)=2:=rfl
variable {m:Cp} {w:ai D}
def anr(h:aa G){o:aw}{c:ai (cB×bF b3)}{pv:bF b3}(p:i<o+1)(q:y6 c=o+1)(e:y7 c i bc=(nm,pv))(j:(pc pv).bV=bj):
  xo G (kL (kL (kL (kR (kR (ae f14 0)))))) (lay 66 [(4,yT u),(3,.aJ (cF k)),(7,y0 7 0),(31,.bG 8 (o+1) 2),(32,nat (o+1)),(33,nat i)] [(7,ba m (o+1)),(8,c.flatMap cHv)] [7]) y3 (lay 66 [(4,yT u),(3,.aJ (cF k)),(7,y0 7 0),(31,.bG 8 (o+1) 2),(32,nat (o+1)),(33,nat i),(9,y0 9 0)] [(7,ba m (o+1)),(8,c.flatMap cHv),(9,[yT (.string nm),pc pv])] [7]):=by
 have g:=Vf p;have f:=Ve VE za (l:=c) (i:=i) za;have d:=fO VE (l:=c) (i:=i) za bc;rw[e]at d;cases pv with
 |none=>exact af.r h [yu g,yu f,.eq 36 d]
 |some w=>
  cases w<;>first|(cases j;done)|exact af.r h [yu g,yu f,.eq 36 d]
def ant(c:aa G){o:aw}:xo G (kL (kL (kR (kR (kR (kR (aN f14))))))) (lay 66 [(4,yT u),(3,.aJ (cF k)),(7,y0 7 0)] [(7,ba m (o+1)),(8,w)] [7]) y3 (lay 66 [(4,yT u),(3,.aJ (cF k)),(7,y0 7 0),(31,.bG 8 (o+1) 2),(32,nat (o+1)),(33,nat 0)] [(7,ba m (o+1)),(8,w)] [7]):=
 af.r c []
def ak'(c:aa G){w:b3}(hw:(D.lit w).bV=bj):xo G (kR (kR (kR (kR (kR (aN f14)))))) (lay 66 [(4,y0 9 0),(7,y0 7 0)] [(9,Cx),(7,[yT (.string m.ln),yT w,yI m.a aj m.js,yI m.b aj m.ds])] []) .ret (lay 66 [(4,y0 9 0),(5,xc)] [(9,[yT (.string m.ln),yT w,yI m.a aj m.js,yI m.b aj m.ds])] []):=by cases w<;>first|(cases hw;done)|exact af.r c []
end
end Tw
def aI.hiA{n:aw}{k:Code}{l l':ai (aw×D)}{bl:ai (aw×ai D)}{ns:ai aw}(j:∀lit,aI P Good n 0 k (lay n (mv (λ_=>bj) lit l) [] []) h (lay n (mv (λ_=>bj) lit l') [] []))
  (sz:∀p∈l,∀d∈p.2.parts,d.sized=bj) (w:∀p∈l',∀d∈p.2.parts,∀b,d.ref=a6 b->p.1<n/\(l.find? λq=>q.1==p.1)=a6 p):aI P Good n 0 k (lay n l bl ns) h (lay n l' bl ns):=by
 have v:∀lit,iR (λ_=>bj) lit bl=[]:=λlit=>jH λp c=>rfl
 refine aI.zC [] [] (λ_=>bj) (λlit _=>by rw[v];exact j lit) rfl (λb g=>rfl) (λp c e d a x y=>rfl) (λb g=>by cases g) (λb g=>by cases g) (λp c e=>by cases e) (λd a=>?_) (λd b a g e=>?_);rcases a with⟨p,c,a⟩|⟨p,c,e,a⟩
 exact sz p c d a;cases e;rcases a with⟨p,c,a⟩|⟨p,c,r,a⟩
 obtain⟨t,s⟩:=w p c d a b g;refine y1 ⟨p.1,?_⟩;rw[ct,aph t,s];exact a;cases r
def pw(b:aw):b5:=(ml b 7||ml b 8)||hM 10 b
def zt{b:aw}(h:b=7\/b=8\/10<=b):pw b=bj:=by unfold pw;rw[ap6,ap6,ar4,ar4,aqB];omega
def ajV{b:aw}(h:pw b=bj):b=7\/b=8\/10<=b:=by unfold pw at h;rw[ap6,ap6,ar4,ar4,aqB]at h;omega
def aI.hiC{n gb:aw}{k:Code}{e:iw}{l l':ai (aw×D)}{V V' H:ai (aw×ai D)}{m m' hs:ai aw}(pins:ai D)
  (K:∀lit:D->b3,(∀d,(D.lit (lit d)).bV=bj)->aI P Good n gb k (lay n (mv pw lit l) V m) e (lay n (mv pw lit l') V' m'))
  (y:∀p∈V,pw p.1=aj/\∀x∈p.2,x.sized=bj/\∀b,x.ref=a6 b->pw b=aj) (t:∀p∈V',pw p.1=aj/\∀x∈p.2,x.sized=bj/\∀b,x.ref=a6 b->pw b=aj)
  (v:∀p∈H,pw p.1=bj/\∀x∈p.2,∀b,x.ref=a6 b->pw b=bj\/x∈pins)
  (o8:∀x∈pins,x.sized=bj/\(∃b cs,(lay n l (V++H) (m++hs)).fs.blk b=a6 cs/\x∈cs)/\∃b,x.ref=a6 b/\b<gb/\pw b=aj)
  (N:∀x∈hs,pw x=bj) (M:∀x∈m,pw x=aj) (L:∀x∈m',pw x=aj)
  (sz:∀p∈l,∀d∈p.2.parts,d.sized=bj) (S:∀p∈l',∀d∈p.2.parts,∀b,d.ref=a6 b->pw b=bj->p.1<n/\(l.find? λq=>q.1==p.1)=a6 p):aI P Good n 0 k (lay n l (V++H) (m++hs)) e (lay n l' (V'++H) (m'++hs)):=by
 have R:H.filter (λp=>pw p.1)=H:=aqq.2 λp c=>(v p c).1
 have z:∀{W:ai (aw×ai D)},(∀p∈W,pw p.1=aj/\∀x∈p.2,x.sized=bj/\∀b,x.ref=a6 b->pw b=aj)->(W++H).filter (λp=>pw p.1)=H/\∀lit:D->b3,iR pw lit (W++H)=W:=λ{W} A=>by refine⟨?_,λlit=>?_⟩;rw[aq_,R,aqQ.2 λp c=>by rw[(A p c).1];simp];rfl;rw[I4,jH λp c=>(v p c).1,aqs];unfold iR;rw[aqq.2 λp c=>by rw[(A p c).1];rfl];exact(apz λp c=>by rw[show p.2.map (gK pw lit)=p.2 from(apz λx F=>gF ((A p c).2 x F).2).trans (aqo _)];rfl).trans (aqo _)
 have E:∀{a:ai aw},(∀x∈a,pw x=aj)->∀b,pw b=bj->(a++hs).contains b=hs.contains b:=λ{a} J b j=>by rw[aqf,apt,apt,aps];exact⟨λh=>h.resolve_left λh=>(by rw[J b h]at j;cases j),.inr⟩
 refine aI.Vh m m' pw pins gb (λlit I=>by rw[(z y).2,(z t).2];exact K lit I) (by rw[(z y).1,(z t).1]) (λb j=>by rw[E L b j,E M b j]) (λp c r d g B C=>?_) o8 (λb j s=>.inl ?_) (λb j s=>?_) (λp c r d g B C w=>?_) (λd g=>?_) (λd b g j r=>?_);obtain c|c:=aps.1 c
 rw[(y p c).1]at r;cases r;exact(v p c).2 d g B C;rw[apt]at s⊢;obtain s|s:=aps.1 s
 exact s;rw[N b s]at j;cases j;rw[apt]at s⊢;exact aqt _ s;obtain c|c:=aps.1 c
 rw[((t p c).2 d g).2 B C]at w;cases w;rw[(v p c).1]at r;cases r;rcases g with⟨p,c,g⟩|⟨p,c,r,g⟩
 exact sz p c d g;obtain c|c:=aps.1 c
 exact((y p c).2 d g).1;rw[(v p c).1]at r;cases r;rcases g with⟨p,c,g⟩|⟨p,c,w,g⟩
 obtain⟨Q,O⟩:=S p c d g b j r;refine .inl ⟨p.1,?_⟩;rw[ct,aph Q,O];exact g;obtain c|c:=aps.1 c
 rw[((t p c).2 d g).2 b j]at r;cases r;rw[(v p c).1]at w;cases w
namespace Tw
open fb
variable {G:bn->Prop}
def gA(f:aw->ai Mk):aw->ai (aw×ai D)
 |0=>[]
 |i+1=>Bc (10+i) (f i)++gA f i
def aat{bs:ai Bd}:∀i,jK bs i=gA (λj=>(y7 bs j bc).aC) i
 |0=>rfl
 |i+1=>by rw[jK,gA,aat i]
def nY{f:aw->ai Mk}:∀{N:aw}{p:aw×ai D},p∈gA f N->∃j,j<N/\p.1=10+j/\f j≠[]/\∀x∈p.2,x.ref=bk
 |0,p,h=>api h apQ
 |i+1,p,h=>by
  rcases aps.1 (show p∈Bc (10+i) (f i)++gA f i from h)with h|h
  obtain⟨e,q⟩:=xD h;exact⟨i,by omega,e,λe=>by rw[e]at h;exact api h apQ,q⟩;obtain⟨j,a,b,c⟩:=nY h;exact⟨j,by omega,b,c⟩
def akw:ai Mk->bF (ai D)
 |[]=>bk
 |x::xs=>a6 ((x::xs).flatMap vt)
def ZB(r:aw)(p:ai Mk)(b:aw):oK (Bc r p) b=if b=r then akw p else bk:=by
 cases p with
 |nil=>split<;>rfl
 |cons x xs=>
  unfold oK Bc;by_cases h:b=r;rw[aph h,arx (by simp[h])];rfl;rw[ape h,aq4 (by simpa using aqZ h)];rfl
def ZC(a r:ai (aw×ai D))(b:aw):oK (a++r) b=(oK a b).or (oK r b):=by unfold oK;rw[arF];cases a.find? λp=>p.1==b<;>rfl
def eM(r:aw)(c:ai D)(a:ai (aw×ai D))(b:aw):oK ((r,c)::a) b=if b=r then a6 c else oK a b:=by unfold oK;by_cases h:b=r;rw[aph h,arx (by simp[h])];rfl;rw[ape h,aq4 (by simpa using aqZ h)]
def HK{f:aw->ai Mk}:∀(N b:aw),oK (gA f N) b=if 10<=b/\b<10+N then akw (f (b-10))else bk
 |0,b=>by rw[ape za];rfl
 |N+1,b=>by rw[gA,ZC,ZB,HK N b];by_cases h:b=10+N;rw[aph h,ape za,aph za,Option.or_none,show b-10=N from by omega];rw[ape h,Option.none_or];by_cases a:10<=b/\b<10+N;rw[aph a,aph za];rw[ape a,ape za]
def IT{n:aw}{l:ai (aw×D)}{bl AR:ai (aw×ai D)}{ns:ai aw}(h:∀b,oK bl b=oK AR b):(lay n l bl ns).fs=(lay n l AR ns).fs:=by
 have e:(lay n l bl ns).fs.blk=(lay n l AR ns).fs.blk:=by
  funext b
  rw[fU,fU];exact h b
 show as0.mk _ (lay n l bl ns).fs.blk _=as0.mk _ (lay n l AR ns).fs.blk _;rw[e];rfl
def iu(b:aw):b5:=hM 10 b
def Dz{b:aw}(h:10<=b):iu b=bj:=by unfold iu;rw[aqB];exact h
def Nt{b:aw}(h:iu b=bj):10<=b:=by unfold iu at h;rw[aqB]at h;exact h
def aap(lit:D->b3)(j:aw):ai Mk->bF b3
 |[]=>bk
 |x::xs=>a6 (lit (.bG (10+j) (x::xs).length 7))
def bhE(lit:D->b3)(bs:ai Bd)(j:aw):cB×bF b3:=((y7 bs j bc).nm,aap lit j (y7 bs j bc).aC)
def Qi{lit:D->b3}{j:aw}{aC:ai Mk}:gK iu lit (vS (10+j) aC)=pc (aap lit j aC):=by
 cases aC with
 |nil=>rfl
 |cons x xs=>exact rV rfl (Dz za)
def afp{lit:D->b3}(h:∀d,(D.lit (lit d)).bV=bj){j:aw}{aC:ai Mk}:(pc (aap lit j aC)).bV=bj:=by
 cases aC with
 |nil=>rfl
 |cons x xs=>exact h _
def N8{bs:ai Bd}{lit:D->b3}:∀i,(j6 bs i).map (gK iu lit)=((ch i).map (bhE lit bs)).flatMap cHv
 |0=>rfl
 |i+1=>by rw[j6,aqp,N8 i,aq1,aqp,aqI];congr 1;show [D.lit _,gK iu lit (vS (10+i) (y7 bs i bc).aC)]=_;rw[Qi];rfl
def VI{bs:ai Bd}:∀{N i:aw},i<N->vS (10+i) (y7 bs i bc).aC∈j6 bs N
 |N+1,i,h=>by rw[j6];by_cases e:i=N;subst e;exact aqX _ zb;exact aqt _ (VI za)
def adM{bs:ai Bd}:∀{N:aw}{x:D},x∈j6 bs N->∀b,x.ref=a6 b->∃j,j<N/\b=10+j/\x=vS (10+j) (y7 bs j bc).aC
 |0,x,h,_,_=>api h apQ
 |N+1,x,h,b,a=>by
  rw[j6]at h;obtain h|h:=aps.1 h
  obtain⟨j,d,c⟩:=adM h b a;exact⟨j,by omega,c⟩;obtain rfl|h:=apo.1 h
  cases a;rw[apg]at h;subst h;exact⟨N,by omega,C1 a,rfl⟩
def fS(k:cl)(bs:ai Bd)(i j:aw):ai Mk:=if j<i then(y7 bs j bc).aC.map (rO k)else(y7 bs j bc).aC
def fE(f:aw->ai Mk)(i j:aw):ai Mk:=if j=i then []else f j
section
variable {u:b3} {k:cl} {o:Cp} {bs:ai Bd} {m i:aw}
def FO(u:b3)(k:cl)(m i:aw):ai (aw×D):=[(4,yT u),(3,.aJ (cF k)),(7,y0 7 0),(31,.bG 8 (m+1) 2),(32,nat (m+1)),(33,nat i)]
def SC(u:b3)(k:cl)(o:Cp)(bs:ai Bd)(m:aw)(f:aw->ai Mk)(i:aw):St:=lay 66 (FO u k m i) ((7,ba o (m+1))::(8,j6 bs (m+1))::gA f (m+1)) [7,8]
def BI:∀p∈FO u k m i,∀d∈p.2.parts,d.sized=bj:=λp a d b=>by
 have e:(FO u k m i).all (λp=>p.2.parts.all D.sized)=bj:=zk
 exact apH.1 (apH.1 e p a) d b
def CR{l:ai (aw×D)}(h:∀p∈l,p.2.parts.all (λd=>d.ref.isNone)=bj){g:ai (aw×D)}(j:g=FO u k m i):∀p∈[(4,yT u),(3,.aJ (cF k)),(7,y0 7 0),(31,.bG 8 (m+1) 2)]++l,∀d∈p.2.parts,∀b,d.ref=a6 b->p.1<66/\(g.find? λq=>q.1==p.1)=a6 p:=λp a d e b c=>by
 subst j;obtain a|a:=aps.1 a
 simp only[b4,bI,or_false]at a;obtain rfl|rfl|rfl|rfl:=a
 rw[apg.1 e]at c;cases c;rw[apg.1 e]at c;cases c;exact⟨by show 7<66;omega,rfl⟩;exact⟨by show 31<66;omega,rfl⟩;have:=apH.1 (h p a) d e;rw[c]at this;cases this
def Ix{l:ai (aw×D)}(h:(l.all λp=>p.2.parts.all λd=>d.ref.isNone)=bj):∀p∈l,p.2.parts.all (λd=>d.ref.isNone)=bj:=λp a=>apH.1 h p a
variable {f:aw->ai Mk}
def anq(d:aa G)(c:i<m+1):aI zZq G 66 0 (kL (ae f14 0)) (SC u k o bs m f i) y3 (lay 66 (FO u k m i++[(34,bool bj)]) ((7,ba o (m+1))::(8,j6 bs (m+1))::gA f (m+1)) [7,8]):=
 aI.hiA (λlit=>((ans d c (u:=u) (k:=k) (a:=lit (y0 7 0)) (b:=lit (.bG 8 (m+1) 2))).abs (aB ..)).DJ zk zk) BI (CR (l:=[(32,nat (m+1)),(33,nat i),(34,bool bj)]) (Ix zk) rfl)
def ak8(h:aa G):aI zZq G 66 0 (kL (kR (ae f14 0))) (lay 66 (FO u k m i++[(34,bool bj)]) ((7,ba o (m+1))::(8,j6 bs (m+1))::gA f (m+1)) [7,8]) y3 (SC u k o bs m f i):=
 aI.hiA (λlit=>((ak_ h (u:=u) (k:=k) (N:=m+1) (i:=i) (a:=lit (y0 7 0)) (b:=lit (.bG 8 (m+1) 2))).abs (aB ..)).DJ zk zk) (λp c d e=>by
  obtain c|c:=aps.1 c
  exact BI p c d e;rw[apg]at c;subst c;rw[apg.1 e];rfl) (λp c d e b g=>by
  obtain⟨n,j⟩:=CR (u:=u) (k:=k) (m:=m) (i:=i) (l:=[(32,nat (m+1)),(33,nat i)]) (Ix zk) rfl p c d e b g;exact⟨n,by rw[arF,j];rfl⟩)
def ak9(e:aa G)(c:i<m+1)(d:m+1<=1000):aI zZq G 66 0 (kR (kR (kR (ae f14 0)))) (SC u k o bs m f i) y3 (SC u k o bs m f (i+1)):=
 aI.hiA (λlit=>((ala e c d (u:=u) (k:=k) (a:=lit (y0 7 0)) (b:=lit (.bG 8 (m+1) 2))).abs (aB ..)).DJ zk zk) BI (CR (l:=[(32,nat (m+1)),(33,nat (i+1))]) (Ix zk) rfl)
def aim(h:aa G):aI zZq G 66 0 (ae f14 0) (SC u k o bs m f (m+1)) (y5 0) (lay 66 [(4,yT u),(7,y0 7 0)] ((7,ba o (m+1))::(8,j6 bs (m+1))::gA f (m+1)) [7,8]):=
 aI.hiA (λlit=>((ain h (N:=m+1) (u:=u) (k:=k) (a:=lit (y0 7 0)) (b:=lit (.bG 8 (m+1) 2))).abs (aB ..)).DJ zk zk) BI λp c d g b e=>by
  simp only[b4,bI,or_false]at c;obtain rfl|rfl:=c
  rw[apg.1 g]at e;cases e;exact⟨by show 7<66;omega,rfl⟩
end
section
variable {u:b3} {k:cl} {o:Cp} {bs:ai Bd} {m i:aw} {f:aw->ai Mk}
variable (a:aa G)
def anp(w:i<m+1):aI zZq G 66 0 (kL (kL (kL (kR (kR (ae f14 0)))))) (SC u k o bs m f i) y3
  (lay 66 (FO u k m i++[(9,y0 9 0)]) ((7,ba o (m+1))::(8,j6 bs (m+1))::(9,[yT (.string (y7 bs i bc).nm),vS (10+i) (y7 bs i bc).aC])::gA f (m+1)) [7,8,9]):=by
 have q:∀p∈gA f (m+1),iu p.1=bj/\∀x∈p.2,x.ref=bk:=λp C=>by obtain⟨j,-,e,-,c⟩:=nY C;exact⟨Dz za,c⟩
 have v:∀lit:D->b3,(ba o (m+1)).map (gK iu lit)=ba o (m+1):=λlit=>rfl
 have E:∀lit:D->b3,(∀d,(D.lit (lit d)).bV=bj)->aI zZq G 66 0 (kL (kL (kL (kR (kR (ae f14 0)))))) (lay 66 (mv iu lit (FO u k m i)) (iR iu lit ((7,ba o (m+1))::(8,j6 bs (m+1))::gA f (m+1))) [7]) y3
   (lay 66 (mv iu lit (FO u k m i++[(9,y0 9 0)])) (iR iu lit ((7,ba o (m+1))::(8,j6 bs (m+1))::(9,[yT (.string (y7 bs i bc).nm),vS (10+i) (y7 bs i bc).aC])::gA f (m+1))) [7]):=λlit A=>by
  have H:iR iu lit ((7,ba o (m+1))::(8,j6 bs (m+1))::gA f (m+1))=[(7,ba o (m+1)),(8,((ch (m+1)).map (bhE lit bs)).flatMap cHv)]:=by rw[ir rfl,ir rfl,jH λp C=>(q p C).1,v,N8]
  have F:iR iu lit ((7,ba o (m+1))::(8,j6 bs (m+1))::(9,[yT (.string (y7 bs i bc).nm),vS (10+i) (y7 bs i bc).aC])::gA f (m+1))=[(7,ba o (m+1)),(8,((ch (m+1)).map (bhE lit bs)).flatMap cHv),(9,[yT (.string (y7 bs i bc).nm),pc (aap lit i (y7 bs i bc).aC)])]:=by rw[ir rfl,ir rfl,ir rfl,jH λp C=>(q p C).1,v,N8];show [_,_,(9,[D.lit _,gK iu lit (vS (10+i) (y7 bs i bc).aC)])]=_;rw[Qi]
  rw[H,F];have B:((ch (m+1)).map (bhE lit bs)).getD i bc=((y7 bs i bc).nm,aap lit i (y7 bs i bc).aC):=by rw[apf,aqz,asF w];rfl
  exact(anr a (u:=u) (k:=k) (m:=o) w (by rw[apq,aqL]) B (afp A)).abs (aB ..)
 refine aI.zC _ _ iu E ?_ (λb n=>?_) (λp C l d g z r=>?_) (λb n s=>?_) (λb n s=>?_) (λp C l d g z r y=>?_) (λd g=>?_) (λd b g n l=>?_);rw[ap5 (by show¬iu 7=bj;decide),ap5 (by show¬iu 8=bj;decide),ap5 (by show¬iu 9=bj;decide),ap5 (by show¬iu 7=bj;decide),ap5 (by show¬iu 8=bj;decide)];have:=Nt n;rw[aqf,apt,apt];simp only[b4,bI,or_false];omega;obtain rfl|C:=apo.1 C
 exact api l (show¬iu 7=bj by decide);obtain rfl|C:=apo.1 C
 exact api l (show¬iu 8=bj by decide);rw[(q p C).2 d g]at r;cases r;rw[apt]at s;simp only[b4,bI,or_false]at s;obtain rfl|rfl:=s
 exact y1 rfl;refine y2 λp C e d g z r=>?_
 obtain rfl|C:=apo.1 C
 cases e;obtain rfl|C:=apo.1 C
 exact Dz ((jx g).2 z r).1;rw[(q p C).2 d g]at r;cases r;rw[apt,apg]at s;subst s;rfl;obtain rfl|C:=apo.1 C
 rfl;obtain rfl|C:=apo.1 C
 rfl;obtain rfl|C:=apo.1 C
 rfl;rw[(q p C).1]at l;cases l;rcases g with⟨p,C,g⟩|⟨p,C,l,g⟩
 exact BI p C d g;obtain rfl|C:=apo.1 C
 exact(jS (show d∈ba o (m+1)from g)).1;obtain rfl|C:=apo.1 C
 exact(jx g).1;rw[(q p C).1]at l;cases l;rcases g with⟨p,C,g⟩|⟨p,C,y,g⟩
 exfalso;have:=Nt l;simp only[FO,pa,lp,b4,bI,or_false]at C;obtain rfl|rfl|rfl|rfl|rfl|rfl|rfl:=C<;>(rw[show d=_ from apg.1 g]at n;first|(cases n;done)|(cases n;omega));have t:d∈j6 bs (m+1)->(lay 66 (FO u k m i) ((7,ba o (m+1))::(8,j6 bs (m+1))::gA f (m+1)) [7,8]).fs.holds iu d:=λh=>y2 ⟨8,j6 bs (m+1),by decide,by rw[fU];rfl,h⟩
 obtain rfl|C:=apo.1 C
 rw[(jS (show d∈ba o (m+1)from g)).2 b n]at l;exact api l zv;obtain rfl|C:=apo.1 C
 exact t g;obtain rfl|C:=apo.1 C
 obtain rfl|g:=apo.1 g
 cases n;rw[apg]at g;subst g;exact t (VI w);rw[(q p C).1]at y;cases y
def agI{x:D}{N:aw}(h:x∈j6 bs N):∀b,x.ref=a6 b->10<=b/\b<10+N:=(jx h).2
def aeQ(E:aa G)(g:(y7 bs i bc).aC=[]):aI zZq G 66 0 (kR (kL (kL (kR (kR (ae f14 0)))))) (lay 66 (FO u k m i++[(9,y0 9 0)]) ((7,ba o (m+1))::(8,j6 bs (m+1))::(9,[yT (.string (y7 bs i bc).nm),vS (10+i) (y7 bs i bc).aC])::gA f (m+1)) [7,8,9]) y3 (SC u k o bs m f i):=by
 rw[g];have A:∀p∈(7,ba o (m+1))::(8,j6 bs (m+1))::gA f (m+1),pw p.1=bj/\∀x∈p.2,∀b,x.ref=a6 b->pw b=bj\/x∈([]:ai D):=λp g=>by
  obtain rfl|g:=apo.1 g
  exact⟨rfl,λx q b r=>y1 (zt (y2 (y1 ((jS (show x∈ba o (m+1)from q)).2 b r))))⟩;obtain rfl|g:=apo.1 g
  exact⟨rfl,λx q b r=>y1 (zt (y2 (y2 (agI q b r).1)))⟩;obtain⟨j,-,e,-,c⟩:=nY g;exact⟨zt za,λx q b r=>by rw[c x q]at r;cases r⟩
 have h:=aI.hiC (P:=zZq) (Good:=G) (n:=66) (gb:=0) (k:=kR (kL (kL (kR (kR (ae f14 0)))))) (e:=y3) (l:=FO u k m i++[(9,y0 9 0)]) (l':=FO u k m i) (V:=[(9,[yT (.string (y7 bs i bc).nm),yI 0 bj []])]) (V':=[]) (H:=(7,ba o (m+1))::(8,j6 bs (m+1))::gA f (m+1)) (m:=[9]) (m':=[9]) (hs:=[7,8]) []
  (λlit J=>((aio E (u:=u) (k:=k) (N:=m+1) (i:=i) (nm:=(y7 bs i bc).nm) (a:=lit (y0 7 0)) (b:=lit (.bG 8 (m+1) 2))).abs (aB ..)).DJ zk zk)
  (λp g=>by rw[apg]at g;subst g;refine⟨rfl,λx q=>?_⟩;simp only[b4,bI,or_false]at q;obtain rfl|rfl:=q<;>exact⟨rfl,λb r=>by cases r⟩) (λp g=>api g apQ) A (λx q=>api q apQ) (λx q=>zt (by simp only[b4,bI,or_false]at q;omega)) (λx q=>by rw[apg.1 q];rfl) (λx q=>by rw[apg.1 q];rfl)
  (λp g d v=>by
   obtain g|g:=aps.1 g
   exact BI p g d v;rw[apg]at g;subst g;rw[apg.1 v];rfl)
  (λp g d v b r _=>by obtain⟨I,F⟩:=CR (u:=u) (k:=k) (m:=m) (i:=i) (l:=[(32,nat (m+1)),(33,nat i)]) (Ix zk) rfl p g d v b r;exact⟨I,by rw[arF,F];rfl⟩)
 refine(h.to λc a w C t=>?_).by λc a w C t=>?_
 refine Rel.bu t rfl rfl λb r s=>?_
 obtain⟨cs,B⟩:=apn.1 r;have hm:=kZ B;have K:b≠9:=λe=>by subst e;have:=ajV (A _ (show(9,cs)∈(7,ba o (m+1))::(8,j6 bs (m+1))::gA f (m+1)from hm)).1;simp only at this;omega
 have s:([9]++[7,8]:ai aw).contains b=bj:=s;show([7,8]:ai aw).contains b=bj;rw[apt]at s⊢;simp only[pa,lp,b4,bI,or_false]at s⊢;omega;have e:=IT (n:=66) (l:=FO u k m i++[(9,y0 9 0)]) (bl:=(7,ba o (m+1))::(8,j6 bs (m+1))::(9,[yT (.string (y7 bs i bc).nm),vS (10+i) []])::gA f (m+1)) (AR:=[(9,[yT (.string (y7 bs i bc).nm),yI 0 bj []])]++((7,ba o (m+1))::(8,j6 bs (m+1))::gA f (m+1))) (ns:=[7,8,9]) λb=>by rw[eM,eM,eM,List.singleton_append,eM,eM,eM];by_cases z:b=7;subst z;rfl;by_cases y:b=8;subst y;rfl;rw[ape z,ape y,ape z,ape y];rfl
 rw[e]at t;refine Rel.bu t rfl rfl λb _ s=>?_
 have s:([7,8,9]:ai aw).contains b=bj:=s;show([9]++[7,8]:ai aw).contains b=bj;rw[apt]at s⊢;simp only[pa,lp,b4,bI,or_false]at s⊢;omega
def R1{ρ:aw->aw}(h:∀b,ρ (ρ b)=b)(d:D):(d.fD ρ).fD ρ=d:=by cases d<;>first|rfl|(simp only[D.fD,h])
def aeF(x y b:aw):Ue x y (Ue x y b)=b:=by unfold Ue;split<;>split<;>(try split)<;>(try split)<;>omega
def aeP(hG:aa G)(hi:i<m+1)(h6:m+1<=6){x:Mk}{xs:ai Mk}(r:(y7 bs i bc).aC=x::xs)(t:y6 (x::xs)<=1000000)(hk:Qk k)(hq:∀m∈x::xs,Qk m.x/\Qk m.y){f':aw->ai Mk}(f1:f i=x::xs)(f2:f' i=(x::xs).map (rO k))(f3:∀j,j≠i->f' j=f j):
  aI zZq G 66 0 (kR (kL (kL (kR (kR (ae f14 0)))))) (lay 66 (FO u k m i++[(9,y0 9 0)]) ((7,ba o (m+1))::(8,j6 bs (m+1))::(9,[yT (.string (y7 bs i bc).nm),vS (10+i) (y7 bs i bc).aC])::gA f (m+1)) [7,8,9]) y3 (SC u k o bs m f' i):=by
 have r0:g9 [(0,10+i)] 0=10+i:=by show Ue 0 (10+i) 0=_;unfold Ue;rw[aph rfl]
 have T:g9 [(0,10+i)] (10+i)=0:=ZF za
 have F:g9 [(0,10+i)] 7=7:=CI za za
 have E:g9 [(0,10+i)] 8=8:=CI za za
 have L:g9 [(0,10+i)] 9=9:=CI za za
 have S:∀j,j≠i->g9 [(0,10+i)] (10+j)=10+j:=λj h=>CI za za
 have Z:∀b,g9 [(0,10+i)] (g9 [(0,10+i)] b)=b:=λb=>aeF 0 (10+i) b
 have wg:=λ{c:Ctx} {a:Act} {w:bn} {l:ai (aw×D)} {bl:ai (aw×ai D)} {ns:ai aw} (z:c.gb<=0)=>Rel.wg (c:=c) (n:=66) (m:=66) (gb:=0) (l:=l) (bl:=bl) (ns:=ns) (a:=a) (w:=w) [(0,10+i)] (λp _=>⟨apJ _,apJ _⟩) z
 generalize g9 [(0,10+i)]=ρ at*;rw[r];have U:∀b,10<=b->([9,7,8]:ai aw).contains b=aj:=λb q=>by
  rw[arc,ne_eq,apt];simp only[b4,bI,or_false];omega
 have X:t_ ρ [9,7,8] (gA (fE f i) (m+1))=gA (fE f i) (m+1):=by
  unfold t_;refine(apz λp r=>?_).trans (aqo _)
  obtain⟨j,-,e,ne,-⟩:=nY r;have hj:j≠i:=λe=>ne (by unfold fE;rw[aph e])
  rw[e,S j hj,U _ za,<-e];rfl
 have e8:((j6 bs (m+1)).map (D.fD ρ)).map (D.fD ρ)=j6 bs (m+1):=by
  rw[aqG];exact(apz λd _=>R1 Z d).trans (aqo _)
 have Y:∀p∈(7,ba o (m+1))::(8,(j6 bs (m+1)).map (D.fD ρ))::gA (fE f i) (m+1),pw p.1=bj/\∀y∈p.2,∀b,y.ref=a6 b->pw b=bj\/y∈[D.bG 0 (x::xs).length 7]:=λp B=>by
  obtain rfl|B:=apo.1 B
  ·exact⟨rfl,λy s b q=>y1 (zt (y2 (y1 ((jS (show y∈ba o (m+1)from s)).2 b q))))⟩
  ·obtain rfl|B:=apo.1 B
   ·refine⟨rfl,λy s b q=>?_⟩
    obtain⟨d,A,rfl⟩:=apN.1 (show y∈(j6 bs (m+1)).map (D.fD ρ)from s)
    rw[v_]at q;obtain⟨b0,rW,rfl⟩:=arA.1 q;obtain⟨j,C,rfl,h3⟩:=adM A b0 rW;by_cases e:j=i
    ·subst e
     refine y2 ?_;rw[h3,r];show D.bG (ρ (10+j)) _ 7∈_;rw[T];exact apg.2 rfl
    ·rw[S j e]
     exact y1 (zt za)
   ·obtain⟨j,-,e,-,c⟩:=nY B
    exact⟨zt za,λy s b q=>by rw[c y s]at q;cases q⟩
 have h:=aI.hiC (P:=zZq) (Good:=G) (n:=66) (gb:=1) (k:=kR (kL (kL (kR (kR (ae f14 0)))))) (e:=y3) (l:=FO u k m i++[(9,y0 9 0)]) (l':=FO u k m i) (V:=[(9,[yT (.string (y7 bs i bc).nm),.bG 0 (x::xs).length 7]),(0,(x::xs).flatMap vt)]) (V':=[(0,((x::xs).map (rO k)).flatMap vt)]) (H:=(7,ba o (m+1))::(8,(j6 bs (m+1)).map (D.fD ρ))::gA (fE f i) (m+1)) (m:=[9]) (m':=[9]) (hs:=[7,8]) [D.bG 0 (x::xs).length 7]
  (λlit hl=>((alb hG (u:=u) (k:=k) (N:=m+1) (i:=i) (nm:=(y7 bs i bc).nm) (a:=lit (y0 7 0)) (b:=lit (.bG 8 (m+1) 2)) (s:=x::xs) rfl t hk hq).abs (aB ..)).DJ zk zk)
  (λp r=>by
   obtain rfl|r:=apo.1 r
   ·refine⟨rfl,λy v=>?_⟩
    simp only[b4,bI,or_false]at v;obtain rfl|rfl:=v
    ·exact⟨rfl,λb q=>by cases q⟩
    ·exact⟨rfl,λb q=>by cases q;rfl⟩
   ·rw[apg]at r
    subst r;exact⟨rfl,λy s=>⟨qP (l_ s),λb q=>by rw[l_ s]at q;cases q⟩⟩) (λp r=>by
   rw[apg]at r;subst r;exact⟨rfl,λy s=>⟨qP (l_ s),λb q=>by rw[l_ s]at q;cases q⟩⟩) Y (λy s=>by
   rw[apg]at s;subst s;exact⟨rfl,⟨9,[yT (.string (y7 bs i bc).nm),.bG 0 (x::xs).length 7],by rw[fU];rfl,by simp⟩,0,rfl,by omega,rfl⟩) (λx v=>zt (by simp only[b4,bI,or_false]at v;omega)) (λx v=>by rw[apg.1 v];rfl) (λx v=>by rw[apg.1 v];rfl)
  (λp r d A=>by
   obtain r|r:=aps.1 r
   ·exact BI p r d A
   ·rw[apg]at r
    subst r;rw[apg.1 A];rfl)
  (λp r d A b q _=>by
   obtain⟨C,R⟩:=CR (u:=u) (k:=k) (m:=m) (i:=i) (l:=[(32,nat (m+1)),(33,nat i)]) (Ix zk) rfl p r d A b q
   exact⟨C,by rw[arF,R];rfl⟩)
 have W:∀b,b≠10+i->∀g:aw->ai Mk,(∀j,j≠i->g j=f j)->oK (gA (fE f i) (m+1)) b=oK (gA g (m+1)) b:=λb q g z=>by
  rw[HK,HK];by_cases J:10<=b/\b<10+(m+1)
  ·rw[aph J,aph J,z (b-10) za,fE,ape za]
  ·rw[ape J,ape J]
 have at':∀g:aw->ai Mk,oK (gA g (m+1)) (10+i)=akw (g i):=λg=>by
  rw[HK,aph za,show 10+i-10=i from by omega]
 refine(h.to λc a w z I=>?_).by λc a w z I=>?_
 ·have C:Rel c 66 (lay 66 (FO u k m i) ((10+i,((x::xs).map (rO k)).flatMap vt)::(7,ba o (m+1))::(8,j6 bs (m+1))::gA (fE f i) (m+1)) [9,7,8]).fs a w:=by
   refine wg z ?_;have Q:(FO u k m i).map (λp=>(p.1,p.2.Ew ρ))=[(4,yT u),(3,.aJ (cF k)),(7,y0 (ρ 7) 0),(31,.bG (ρ 8) (m+1) 2),(32,nat (m+1)),(33,nat i)]:=rfl
   have O:t_ ρ [9,7,8] ((10+i,((x::xs).map (rO k)).flatMap vt)::(7,ba o (m+1))::(8,j6 bs (m+1))::gA (fE f i) (m+1))=(ρ (10+i),bif ([9,7,8]:ai aw).contains (10+i)then(((x::xs).map (rO k)).flatMap vt).map (D.fD ρ)else((x::xs).map (rO k)).flatMap vt)::(ρ 7,[yT (.string o.ln),.bG (ρ 8) (m+1) 2,yI o.a aj o.js,yI o.b aj o.ds])::(ρ 8,(j6 bs (m+1)).map (D.fD ρ))::t_ ρ [9,7,8] (gA (fE f i) (m+1)):=rfl
   have M:([9,7,8]:ai aw).map ρ=[9,7,8]:=by show [ρ 9,ρ 7,ρ 8]=_;rw[F,E,L]
   rw[Q,O,M,X,F,E,T,U _ za]
   exact I
  have e:=IT (n:=66) (l:=FO u k m i) (bl:=(10+i,((x::xs).map (rO k)).flatMap vt)::(7,ba o (m+1))::(8,j6 bs (m+1))::gA (fE f i) (m+1)) (AR:=(7,ba o (m+1))::(8,j6 bs (m+1))::gA f' (m+1)) (ns:=[9,7,8]) λb=>by
   rw[eM,eM,eM,eM,eM];by_cases q:b=10+i
   ·subst q
    rw[aph rfl,ape za,ape za,at',f2];rfl
   ·rw[ape q,W b q f' f3]
  rw[e]at C;refine Rel.bu C rfl rfl λb q t=>?_
  obtain⟨cs,jz⟩:=apn.1 q;have K:b≠9:=λe=>by
   subst e;have hm:=kZ jz;obtain e|hm:=apo.1 hm
   ·cases e
   ·obtain e|hm:=apo.1 hm
    ·cases e
    ·obtain⟨j,-,e,-⟩:=nY hm
     simp only at e;omega
  have t:([9,7,8]:ai aw).contains b=bj:=t;show([7,8]:ai aw).contains b=bj;rw[apt]at t⊢;simp only[b4,bI,or_false]at t⊢;omega
 ·have e:=IT (n:=66) (l:=FO u k m i++[(9,y0 9 0)]) (bl:=(7,ba o (m+1))::(8,j6 bs (m+1))::(9,[yT (.string (y7 bs i bc).nm),vS (10+i) (x::xs)])::gA f (m+1)) (AR:=(9,[yT (.string (y7 bs i bc).nm),.bG (10+i) (x::xs).length 7])::(10+i,(x::xs).flatMap vt)::(7,ba o (m+1))::(8,j6 bs (m+1))::gA (fE f i) (m+1)) (ns:=[7,8,9]) λb=>by
   rw[eM,eM,eM,eM,eM,eM,eM];by_cases q:b=10+i
   ·subst q
    rw[ape za,ape za,ape za,ape za,aph rfl,at',f1];rfl
   ·by_cases K:b=9
    ·subst K;rfl
    ·rw[ape K,ape K,ape q,W b q f λ_ _=>rfl]
  rw[e]at I;have R:Rel c 66 (lay 66 (FO u k m i++[(9,y0 9 0)]) ((9,[yT (.string (y7 bs i bc).nm),.bG (10+i) (x::xs).length 7])::(10+i,(x::xs).flatMap vt)::(7,ba o (m+1))::(8,j6 bs (m+1))::gA (fE f i) (m+1)) [9,7,8]).fs a w:=by
   refine Rel.bu I rfl rfl λb _ t=>?_
   have t:([7,8,9]:ai aw).contains b=bj:=t;show([9,7,8]:ai aw).contains b=bj;rw[apt]at t⊢;simp only[b4,bI,or_false]at t⊢;omega
  refine wg z ?_;have Q:(FO u k m i++[(9,D.ptr 9 0)]).map (λp:aw×D=>(p.1,p.2.Ew ρ))=[(4,yT u),(3,.aJ (cF k)),(7,y0 (ρ 7) 0),(31,.bG (ρ 8) (m+1) 2),(32,nat (m+1)),(33,nat i),(9,y0 (ρ 9) 0)]:=rfl
  have O:t_ ρ [9,7,8] ([(9,[yT (.string (y7 bs i bc).nm),.bG 0 (x::xs).length 7]),(0,(x::xs).flatMap vt)]++(7,ba o (m+1))::(8,(j6 bs (m+1)).map (D.fD ρ))::gA (fE f i) (m+1))=(ρ 9,[yT (.string (y7 bs i bc).nm),.bG (ρ 0) (x::xs).length 7])::(ρ 0,(x::xs).flatMap vt)::(ρ 7,[yT (.string o.ln),.bG (ρ 8) (m+1) 2,yI o.a aj o.js,yI o.b aj o.ds])::(ρ 8,((j6 bs (m+1)).map (D.fD ρ)).map (D.fD ρ))::t_ ρ [9,7,8] (gA (fE f i) (m+1)):=rfl;have M:([9]++[7,8]:ai aw).map ρ=[9,7,8]:=by show [ρ 9,ρ 7,ρ 8]=_;rw[F,E,L]
  show Rel c 66 (lay 66 _ (t_ ρ [9,7,8] _) _).fs a w;rw[Q,O,M,X,e8,F,E,L,r0];exact R
end
end Tw
inductive Rm:D->D->Prop
 |refl (d:D):Rm d d
 |row (len:aw) (full:b5) (xs ys:ai D) (hl:xs.length=ys.length) (h:∀i(h:i<xs.length)(h':i<ys.length),Rm xs[i] ys[i]):Rm (yI len full xs) (yI len aj ys)
 |agg (xs ys:ai D) (hl:xs.length=ys.length) (h:∀i(h:i<xs.length)(h':i<ys.length),Rm xs[i] ys[i]):Rm (y4 xs) (y4 ys)
 |aP (xs ys:ai D) (hl:xs.length=ys.length) (h:∀i(h:i<xs.length)(h':i<ys.length),Rm xs[i] ys[i]):Rm (.aP xs) (.aP ys)
def b9.lo{w:bn}{X:aw->Prop}{v:b3}{d:D}(h:b9 w X v d):∀{d':D},Rm d d'->b9 w X v d':=by
 induction h with
 |any v=>intro d' h;cases h;exact .any v
 |lit v=>intro d' h;cases h;exact .lit v
 |row a len cap full us xs b hlen q s hm c g=>
  intro d' h;cases h with
  |refl=>exact .row a len cap full us xs b hlen q s hm c
  |row _ _ _ j e h=>exact .row a len cap aj us j (b.trans e) hlen q (λh=>by cases h) hm λi p n=>g i p za (h i za n)
 |aJ a us xs b hm c g=>intro d' h;cases h;exact .aJ a us xs b hm c
 |agg us xs b c g=>
  intro d' h;cases h with
  |refl=>exact .agg us xs b c
  |agg _ j e h=>exact .agg us j (b.trans e) λi p n=>g i p za (h i za n)
 |aP us xs b c g=>
  intro d' h;cases h with
  |refl=>exact .aP us xs b c
  |aP _ j e h=>exact .aP us j (b.trans e) λi p n=>g i p za (h i za n)
 |fn f us t xs x b e c r=>intro d' h;cases h;exact .fn f us t xs x b e c r
def Spec.lo{f:c7}{args:ai D}{r r':D}(h:Spec P Good f args r)(c:Rm r r'):Spec P Good f args r':=λw F a n j g=>
 (h w F a n j g).mono λe q p=>by obtain⟨v,rfl,b,d⟩:=p;exact⟨v,rfl,b.lo c,d⟩
namespace Tw
section
open fb
variable {G:bn->Prop} {u:b3} {k:cl} {o:Cp} {bs:ai Bd} {m i:aw} {f:aw->ai Mk}
def Wu(b:aa G)(d:i<m+1)(q:m+1<=6)(p:Qk k)(n:(y7 bs i bc).aC.length<=1000000)(g:∀x∈(y7 bs i bc).aC,Qk x.x/\Qk x.y):aI zZq G 66 0 (ae f14 0) (SC u k o bs m (fS k bs i) i) y3 (SC u k o bs m (fS k bs (i+1)) (i+1)):=by
 rw[aiw];refine(anq b d).seq ((ak8 b).seq (aI.seq (aI.block (aI.seq (anp b d) ?_)) (ak9 b d za)));cases a:(y7 bs i bc).aC with
 |nil=>
  have e:fS k bs (i+1)=fS k bs i:=by
   funext j
   unfold fS;by_cases h:j=i;subst h;rw[aph za,ape za,a];rfl;by_cases c:j<i;rw[aph za,aph c];rw[ape za,ape c]
  rw[e,<-a];exact aeQ b a
 |cons x xs=>
  rw[a]at n g;have s:=aeP (u:=u) (k:=k) (o:=o) (bs:=bs) (m:=m) (i:=i) (f:=fS k bs i) b d q a n p g (f':=fS k bs (i+1)) (by unfold fS;rw[ape za,a]) (by unfold fS;rw[aph za,a]) (λj h=>by unfold fS;by_cases c:j<i;rw[aph za,aph c];rw[ape za,ape c])
  rw[a]at s;exact s
variable (a:aa G)
def ZV(n:y6 bs=m+1)(j:m+1<=6)(e:Qk k)(d:∀b∈bs,y6 b.aC<=1000000)(c:∀b∈bs,∀x∈b.aC,Qk x.x/\Qk x.y):aI zZq G 66 0 (.loop (ae f14 0)) (SC u k o bs m (fS k bs 0) 0) (y5 0) (lay 66 [(4,yT u),(7,y0 7 0)] ((7,ba o (m+1))::(8,j6 bs (m+1))::gA (fS k bs (m+1)) (m+1)) [7,8]):=
 aI.loop (λi=>SC u k o bs m (fS k bs i) i) (m+1) z1 (λi g=>Wu a g j e (d _ (aA za bc)) (c _ (aA za bc))) (aim a)
def alw:aI zZq G 66 0 (kL (kL (kR (kR (kR (kR (aN f14))))))) (lay 66 [(4,yT u),(3,.aJ (cF k)),(7,y0 7 0)] (zK o bs (m+1)) [7,8]) y3 (SC u k o bs m (fS k bs 0) 0):=by
 have A:zK o bs (m+1)=(7,ba o (m+1))::(8,j6 bs (m+1))::gA (fS k bs 0) (m+1):=by show(7,ba o (m+1))::(8,j6 bs (m+1))::jK bs (m+1)=_;rw[aat,show(λj=>(y7 bs j bc).aC)=fS k bs 0 from funext λj=>by unfold fS;rw[ape za]]
 rw[A];generalize fS k bs 0=f;have r:∀p∈gA f (m+1),iu p.1=bj/\∀x∈p.2,x.ref=bk:=λp w=>by obtain⟨j,-,e,-,c⟩:=nY w;exact⟨Dz za,c⟩
 have y:∀lit:D->b3,(∀d,(D.lit (lit d)).bV=bj)->aI zZq G 66 0 (kL (kL (kR (kR (kR (kR (aN f14))))))) (lay 66 (mv iu lit [(4,yT u),(3,.aJ (cF k)),(7,y0 7 0)]) (iR iu lit ((7,ba o (m+1))::(8,j6 bs (m+1))::gA f (m+1))) [7]) y3
   (lay 66 (mv iu lit (FO u k m 0)) (iR iu lit ((7,ba o (m+1))::(8,j6 bs (m+1))::gA f (m+1))) [7]):=λlit B=>by
  have z:iR iu lit ((7,ba o (m+1))::(8,j6 bs (m+1))::gA f (m+1))=[(7,ba o (m+1)),(8,(j6 bs (m+1)).map (gK iu lit))]:=by rw[ir rfl,ir rfl,jH λp w=>(r p w).1];rfl
  rw[z];exact(ant a (u:=u) (k:=k) (m:=o)).abs (aB ..)
 refine aI.zC _ _ iu y rfl (λb n=>rfl) (λp w h d g v q=>?_) (λb n s=>?_) (λb n s=>?_) (λp w h d g v q t=>?_) (λd g=>?_) (λd b g n h=>?_);obtain rfl|w:=apo.1 w
 exact api h (show¬iu 7=bj by decide);obtain rfl|w:=apo.1 w
 exact api h (show¬iu 8=bj by decide);rw[(r p w).2 d g]at q;cases q;rw[apt]at s;simp only[b4,bI,or_false]at s;obtain rfl|rfl:=s
 exact y1 rfl;refine y2 λp w e d g v q=>?_
 obtain rfl|w:=apo.1 w
 cases e;obtain rfl|w:=apo.1 w
 exact Dz ((jx g).2 v q).1;rw[(r p w).2 d g]at q;cases q;rw[apt,apg]at s;subst s;rfl;obtain rfl|w:=apo.1 w
 rfl;obtain rfl|w:=apo.1 w
 rfl;rw[(r p w).1]at h;cases h;rcases g with⟨p,w,g⟩|⟨p,w,h,g⟩
 simp only[b4,bI,or_false]at w;obtain rfl|rfl|rfl:=w<;>(rw[show d=_ from apg.1 g];rfl);obtain rfl|w:=apo.1 w
 exact(jS (show d∈ba o (m+1)from g)).1;obtain rfl|w:=apo.1 w
 exact(jx g).1;rw[(r p w).1]at h;cases h;rcases g with⟨p,w,g⟩|⟨p,w,t,g⟩
 exfalso;have:=Nt h;simp only[FO,b4,bI,or_false]at w;obtain rfl|rfl|rfl|rfl|rfl|rfl:=w<;>(rw[show d=_ from apg.1 g]at n;first|(cases n;done)|(cases n;omega));obtain rfl|w:=apo.1 w
 rw[(jS (show d∈ba o (m+1)from g)).2 b n]at h;exact api h zv;obtain rfl|w:=apo.1 w
 exact y2 ⟨8,j6 bs (m+1),by decide,by rw[fU];rfl,g⟩;rw[(r p w).1]at t;cases t
def aiv:aI zZq G 66 0 (kR (kR (kR (kR (kR (aN f14)))))) (lay 66 [(4,y0 9 0),(7,y0 7 0)] ((9,Cx)::(7,ba o (m+1))::(8,j6 bs (m+1))::gA f (m+1)) [7,8]) .ret (lay 66 [(4,y0 9 0),(5,xc)] ((9,ba o (m+1))::(8,j6 bs (m+1))::gA f (m+1)) [8,9]):=by
 have n:∀p∈(8,j6 bs (m+1))::gA f (m+1),mf p.1=bj/\∀x∈p.2,∀b,x.ref=a6 b->mf b=bj:=λp z=>by
  obtain rfl|z:=apo.1 z
  exact⟨rfl,λx t b h=>EW (y2 ((jx t).2 b h).1)⟩;obtain⟨j,-,e,-,c⟩:=nY z;exact⟨EW za,λx t b h=>by rw[c x t]at h;cases h⟩
 generalize(8,j6 bs (m+1))::gA f (m+1)=rest at n;have f1:((9,Cx)::(7,ba o (m+1))::rest).filter (λp=>mf p.1)=rest:=by rw[ap5 (by show¬mf 9=bj;decide),ap5 (by show¬mf 7=bj;decide)];exact aqq.2 λp z=>(n p z).1
 have f2:((9,ba o (m+1))::rest).filter (λp=>mf p.1)=rest:=by rw[ap5 (by show¬mf 9=bj;decide)];exact aqq.2 λp z=>(n p z).1
 have A:∀lit:D->b3,(∀d,(D.lit (lit d)).bV=bj)->aI zZq G 66 0 (kR (kR (kR (kR (kR (aN f14)))))) (lay 66 (mv mf lit [(4,y0 9 0),(7,y0 7 0)]) (iR mf lit ((9,Cx)::(7,ba o (m+1))::rest)) []) .ret
   (lay 66 (mv mf lit [(4,y0 9 0),(5,xc)]) (iR mf lit ((9,ba o (m+1))::rest)) []):=λlit y=>by
  have C:iR mf lit ((9,Cx)::(7,ba o (m+1))::rest)=[(9,Cx),(7,adf o lit (m+1))]:=by rw[ir rfl,ir rfl,jH λp z=>(n p z).1,DP];rfl
  have B:iR mf lit ((9,ba o (m+1))::rest)=[(9,adf o lit (m+1))]:=by rw[ir rfl,jH λp z=>(n p z).1,DP]
  rw[C,B];exact(ak' a (m:=o) (y _)).abs (aB ..)
 refine aI.zC _ _ mf A (by rw[f1,f2]) (λb h=>?_) (λp z q d g s r=>?_) (λb h w=>?_) (λb h w=>by cases w) (λp z q d g s r v=>?_) (λd g=>?_) (λd b g h q=>?_);have:=ab_ h;rw[aqf,apt,apt];simp only[b4,bI,or_false];omega;obtain rfl|z:=apo.1 z
 exact api q (show¬mf 9=bj by decide);obtain rfl|z:=apo.1 z
 exact api q (show¬mf 7=bj by decide);exact(n p z).2 d g s r;refine y2 λp z e d g s r=>?_
 obtain rfl|z:=apo.1 z
 rw[pF d g]at r;cases r;obtain rfl|z:=apo.1 z
 exact EW (y1 ((jS (show d∈ba o (m+1)from g)).2 s r));exact(n p z).2 d g s r;obtain rfl|z:=apo.1 z
 show([8,9]:ai aw).contains 9=bj;decide;rw[(n p z).1]at q;cases q;rcases g with⟨p,z,g⟩|⟨p,z,q,g⟩
 simp only[b4,bI,or_false]at z;obtain rfl|rfl:=z<;>(rw[show d=_ from apg.1 g];rfl);obtain rfl|z:=apo.1 z
 exact qP (pF d g);obtain rfl|z:=apo.1 z
 exact(jS (show d∈ba o (m+1)from g)).1;rw[(n p z).1]at q;cases q;rcases g with⟨p,z,g⟩|⟨p,z,v,g⟩
 exfalso;simp only[b4,bI,or_false]at z;obtain rfl|rfl:=z<;>(rw[show d=_ from apg.1 g]at h;first|(cases h;done)|(cases h;exact api q zv));obtain rfl|z:=apo.1 z
 exact y2 ⟨7,ba o (m+1),by decide,by rw[fU];rfl,g⟩;rw[(n p z).1]at v;cases v
def afr{N:aw}:NoB 9 (gA f N):=λp b=>by obtain⟨j,-,e,-,c⟩:=nY b;exact⟨by omega,λx a=>⟨qP (c x a),λe=>by rw[c x a]at e;cases e⟩⟩
def aiu:NoB 9 ((7,ba o (m+1))::(8,j6 bs (m+1))::gA f (m+1)):=λp a=>by
 obtain rfl|a:=apo.1 a
 exact⟨by show 7≠9;omega,λx b=>Vv (m:=o) (b:=m+1) x b⟩;obtain rfl|a:=apo.1 a
 exact⟨by show 8≠9;omega,λx b=>⟨(jx b).1,λe=>by have:=(jx b).2 9 e;omega⟩⟩;exact afr p a
end
section
open fb
variable {G:bn->Prop} {l:Lk} {k:cl} {m:aw}
variable (a:aa G)
def Wt(ck:xf G 37 [lM l] (yT .nilIface))(e:Qk k)(j:nV k=1)(g:y6 l.bs=m+1)(h:m+1<=6)(n:y6 l.js<=1000)(p:y6 l.ds<=1000)(d:∀b∈l.bs,y6 b.aC<=1000000)(c:∀b∈l.bs,∀x∈b.aC,Qk x.x/\Qk x.y):
  aI zZq G 66 0 (.seq (kL (aN f14)) (.seq (kL (kR (aN f14))) (.seq (kL (kR (kR (aN f14)))) (.seq (kL (kR (kR (kR (aN f14))))) (.seq (.seq (kL (kL (kR (kR (kR (kR (aN f14))))))) (.block 0 (.loop (ae f14 0)))) (kR (kR (kR (kR (kR (aN f14)))))))))))
   (dA 66 [lM l,F k] [] []) .ret (lay 66 [(4,y0 9 0),(5,yT .nilIface)] ((9,ba (Kw .nilIface l) (m+1))::(8,j6 l.bs (m+1))::gA (fS k l.bs (m+1)) (m+1)) [8,9]):=by
 have cI:=adh (v0:=.nilIface) a za n p d c;rw[g]at cI;refine(anz a).seq ((anx a ck).seq ((anw a e j).seq (aI.seq (s1:=lay 66 [(4,y0 9 0),(3,.aJ (cF k)),(7,y0 7 0)] ((9,Cx)::zK (Kw .nilIface l) l.bs (m+1)) [7,8]) ?_ (aI.seq (s1:=lay 66 [(4,y0 9 0),(7,y0 7 0)] ((9,Cx)::(7,ba (Kw .nilIface l) (m+1))::(8,j6 l.bs (m+1))::gA (fS k l.bs (m+1)) (m+1)) [7,8]) ?_ (aiv a)))));exact aI.hi1 zv (vI zk) (vI zk) (EL rfl) NQ pF apQ zv λv=>anu a h cI
 exact aI.hi1 zv (vI zk) (vI zk) NQ aiu pF zv zv λv=>(alw a).seq (aI.adG (ZV a g h e d c))
def aff{N:aw}{f:aw->ai Mk}{rest:ai (aw×ai D)}(q:∀b,oK rest b=if b=8 then a6 (j6 l.bs N)else oK (gA f N) b){c9:ai D}(n:∀p∈rest,p.1=8\/10<=p.1/\p.1<16){j:aw}(w:j<N)(c:aw)(a:(f j).length=(l.bs.getD j bc).aC.length):
  Rm (D.lN (λb=>(mH rest (a6 c9)).getD b bk) (λb=>([8,9]:ai aw).contains b) (c+1) (vS (10+j) (l.bs.getD j bc).aC)) (aQ vt (f j)):=by
 have g:∀b,b≠9->(mH rest (a6 c9)).getD b bk=oK rest b:=λb h=>by rw[<-Mw n c9 b,aq4 (by simpa using aqZ h)];rfl
 cases d:(l.bs.getD j bc).aC with
 |nil=>
  rw[d]at a;rw[ap8 a];exact .row 0 bj [] [] rfl λi h=>api h zb
 |cons x xs=>
  rw[d]at a;have e:(mH rest (a6 c9)).getD (10+j) bk=a6 ((f j).flatMap vt):=by
   rw[g _ za,q,ape za,HK,aph za,show 10+j-10=j from by omega];cases r:f j with
   |nil=>rw[r]at a;cases a
   |cons y v=>rfl
  have s:([8,9]:ai aw).contains (10+j)=aj:=by rw[arc,ne_eq,apt];simp only[b4,bI,or_false];omega
  have t:D.lN (λb=>(mH rest (a6 c9)).getD b bk) (λb=>([8,9]:ai aw).contains b) (c+1) (vS (10+j) (x::xs))=.row (x::xs).length aj (((f j).flatMap vt).take ((x::xs).length*7)):=by
   show(match(mH rest (a6 c9)).getD (10+j) bk with
    |some cs=>match([8,9]:ai aw).contains (10+j)with
     |false=>D.dD (10+j) cs (.bG (10+j) (x::xs).length 7)
     |true=>D.dD (10+j) (cs.map (D.lN (λb=>(mH rest (a6 c9)).getD b bk) (λb=>([8,9]:ai aw).contains b) c)) (.bG (10+j) (x::xs).length 7)
    |none=>.any)=_
   rw[e,s];show(if(10+j==10+j)=bj then _ else _)=_;rw[gp,aph rfl]
  rw[t,<-a,apA (by rw[dq p_];omega)];exact .refl _
def Hn(xs a:ai D):Prop:=y6 xs=y6 a/\∀i(h:i<y6 xs)(b:i<y6 a),Rm xs[i] a[i]
def Hn.nil:Hn [] []:=⟨rfl,λi h=>api h zb⟩
def Hn.cons{x y:D}{xs a:ai D}(h:Rm x y)(hs:Hn xs a):Hn (x::xs) (y::a):=by
 refine⟨by simp[hs.1],λi c b=>?_⟩;cases i with
 |zero=>exact h
 |succ i=>exact hs.2 i (by simpa using c) (by simpa using b)
def Hn.app{xs c g a:ai D}(h:Hn xs c)(d:Hn g a):Hn (xs++g) (c++a):=by
 refine⟨by simp[h.1,d.1],λi n p=>?_⟩
 by_cases b:i<y6 xs
 ·rw[aqW b,aqW (by rw[<-h.1];exact b)];exact h.2 i b (by rw[<-h.1];exact b)
 ·rw[aqR za,aqR (by rw[<-h.1];omega)]
  have e:i-y6 c=i-y6 xs:=by rw[h.1]
  have j:i-y6 xs<y6 g:=by simp at n;omega
  have:=d.2 (i-y6 xs) j (by rw[<-d.1];exact j)
  simp only[e];exact this
def ae6(z:aa G)(ck:Spec zZq G 37 [lM l] (.lit .nilIface))(K:Qk k)(E:nV k=1)(y:l.bs.length=m+1)(O:m+1<=6)(d:l.js.length<=1000)(L:l.ds.length<=1000)(J:∀b∈l.bs,b.aC.length<=1000000)(I:∀b∈l.bs,∀x∈b.aC,Qk x.x/\Qk x.y):
  Spec zZq G 14 [lM l,F k] (.aP [lM (d_ k l),.lit .nilIface]):=by
 have M:Tryz.f14.body=a6 (.seq (kL (aN f14)) (.seq (kL (kR (aN f14))) (.seq (kL (kR (kR (aN f14)))) (.seq (kL (kR (kR (kR (aN f14))))) (.seq (.seq (kL (kL (kR (kR (kR (kR (aN f14))))))) (.block 0 (.loop (ae f14 0)))) (kR (kR (kR (kR (kR (aN f14))))))))))):=zk
 have q:=Wt z ck K E y O d L J I;generalize c:ba (Kw .nilIface l) (m+1)=c9 at q;generalize h:(8,j6 l.bs (m+1))::gA (fS k l.bs (m+1)) (m+1)=rest at q;have w:∀b,oK rest b=if b=8 then a6 (j6 l.bs (m+1))else oK (gA (fS k l.bs (m+1)) (m+1)) b:=λb=>by rw[<-h,eM]
 have v:∀p∈rest,p.1=8\/10<=p.1/\p.1<16:=λp n=>by
  rw[<-h]at n;obtain rfl|n:=apo.1 n
  ·exact .inl rfl
  ·obtain⟨j,d,e,-⟩:=nY n
   omega
 have Q:(lay 66 [(4,.ptr 9 0),(5,.lit .nilIface)] ((9,c9)::rest) [8,9]).fs=(St.mk (lay 66 [(4,.ptr 9 0),(5,.lit .nilIface)] [] []).tmps (mH rest (a6 c9)) [8,9]).fs:=by
  have s:(lay 66 [(4,.ptr 9 0),(5,.lit .nilIface)] ((9,c9)::rest) [8,9]).fs.blk=λb=>(mH rest (a6 c9)).getD b bk:=by
   funext b
   rw[fU];exact Mw v _ b
  show as0.mk _ (lay 66 [(4,.ptr 9 0),(5,.lit .nilIface)] ((9,c9)::rest) [8,9]).fs.blk _=_;rw[s];rfl
 have sp:=Spec.Sv z func14 M (by show 2<=66;omega) (q.amQ rfl Q) (.inr rfl) (ds:=[.agg c9,.lit .nilIface]) (by rw[<-c];kernel_rfl)
 refine sp.lo ?_;have rc:=λj (d:j<m+1) C=>aff (l:=l) (N:=m+1) (f:=fS k l.bs (m+1)) w (c9:=c9) v d C (by unfold fS;rw[aph d,apq])
 have lo:∀i≤m+1,Hn ((j6 l.bs i).map (D.lN (λb=>(mH rest (a6 c9)).getD b bk) (λb=>([8,9]:ai aw).contains b) 3)) (((l.bs.map (Gs k)).take i).flatMap A4):=λi=>by
  induction i with
  |zero=>exact λ_=>Hn.nil
  |succ i H=>
   intro W;have t:i<l.bs.length:=za
   have s:(l.bs.map (Gs k)).take (i+1)=(l.bs.map (Gs k)).take i++[Gs k (l.bs.getD i bc)]:=by
    rw[aq6,aqz,apj t,apf,apj t];rfl
   rw[j6,aqp,s,aqI];refine(H za).app ?_
   have r:=rc i za 2
   have S:fS k l.bs (m+1) i=(Gs k (l.bs.getD i bc)).aC:=by unfold fS;rw[aph za];rfl
   rw[S]at r;exact Hn.cons (.refl _) (Hn.cons r Hn.nil)
 have a:=lo (m+1) (apc _);rw[apA (by rw[apq];omega)]at a
 have R:(mH rest (a6 c9)).getD 8 bk=a6 (j6 l.bs (m+1)):=(w 8).trans (aph rfl);have V:D.lN (λb=>(mH rest (a6 c9)).getD b bk) (λb=>([8,9]:ai aw).contains b) 4 (.bG 8 (m+1) 2)=.row (m+1) aj ((j6 l.bs (m+1)).map (D.lN (λb=>(mH rest (a6 c9)).getD b bk) (λb=>([8,9]:ai aw).contains b) 3)):=by
  show(match(mH rest (a6 c9)).getD 8 bk with
   |some cs=>D.dD 8 (cs.map (D.lN (λb=>(mH rest (a6 c9)).getD b bk) (λb=>([8,9]:ai aw).contains b) 3)) (.bG 8 (m+1) 2)
   |none=>.any)=_
  rw[R];show D.row (m+1) aj (List.take ((m+1)*2) _)=_;rw[apA (by rw[apq,N7];omega)]
 have U:Rm (D.lN (λb=>(mH rest (a6 c9)).getD b bk) (λb=>([8,9]:ai aw).contains b) 4 (.bG 8 (m+1) 2)) (aQ A4 (l.bs.map (Gs k))):=by
  rw[V];have e:m+1=(l.bs.map (Gs k)).length:=by rw[apq,y]
  show Rm (.row (m+1) aj _) (.row (l.bs.map (Gs k)).length aj _);rw[<-e];exact .row _ _ _ _ a.1 a.2
 have B:Hn [D.lN (λb=>(mH rest (a6 c9)).getD b bk) (λb=>([8,9]:ai aw).contains b) 4 (.lit (.string l.nm)),D.lN (λb=>(mH rest (a6 c9)).getD b bk) (λb=>([8,9]:ai aw).contains b) 4 (.bG 8 (m+1) 2),D.lN (λb=>(mH rest (a6 c9)).getD b bk) (λb=>([8,9]:ai aw).contains b) 4 (aQ Hh l.js),D.lN (λb=>(mH rest (a6 c9)).getD b bk) (λb=>([8,9]:ai aw).contains b) 4 (aQ Ky l.ds)] (yJ (d_ k l)):=
  Hn.cons (.refl _) (Hn.cons U (Hn.cons (.refl _) (Hn.cons (.refl _) Hn.nil)))
 have T:Rm (D.agg (c9.map (D.lN (λb=>(mH rest (a6 c9)).getD b bk) (λb=>([8,9]:ai aw).contains b) 4))) (lM (d_ k l)):=.agg _ _ (by rw[<-B.1,<-c];rfl) (by
  have:c9.map (D.lN (λb=>(mH rest (a6 c9)).getD b bk) (λb=>([8,9]:ai aw).contains b) 4)=[D.lN (λb=>(mH rest (a6 c9)).getD b bk) (λb=>([8,9]:ai aw).contains b) 4 (.lit (.string l.nm)),D.lN (λb=>(mH rest (a6 c9)).getD b bk) (λb=>([8,9]:ai aw).contains b) 4 (.bG 8 (m+1) 2),D.lN (λb=>(mH rest (a6 c9)).getD b bk) (λb=>([8,9]:ai aw).contains b) 4 (aQ Hh l.js),D.lN (λb=>(mH rest (a6 c9)).getD b bk) (λb=>([8,9]:ai aw).contains b) 4 (aQ Ky l.ds)]:=by
   generalize(D.lN (λb=>(mH rest (a6 c9)).getD b bk) (λb=>([8,9]:ai aw).contains b) 4)=g
   rw[<-c];rfl
  rw[this];exact B.2)
 have A:Hn [D.agg (c9.map (D.lN (λb=>(mH rest (a6 c9)).getD b bk) (λb=>([8,9]:ai aw).contains b) 4)),.lit .nilIface] [lM (d_ k l),.lit .nilIface]:=Hn.cons T (Hn.cons (.refl _) Hn.nil)
 exact Rm.aP _ _ A.1 A.2
end
open fb
variable {G:bn->Prop}
variable (a:aa G)
def RO(y:xf G 7 [] (bool bj)){l:pB}{xs:ai zZ}{d:Raw}(ok:l.Ok)(z:∀x∈xs,x.Ok)(p:∀o∈l.bs,∀b∈o.aC,w9 b.x/\w9 b.y)(rx:∀x∈xs,w9 x.t)(u:d.ok b)(t:b<=KB)(v:w9 d):
  xf G 4 [Co l,aQ oU xs,d.Cd] (bool bj):=
 ZS a y ok z p rx u t v λS D q E r=>by
  have n:64<=NB:=by
   unfold NB;decide+kernel
  have m:=D.S;have C:=m.ok.b0;have B:=m.b6;have A:=m.j8;have d2:=m.d2;refine ae6 (m:=(jA l).bs.length-1) a D.ck (q.qk za) r za za za za (λb f=>?_) (λb f x s=>?_)
  ·obtain⟨c,w,rfl⟩:=apN.1 f
   have:=(wi S.ck c w).1;show y6 (c.aC.map HA)<=_;rw[apq];omega
  ·obtain⟨i,k,rfl⟩:=aqU f
   obtain⟨j,g,rfl⟩:=aqU s;have e:(jA l).bs.getD i bc=(jA l).bs[i]:=by rw[apf,apj k];rfl
   have h:=m.sz i j ⟨k,by rw[e];exact g⟩
   unfold dQ at h;rw[e,apf,apj g]at h;exact⟨h.x.qk n,h.y.qk n⟩
end Tw
namespace Fb
open Gr Tw
variable {G:bn->Prop}
def roW:c7->ai aw:=λf=>if f=148 then [999]else if f=190 then [999]else if f=174 then [18,22]else if f=82 then [11]else if f=207 then [1009]else if f=315 then [1003,30]else if f=195 then [1003,27]else if f=201 then [34,1015010]else if f=191 then [999]else if f=247 then [999]else if f=301 then [999]else if f=85 then [3,4,5]else if f=153 then [997]else if f=146 then [997]else if f=34 then [999,41]else if f=35 then [999,2013010]else if f=39 then [3,4,5]else []
def nl:D:=yI 0 aj []
def aa4:D:=yI 1 aj [bool aj,ak [1],ak [1]]
def xt:D:=y4 [bool aj,ak [1],ak [1],bool aj]
def a0:D:=y4 [nl,yI 4 aj [aa4,nl,nl,nl,nl,nl,nl,nl,nl,nl,nl,nl,nl,nl,nl,nl],nl]
def x0:D:=y4 [bool aj,nl,nl,bool aj]
def a1:D:=y4 [nl,yI 4 aj [aa4,nl,nl,nl,nl,aa4,nl,nl,nl,nl,nl,nl,nl,nl,nl,nl],yI 1 aj [nat 1]]
def tw0:D:=y4 [nl]
def num(n:aw):D:=yI 1 aj [bool aj,ak [n],ak [1]]
def ca:D:=y4 [nl,aa4,num 9]
def cb:D:=y4 [num 4,nl,num 9]
def ahQ:D:=.aP [y4 [yI 1 aj [yI 1 aj [bool aj,xp 323,xp 1]],yI 2 aj [yI 2 aj [bool aj,xp 2,xp 1,bool aj,xp 1,xp 34],yI 2 aj [bool aj,xp 1,xp 2,bool aj,xp 2,xp 17],yI 2 aj [bool aj,xp 2,xp 1,bool bj,xp 1,xp 34],yI 2 aj [bool aj,xp 1,xp 2,bool bj,xp 2,xp 17]]],xc]
def anX:D:=match ahQ with|.aP (m::_)=>m|_=>.any
def q0L:ai D:=[bool aj,nl,nl]
def qL(n:aw):ai D:=[bool aj,ak [n],ak [1]]
def amH:ai D:=q0L++q0L++[nl,aa4]++qL 3++q0L
def amG:ai D:=q0L++q0L++[num 4,nl]++qL 3++q0L
def UB:D:=.aP [yI 2 aj [yI 1 aj [yI 1 aj [bool aj,xp 323,xp 1]],yI 2 aj [yI 2 aj [bool aj,xp 2,xp 3,bool aj,xp 1,xp 102],yI 2 aj [bool bj,xp 1,xp 6,bool aj,xp 2,xp 51],yI 0 aj [],yI 1 aj [bool aj,xp 1,xp 1],yI 2 aj [bool bj,xp 2,xp 3,bool aj,xp 1,xp 102],yI 2 aj [bool aj,xp 1,xp 6,bool aj,xp 2,xp 51],yI 1 aj [bool aj,xp 4,xp 1],yI 0 aj []],nat 1,yI 1 aj [yI 1 aj [bool aj,xp 323,xp 1]],yI 2 aj [yI 2 aj [bool aj,xp 2,xp 3,bool bj,xp 1,xp 102],yI 2 aj [bool bj,xp 1,xp 6,bool bj,xp 2,xp 51],yI 0 aj [],yI 1 aj [bool aj,xp 1,xp 1],yI 2 aj [bool bj,xp 2,xp 3,bool bj,xp 1,xp 102],yI 2 aj [bool aj,xp 1,xp 6,bool bj,xp 2,xp 51],yI 1 aj [bool aj,xp 4,xp 1],yI 0 aj []],int (-1)],xc]
def eB(a:aa G):ai (Ent zZq G):=[⟨_,_,_,ZH a⟩,⟨_,_,_,QP a⟩]
variable (a:aa G)
def Yd:xf G 199 [tw0,ca,cb] ahQ:=
 Spec.ke a (oV a (eB a) [] roW) func199 (ro:=roW 199) (m:=60) []
def Pc:xf G 201 [anX,yI 2 aj (amH++amG)] UB:=
 Spec.ke a (oV a (eB a) [] roW) func201 (ro:=roW 201) (m:=60) []
def opC:ai D:=(match lk with|y4 l=>l|_=>[])++g1c++(match a1 with|y4 l=>l|_=>[])++[xc]
def opR:D:=.aP [y0 10 0,xc]
def opB:ai (bF (ai D)):=cd 10 bk++[a6 opC]
def aa1:kh zZq G f148 0 [lk,nat 1,a1,bool aj] [] [] opR opB []:=
 kh.abb a (oV a (eB a) [] roW) (roW 148) 100 zk
def Wk(a:aa G):xf G 83 [lk,nat 1,x0,a1] UB:=
 Spec.ke a (oV a (⟨_,_,_,Pc a⟩::⟨_,_,_,Yd a⟩::eB a) [] roW (λ_=>aj) [YO.of func148 (aa1 a)]) func83 (ro:=[]) (m:=100) []
def anA:D:=.aP [yI 1 aj [yI 0 aj [],yI 1 aj [yI 0 aj [],yI 1 aj [bool aj,xp 1,xp 1],yI 0 aj [],yI 0 aj []],nat 1],xc]
def xs1:D:=yI 1 aj [bool aj,ak [1],ak [1],bool aj]
def a2b:D:=y4 [yI 1 aj [yI 1 aj [bool aj,xp 323,xp 1]],yI 4 aj [yI 1 aj [bool aj,xp 1,xp 1],yI 0 aj [],yI 0 aj [],yI 0 aj [],yI 0 aj [],yI 1 aj [bool aj,xp 1,xp 1],yI 0 aj [],yI 0 aj [],yI 2 aj [bool aj,xp 2,xp 3,bool bj,xp 1,xp 102],yI 2 aj [bool bj,xp 1,xp 6,bool bj,xp 2,xp 51],yI 0 aj [],yI 1 aj [bool aj,xp 1,xp 1],yI 2 aj [bool bj,xp 2,xp 3,bool bj,xp 1,xp 102],yI 2 aj [bool aj,xp 1,xp 6,bool bj,xp 2,xp 51],yI 1 aj [bool aj,xp 4,xp 1],yI 0 aj []],yI 2 aj [nat 1,int (-1)]]
def roV:c7->ai aw:=λf=>if f=195 then []else roW f
def Wl:xf G 83 [lk,nat 0,xt,a0] anA:=
 Spec.ke a (oV a (eB a) [] roV) func83 (ro:=[]) (m:=100) []
def ani:D:=.aP [bool bj,y4 [nat 0,nat 0],xc]
def Zo:xf G 11 [lk,xs1,a2b] ani:=
 Spec.ke a (oV a (eB a) [] roW) func11 (ro:=[]) (m:=100) []
def ao6:D:=.aP [yI 2 aj [yI 1 aj [yI 1 aj [bool aj,xp 323,xp 1]],yI 4 aj [yI 1 aj [bool aj,xp 1,xp 1],yI 0 aj [],yI 0 aj [],yI 0 aj [],yI 0 aj [],yI 1 aj [bool aj,xp 1,xp 1],yI 0 aj [],yI 0 aj [],yI 2 aj [bool aj,xp 2,xp 3,bool aj,xp 1,xp 102],yI 2 aj [bool bj,xp 1,xp 6,bool aj,xp 2,xp 51],yI 0 aj [],yI 1 aj [bool aj,xp 1,xp 1],yI 2 aj [bool bj,xp 2,xp 3,bool aj,xp 1,xp 102],yI 2 aj [bool aj,xp 1,xp 6,bool aj,xp 2,xp 51],yI 1 aj [bool aj,xp 4,xp 1],yI 0 aj []],yI 2 aj [nat 1,nat 1],yI 1 aj [yI 1 aj [bool aj,xp 323,xp 1]],yI 4 aj [yI 1 aj [bool aj,xp 1,xp 1],yI 0 aj [],yI 0 aj [],yI 0 aj [],yI 0 aj [],yI 1 aj [bool aj,xp 1,xp 1],yI 0 aj [],yI 0 aj [],yI 2 aj [bool aj,xp 2,xp 3,bool bj,xp 1,xp 102],yI 2 aj [bool bj,xp 1,xp 6,bool bj,xp 2,xp 51],yI 0 aj [],yI 1 aj [bool aj,xp 1,xp 1],yI 2 aj [bool bj,xp 2,xp 3,bool bj,xp 1,xp 102],yI 2 aj [bool aj,xp 1,xp 6,bool bj,xp 2,xp 51],yI 1 aj [bool aj,xp 4,xp 1],yI 0 aj []],yI 2 aj [nat 1,int (-1)]],xc]
def adS(a:aa G):xf G 9 [lk,xs1] ao6:=
 Spec.ke a (oV a (⟨_,_,_,DV a⟩::⟨_,_,_,Wl a⟩::⟨_,_,_,Wk a⟩::eB a) [] roW) func9 (ro:=[]) (m:=150) []
def N_(a:aa G):xf G 7 [] (bool bj):=
 Spec.ke a (oV a [⟨_,_,_,Xe a⟩,⟨_,_,_,adS a⟩,⟨_,_,_,Zo a⟩] [] roW) func7 (ro:=[]) (m:=60) []
end Fb
end Lw
