/- Part 6. -/
import Derived.Test.YtmcpfihkambgnaaGreatLw05
set_option maxHeartbeats 2000000
set_option linter.all false
open Option renaming some->a6,none->bk,map_some->dm,getD_some->uS
open _root_ renaming List->ai,Nat->aw,Bool->b5,Option->bF,beq_eq_false_iff_ne->c4,Int->cA,ByteArray->cB,Rat->cl,decide_eq_true_eq->cm,if_true->gn,if_false->jv,Inhabited->ka,Decidable->vp
open Bool renaming false->aj,true->bj,false_eq_true->cy,and_eq_true->dT
open Go renaming Value->b3,World->bn,FuncId->c7,Program->cp,Func->kf
open List renaming mem_cons->b4,not_mem_nil->bI,getD_eq_getElem?_getD->bP,replicate->cd,range->ch,mem_singleton->dc,map_cons->eZ,length_cons->ey,map_nil->fB,length_nil->fl,nil_append->lp,getElem?_cons_succ->nr,mem_append->p5,cons_append->pa,append_assoc->ra,map_map->sj,length->yD,getD->yI
open Inhabited renaming default->bc
open Option.some renaming injEq->eE
open List.cons renaming injEq->en
open Prod.mk renaming injEq->gu
open Go.World renaming cell?_of_block->ma
open Lw.Item renaming call->zC,prop->zD
open Lw.D renaming row->zK,lit->zT,ptr->z0,agg->z4
open Or renaming inl->z1,inr->z2
open Lw.iw renaming normal->z3,exit->yu
open Go.Proofs.Tryz renaming prog->zZq
open Go.Proofs.Tryz
open Int renaming ofNat->zNq
open Option renaming some.injEq->zIq
open Prod renaming mk.injEq->zJq
namespace Lw
namespace Tw
open Go Go.RowKit Go.Proofs
open fb
variable {P:cp} {Good:bn->Prop} {G:bn->Prop}
def ixB(m:ai b5)(i:aw):St:=lay 19 [(0,gS m),(1,bool aj),(7,nat (yD m)),(8,nat i)] []
variable (a:aa G) {d:Lk} {p:Fn}
def SX(m:ai b5)(k:yD m<=1000000):Spec zZq G 173 [gS m,bool aj] (int (EU (λz=>!z) m)):=by
 have rd:∀i,i<m.findIdx (λz=>!z)->af zZq G 0 (ae f173 0) (ixB m i) z3 (ixB m (i+1)):=λi j=>by
  obtain⟨b,f⟩:=qX aj j;have e:=jd b;have d:yI m i aj=bj:=by simpa using f
  rw[d]at e;exact af.r a [.eb 9 (ah b),zD (gN b),zD (gO b),.eq 15 e,.eq 18 (bL (cI b za))]
 unfold EU;split
 ·rename_i h
  have f:=lS (p:=λz=>!z) aj h
  have e:=jd h;have d:yI m (m.findIdx λz=>!z) aj=aj:=by simpa using f
  rw[d]at e;have c:=aI.z zZq G (ae f173 0) .ret (lay 19 [(4,nat (m.findIdx λz=>!z))] []) (λi=>ixB m i) _ rd
   (af.r a [.eb 9 (ah h),zD (gN h),zD (gO h),.eq 15 e])
  exact Spec.r a func173 [] [.code c]
 ·rename_i h
  have g:m.findIdx (λz=>!z)=yD m:=arp aqu za
  rw[g]at rd;have c:=aI.z zZq G (ae f173 0) (yu 0) (lay 19 [] []) (λi=>ixB m i) _ rd
   (af.r a [.eb 9 (c9 (apc (yD m)))])
  exact Spec.r a func173 [] [.code c]
def Bj(m:ai b5)(b:yD m<=1000000):Spec zZq G 114 [gS m,bool aj] (bool (m.contains aj)):=by
 have c:=SX a m b;have key:m.contains aj=decide (m.findIdx (λz=>!z)<yD m):=by rw[aqf,cm,List.findIdx_lt_length];simp
 unfold EU at c;rw[key];by_cases h:m.findIdx (λz=>!z)<yD m;rw[aph h]at c;rw[apE h];exact Spec.y a (az [173]) func114 [] [zC c,.eb 8 (mP (m.findIdx λz=>!z))];rw[ape h]at c;rw[apG h];exact Spec.y a (az [173]) func114 [] [zC c]
def aeR(t:Fn):bF (ai Gp):=if t.known.contains aj=bj\/t.used.contains aj=bj then bk else a6 t.gs
def alc:bF (ai Gp)->D
 |none=>.aP [zK 0 aj [],lY 7]
 |some gs=>.aP [aQ kg gs,zT .nilIface]
def Uj(f:g7 d)(ck:Spec zZq G 37 [lM d] (zT .nilIface))(i:vR d (vU d) p)(l:qt d p):Spec zZq G 47 [lM d] (alc (aeR p)):=by
 have c:=akb a f ck i l;have m:=f.nb;have k:=f.nj;have b:=Bj a p.known (by rw[l.k];omega);have e:=Bj a p.used (by rw[l.u];omega);unfold aeR;cases h:p.known.contains aj with
 |true=>
  rw[h]at b;rw[aph (z1 rfl)];exact Spec.y a (az [113,114]) func47 [] [zC c,zC b]
 |false=>
  rw[h]at b;cases g:p.used.contains aj with
  |true=>
   rw[g]at e;rw[aph (z2 rfl)];exact Spec.y a (az [113,114]) func47 [] [zC c,zC b,zC e]
  |false=>
   rw[g]at e;rw[ape zb];clear h g i l;obtain⟨n,o,j,gs⟩:=p;cases gs<;>exact Spec.y a (az [113,114]) func47 [] [zC c,zC b,zC e]
variable {B:ai aw} {Y:b5} {b:ai Gp} {c e n:aw} {v:bF (ai uU)}
def wV{x:aw}(h:x=c):Spec zZq G 246 [nD [c],nat x] (bool bj):=
 Spec.y a (az []) func246 [] [.eb 16 (gI h)]
def zL{x:aw}(h:x≠c):Spec zZq G 246 [nD [c],nat x] (bool aj):=
 Spec.y a (az []) func246 [] [.eb 16 (fh h)]
def L1{x:aw}(h:x=c):Spec zZq G 246 [nD [c,e],nat x] (bool bj):=
 Spec.y a (az []) func246 [] [.eb 16 (gI h)]
def L0{x:aw}(h:x≠c)(b:x=e):Spec zZq G 246 [nD [c,e],nat x] (bool bj):=
 Spec.y a (az []) func246 [] [.eb 16 (fh h),.eb 16 (gI b)]
def QJ{x:aw}(h:x≠c)(b:x≠e):Spec zZq G 246 [nD [c,e],nat x] (bool aj):=
 Spec.y a (az []) func246 [] [.eb 16 (fh h),.eb 16 (fh b)]
def ale(x:aw):iy zZq G f191 [.bG 0 1 1] [nat x] (.aP []) [nat x]:=
 iy.bK a (az []) _ (ro:=[998]) (m:=60) []
def ahu(z:cA):Spec zZq G 333 [int z] (bool aj):=
 Spec.y a (az []) func333 [] [.eb 5 (show(z !=z)=aj by simp)]
def EP{x y:cA}(h:x<y):Spec zZq G 307 [int x,int y] (bool bj):=
 Spec.y a (az [333]) func307 [] [zC (ahu a x),.eb 15 (apE h)]
def abM{x y:cA}(h:¬x<y):Spec zZq G 307 [int x,int y] (bool aj):=
 Spec.y a (az [333]) func307 [] [zC (ahu a x),.eb 15 (apG h)]
def roS:c7->ai aw:=λf=>if f=301 then [996]else if f=247 then [996]else []
def ahb(a:aa G)(x y:aw):∃p q:aw,(p=x\/p=y)/\(q=x\/q=y)/\iy zZq G f191 [.bG 0 2 1] [nat x,nat y] (.aP []) [nat p,nat q]:=by by_cases h:zNq y<zNq x;exact⟨y,x,z2 rfl,z1 rfl,iy.bK a (az [307] roS) _ (ro:=[998]) (m:=60) [zC (EP a h)]⟩;exact⟨x,y,z1 rfl,z2 rfl,iy.bK a (az [307] roS) _ (ro:=[998]) (m:=60) [zC (abM a h)]⟩
def Nh(x:aw):(-1:cA)<zNq x:=zu
def ald(a:aa G)(x y:aw):∃p q:aw,(p=x\/p=y)/\(q=x\/q=y)/\iy zZq G f191 [.bG 0 3 1] [nat x,nat y,int (-1)] (.aP []) [int (-1),nat p,nat q]:=by by_cases h:zNq y<zNq x;exact⟨y,x,z2 rfl,z1 rfl,iy.bK a (az [307] roS) _ (ro:=[998]) (m:=60) [zC (EP a h),zC (EP a (Nh x)),zC (EP a (Nh y))]⟩;exact⟨x,y,z1 rfl,z2 rfl,iy.bK a (az [307] roS) _ (ro:=[998]) (m:=60) [zC (abM a h),zC (EP a (Nh y)),zC (EP a (Nh x))]⟩
def dK(g:Gp):(kg g).length=4:=rfl
instance:ka Gp:=⟨⟨0,[],[],0⟩⟩
def lU(h:c<n):decide (zNq c>=zNq n)=aj:=zu
def BY(h:c=n):(zNq c !=zNq n)=aj:=by rw[h];simp
def al8:decide ((-1:cA)<0)=bj:=zt
def afE:ai c7:=[47,50,37,246,191,51,149,150,151,152]
def roZ:c7->ai aw:=λf=>if f=148 then [997]else if f=190 then [997]else if f=191 then [996]else []
def J_:bF (ai uU)->D
 |none=>.aP [zK 0 aj [],lY 15]
 |some l=>.aP [zK (yD l) aj (l.flatMap adz),zT .nilIface]
structure Fx(G:bn->Prop)(l:Lk)(a:As)(gs:ai Gp)(k:aw)(g:Gp)(δ:aw):Prop where
 HP:Spec zZq G 47 [lM l] (.aP [aQ kg gs,zT .nilIface])
 ck:Spec zZq G 37 [lM l] (zT .nilIface)
 hk:k<gs.length
 hg:gs.getD k bc=g
 hT:dn δ a.t
 lb:a.bs.length=l.bs.length
 pl:∀i,akQ a.t (dt a i)
def Q2(h:c<yD d.js)(j:(yI d.js c bc).a=e/\(yI d.js c bc).b=n):D.agg (((d.js.flatMap Hh).drop ((zNq c).toNat*7)).take 7)=z4 [zT (.string (yI d.js c bc).nm),nat (yI d.js c bc).kind,nat e,nat (yI d.js c bc).p,nat n,nat (yI d.js c bc).on,nat (yI d.js c bc).to]:=by rw[<-j.1,<-j.2];exact fO bQ h bc
def JW(l:Lk)(j b o:aw):Prop:=((yI l.js j bc).a=b/\(yI l.js j bc).b=o)\/((yI l.js j bc).a=o/\(yI l.js j bc).b=b)
def ag1(G:bn->Prop)(bs:ai aw)(x:aw)(z:b5):Prop:=Spec zZq G 246 [nD bs,nat x] (bool z)
def PZ(h:JW d c e n)(o:ag1 G B e bj)(j:ag1 G B n Y):∃u v:aw,∃y w:b5,((yI d.js c bc).a=u/\(yI d.js c bc).b=v)/\ag1 G B u y/\ag1 G B v w/\((e=u/\n=v/\bj=y/\Y=w)\/(n=u/\e=v/\Y=y/\bj=w)):=by
 obtain h|h:=h
 exact⟨_,_,_,_,h,o,j,z1 ⟨rfl,rfl,rfl,rfl⟩⟩;exact⟨_,_,_,_,h,j,o,z2 ⟨rfl,rfl,rfl,rfl⟩⟩
def Wi(l:Lk)(r:As){d δ:aw}(w:Fx G l r b c ⟨0,[e],[n],d⟩ δ){o:aw}(j:n<yD l.js)(i:o<yD r.bs)(q:o≠e)(p:JW l n e o){x:Tn}
  (run:iy zZq G f149 [z0 0 0,J5 x] (kQ l ⟨0,[e],[n],d⟩ r) (OM v) (kQ l ⟨0,[e],[n],d⟩ r)):Spec zZq G 83 [lM l,nat c,J5 x,qx r] (J_ v):=by
 have k:=fO dK w.hk bc;rw[w.hg]at k;obtain⟨u,v0,t,s,f,h,g,q0⟩:=PZ p (wV a rfl) (zL a q);rcases q0 with⟨rfl,rfl,rfl,rfl⟩|⟨rfl,rfl,rfl,rfl⟩<;>cases v<;>exact Spec.bK a (az afE roZ) func83 (ro:=[]) (m:=150) [zC w.HP,.eb 30 (bT c),.eb 35 (lU w.hk),.eb 44 (BY w.lb),zC (vA a w.hT),.er 55 (nat c),zD (cE dK za w.hk),zD (aq dK za w.hk),.eq 57 k,zC w.ck,.eb 26 (bT n),.eb 32 (lU j),.er 37 (nat n),zD (cE bQ za j),zD (aq bQ za j),.eq 39 (Q2 j f),zC h,zC g,.a9 func191 (ale a o),.eb 81 (bT o),.er 84 (nat o),zD (cE fN za i),zD (aq fN za i),.eq 86 (fO fN i ⟨[],[],[],[]⟩),zC (gZ a w.hT (w.pl o).c),zC (gZ a w.hT (w.pl o).s),zC (gZ a w.hT (w.pl o).x),zC (gZ a w.hT (w.pl o).y),.er 115 (nat c),zD (cE dK za w.hk),zD (aq dK za w.hk),.eq 117 k,.a9 func149 run]
def aeU(l:Lk)(r:As){m d δ:aw}(w:Fx G l r b c ⟨2,[e],[n,m],d⟩ δ){o p:aw}(f:n<yD l.js)(j:m<yD l.js)(M:o<yD r.bs)(L:p<yD r.bs)(C:o≠e)(B:p≠e)(A:JW l n e o)(hw:JW l m e p){x:Tn}
  (run:iy zZq G f151 [z0 0 0] (kQ l ⟨2,[e],[n,m],d⟩ r) (OM v) (kQ l ⟨2,[e],[n,m],d⟩ r)):Spec zZq G 83 [lM l,nat c,J5 x,qx r] (J_ v):=by
 have t:=fO dK w.hk bc;rw[w.hg]at t;obtain⟨J,v0,H,E,h,k,i,q0⟩:=PZ A (wV a rfl) (zL a C);obtain⟨I,v1,F,D,g,k11,k12,z⟩:=PZ hw (wV a rfl) (zL a B);obtain⟨u,gs,hu,K,y⟩:=ahb a o p;have s:u<yD r.bs:=za
 have q:gs<yD r.bs:=za
 rcases q0 with⟨rfl,rfl,rfl,rfl⟩|⟨rfl,rfl,rfl,rfl⟩<;>rcases z with⟨rfl,rfl,rfl,rfl⟩|⟨rfl,rfl,rfl,rfl⟩<;>cases v<;>exact Spec.bK a (az afE roZ) func83 (ro:=[]) (m:=150) [zC w.HP,.eb 30 (bT c),.eb 35 (lU w.hk),.eb 44 (BY w.lb),zC (vA a w.hT),.er 55 (nat c),zD (cE dK za w.hk),zD (aq dK za w.hk),.eq 57 t,zC w.ck,.eb 26 (bT n),.eb 32 (lU f),.er 37 (nat n),zD (cE bQ za f),zD (aq bQ za f),.eq 39 (Q2 f h),zC k,zC i,.eb 26 (bT m),.eb 32 (lU j),.er 37 (nat m),zD (cE bQ za j),zD (aq bQ za j),.eq 39 (Q2 j g),zC k11,zC k12,.a9 func191 y,.eb 81 (bT u),.er 84 (nat u),zD (cE fN za s),zD (aq fN za s),.eq 86 (fO fN s ⟨[],[],[],[]⟩),zC (gZ a w.hT (w.pl u).c),zC (gZ a w.hT (w.pl u).s),zC (gZ a w.hT (w.pl u).x),zC (gZ a w.hT (w.pl u).y),.eb 81 (bT gs),.er 84 (nat gs),zD (cE fN za q),zD (aq fN za q),.eq 86 (fO fN q ⟨[],[],[],[]⟩),zC (gZ a w.hT (w.pl gs).c),zC (gZ a w.hT (w.pl gs).s),zC (gZ a w.hT (w.pl gs).x),zC (gZ a w.hT (w.pl gs).y),.er 115 (nat c),zD (cE dK za w.hk),zD (aq dK za w.hk),.eq 117 t,.a9 func151 run]
def aeT(l:Lk)(r:As){m d δ:aw}(w:Fx G l r b c ⟨3,[e],[n,m],d⟩ δ){o p:aw}(f:n<yD l.js)(j:m<yD l.js)(M:o<yD r.bs)(L:p<yD r.bs)(C:o≠e)(B:p≠e)(A:JW l n e o)(hw:JW l m e p){x:Tn}
  (run:iy zZq G f152 [z0 0 0] (kQ l ⟨3,[e],[n,m],d⟩ r) (OM v) (kQ l ⟨3,[e],[n,m],d⟩ r)):Spec zZq G 83 [lM l,nat c,J5 x,qx r] (J_ v):=by
 have t:=fO dK w.hk bc;rw[w.hg]at t;obtain⟨J,v0,H,E,h,k,i,q0⟩:=PZ A (wV a rfl) (zL a C);obtain⟨I,v1,F,D,g,k11,k12,z⟩:=PZ hw (wV a rfl) (zL a B);obtain⟨u,gs,hu,K,y⟩:=ahb a o p;have s:u<yD r.bs:=za
 have q:gs<yD r.bs:=za
 rcases q0 with⟨rfl,rfl,rfl,rfl⟩|⟨rfl,rfl,rfl,rfl⟩<;>rcases z with⟨rfl,rfl,rfl,rfl⟩|⟨rfl,rfl,rfl,rfl⟩<;>cases v<;>exact Spec.bK a (az afE roZ) func83 (ro:=[]) (m:=150) [zC w.HP,.eb 30 (bT c),.eb 35 (lU w.hk),.eb 44 (BY w.lb),zC (vA a w.hT),.er 55 (nat c),zD (cE dK za w.hk),zD (aq dK za w.hk),.eq 57 t,zC w.ck,.eb 26 (bT n),.eb 32 (lU f),.er 37 (nat n),zD (cE bQ za f),zD (aq bQ za f),.eq 39 (Q2 f h),zC k,zC i,.eb 26 (bT m),.eb 32 (lU j),.er 37 (nat m),zD (cE bQ za j),zD (aq bQ za j),.eq 39 (Q2 j g),zC k11,zC k12,.a9 func191 y,.eb 81 (bT u),.er 84 (nat u),zD (cE fN za s),zD (aq fN za s),.eq 86 (fO fN s ⟨[],[],[],[]⟩),zC (gZ a w.hT (w.pl u).c),zC (gZ a w.hT (w.pl u).s),zC (gZ a w.hT (w.pl u).x),zC (gZ a w.hT (w.pl u).y),.eb 81 (bT gs),.er 84 (nat gs),zD (cE fN za q),zD (aq fN za q),.eq 86 (fO fN q ⟨[],[],[],[]⟩),zC (gZ a w.hT (w.pl gs).c),zC (gZ a w.hT (w.pl gs).s),zC (gZ a w.hT (w.pl gs).x),zC (gZ a w.hT (w.pl gs).y),.er 115 (nat c),zD (cE dK za w.hk),zD (aq dK za w.hk),.eq 117 t,.a9 func152 run]
def aeV(f:aa G)(l:Lk)(a:As){gs:ai Gp}{k b c j m n d δ:aw}(w:Fx G l a gs k ⟨1,[b,c],[j,m,n],d⟩ δ){o p:aw}(i:j<l.js.length)(h:m<l.js.length)(g:n<l.js.length)(Z:o<a.bs.length)(Y:p<a.bs.length)(ob:o≠b)(K:o≠c)(J:p≠b)(I:p≠c)(D:b≠c)(N:JW l j b o)(M:JW l m c p)(L:JW l n b c){x:Tn}{r:bF (ai uU)}
  (run:iy zZq G f150 [.ptr 0 0] (kQ l ⟨1,[b,c],[j,m,n],d⟩ a) (OM r) (kQ l ⟨1,[b,c],[j,m,n],d⟩ a)):Spec zZq G 83 [lM l,nat k,J5 x,qx a] (J_ r):=by
 have C:=fO dK w.hk bc;rw[w.hg]at C;obtain⟨W,v0,T,Q,t,z,y,q0⟩:=PZ N (L1 f rfl) (QJ f ob K);obtain⟨V,v1,S,P,s,k11,k12,H⟩:=PZ M (L0 f (λe=>D e.symm) rfl) (QJ f J I)
 obtain⟨U,v2,R,O,q,k21,k22,F⟩:=PZ L (L1 f rfl) (L0 f (λe=>D e.symm) rfl)
 obtain⟨u,v,hu,X,E⟩:=ald f o p;have B:u<a.bs.length:=za
 have A:v<a.bs.length:=za
 rcases q0 with⟨rfl,rfl,rfl,rfl⟩|⟨rfl,rfl,rfl,rfl⟩<;>rcases H with⟨rfl,rfl,rfl,rfl⟩|⟨rfl,rfl,rfl,rfl⟩<;>rcases F with⟨rfl,rfl,rfl,rfl⟩|⟨rfl,rfl,rfl,rfl⟩<;>cases r<;>exact Spec.bK f (az afE roZ) func83 (ro:=[]) (m:=150) [.call w.HP,.eb 30 (bT k),.eb 35 (lU w.hk),.eb 44 (BY w.lb),.call (vA f w.hT),.er 55 (nat k),.prop (cE dK za w.hk),.prop (aq dK za w.hk),.eq 57 C,.call w.ck,.eb 26 (bT j),.eb 32 (lU i),.er 37 (nat j),.prop (cE bQ za i),.prop (aq bQ za i),.eq 39 (Q2 i t),.call z,.call y,.eb 26 (bT m),.eb 32 (lU h),.er 37 (nat m),.prop (cE bQ za h),.prop (aq bQ za h),.eq 39 (Q2 h s),.call k11,.call k12,.eb 26 (bT n),.eb 32 (lU g),.er 37 (nat n),.prop (cE bQ za g),.prop (aq bQ za g),.eq 39 (Q2 g q),.call k21,.call k22,.a9 func191 E,.eb 81 al8,.eb 81 (bT u),.er 84 (nat u),.prop (cE fN za B),.prop (aq fN za B),.eq 86 (fO fN B ⟨[],[],[],[]⟩),.call (gZ f w.hT (w.pl u).c),.call (gZ f w.hT (w.pl u).s),.call (gZ f w.hT (w.pl u).x),.call (gZ f w.hT (w.pl u).y),.eb 81 (bT v),.er 84 (nat v),.prop (cE fN za A),.prop (aq fN za A),.eq 86 (fO fN A ⟨[],[],[],[]⟩),.call (gZ f w.hT (w.pl v).c),.call (gZ f w.hT (w.pl v).s),.call (gZ f w.hT (w.pl v).x),.call (gZ f w.hT (w.pl v).y),.er 115 (nat k),.prop (cE dK za w.hk),.prop (aq dK za w.hk),.eq 117 C,.a9 func150 run]
open fb zY
variable {t T:aM} {δ η:aw}
variable {g:Pl} {h:Type}
def Zn[dH h](ι:pD cl h)(s:aw->h){t:aM}(c:eJ (yD t) t)(i:Model ι s t (yD t))(K:Sh (yD t) g.c)(b:Sh (yD t) g.s)(j:Sh (yD t) g.x)(x y:cl):vl ι s t (J4 t g x y).1=vl ι s t g.c*ι.φ x-vl ι s t g.s*ι.φ y+vl ι s t g.x:=by
 have f:=Sh.mul c K (Sh.l7 (yD t) x);have d:=Sh.mul c b (Sh.l7 (yD t) y);have e:(J4 t g x y).1=oX (g8 (mulL t g.c (iq x)) (mulL t g.s (iq y))) g.x:=by simp only[J4,A5,u5,yC]
 rw[e];rw[qD ι s (f.sub d) j,dU ι s f d,cZ ι s c i K (Sh.l7 _ _),cZ ι s c i b (Sh.l7 _ _),gV,gV]
def Zm[dH h](ι:pD cl h)(s:aw->h){t:aM}(c:eJ (yD t) t)(i:Model ι s t (yD t))(K:Sh (yD t) g.c)(b:Sh (yD t) g.s)(j:Sh (yD t) g.y)(x y:cl):vl ι s t (J4 t g x y).2=vl ι s t g.s*ι.φ x+vl ι s t g.c*ι.φ y+vl ι s t g.y:=by
 have f:=Sh.mul c b (Sh.l7 (yD t) x);have d:=Sh.mul c K (Sh.l7 (yD t) y);have e:(J4 t g x y).2=oX (oX (mulL t g.s (iq x)) (mulL t g.c (iq y))) g.y:=by simp only[J4,A5,u5,yC]
 rw[e];rw[qD ι s (f.add d) j,qD ι s f d,cZ ι s c i b (Sh.l7 _ _),cZ ι s c i K (Sh.l7 _ _),gV,gV]
set_option synthInstance.maxSize 100000 in
set_option synthInstance.maxHeartbeats 2000000 in
def afg[dH h]{c s f d e b X Y:h}(K:c*c+s*s=1):(c*e-s*b+X-(c*f-s*d+X))*(c*e-s*b+X-(c*f-s*d+X))+(s*e+c*b+Y-(s*f+c*d+Y))*(s*e+c*b+Y-(s*f+c*d+Y))=(e-f)*(e-f)+(b-d)*(b-d):=
 rg1 [c,s,f,d,e,b,X,Y] ((e-f)*(e-f)+(b-d)*(b-d)) K
def LkB(r:aw)(l:Lk):Prop:=∀b k,tB l b k->V2.B r (n8 (dQ l b k))
def JO(t:aM)(b:Pl):Prop:=∀(K:Type)[dH K](ι:pD cl K)(s:aw->K),Model ι s t (yD t)->vl ι s t b.c*vl ι s t b.c+vl ι s t b.s*vl ι s t b.s=1
structure ig(r n δ k N D:aw)(rr:b5):Prop where
 pr:∃n1 nQ nX I nP nw nC,ahZ r n δ k N D n1 nQ nX I nP nw nC
 rp:∃n1 nd nX I nz nz0 nC nC0,ahY r n δ k N D n1 nd nX I nz nz0 nC nC0
 rrr:rr=bj->∃n1 nd nS nX nW I nG nF nH nP nw nC,ad1 r n δ k N D n1 nd nS nX nW I nG nF nH nP nw nC
def g7.at{l:Lk}(b:g7 l){j:aw}(h:j<yD l.js):(yI l.js j bc).a<yD l.bs/\(yI l.js j bc).b<yD l.bs/\tB l (yI l.js j bc).a (yI l.js j bc).p/\tB l (yI l.js j bc).b (yI l.js j bc).on/\
  ((yI l.js j bc).kind=1->tB l (yI l.js j bc).b (yI l.js j bc).to):=by
 have hm:=aA h (bc:Jt);exact⟨b.a _ hm,b.b _ hm,⟨b.a _ hm,b.p _ hm⟩,⟨b.b _ hm,b.on _ hm⟩,λc=>⟨b.b _ hm,b.to _ hm c⟩⟩
def mZ{j:Jt}{b o:aw}(h:ud j b=a6 o)(d:o≠b):(j.a=b/\j.b=o)\/(j.a=o/\j.b=b):=by unfold ud at h;split at h;rename_i c;cases h;exact z1 ⟨c.symm,rfl⟩;split at h;rename_i c;cases h;exact z2 ⟨rfl,c.symm⟩;cases h
section
variable {l:Lk} {a:As} {r:aw}
def BQ(d:j7 a.t)(c:LkB r l)(pl:∀i,z5 n a.t (dt a i)){b k:aw}(h:tB l b k):s7 (n+r+r+2) a.t (kS l a b k):=akE d.sh (pl b) (c b k h).x (c b k h).y
def C5(f:aa G)(e:dn δ a.t)(c:LkB r l)(pl:∀i,z5 n a.t (dt a i))(d:n+r+r+2<=MB){b k:aw}(h:tB l b k):Rd G l a b k:=agN f e (pl b) (c b k h).x (c b k h).y d
variable {j:Gp}
def Ij(g:aa G)(f:dn δ a.t)(w:g7 l)(d:LkB r l)(lb:yD a.bs=yD l.bs)(pl:∀i,z5 n a.t (dt a i))(u:n+r+r+2<=MB){k body o:aw}(x:k<yD j.js)(v:yI j.js k 0<yD l.js)(hw:((fc l j k).a=body/\(fc l j k).b=o)\/((fc l j k).a=o/\(fc l j k).b=body))(y:o≠body):
  iy zZq G f192 [z0 0 0,nat k,nat body] (kQ l j a) (.aP [(n8 (jX l j k body)).Cd,mg (il l j a k body)]) (kQ l j a)/\V2.B r (n8 (jX l j k body))/\s7 (n+r+r+2) a.t (il l j a k body):=by
 obtain⟨s,q,c,b,-⟩:=w.at v;have e:yI l.js (yI j.js k 0) bc=fc l j k:=rfl;rw[e]at s q c b;have m:=alO g l j a x v (body:=body) (λh=>⟨h▸c,b,by rw[lb];exact q,C5 g f d pl u b⟩) (λh=>by
  have p:(fc l j k).b=body:=(hw.resolve_left λe=>h e.1).2
  exact⟨p▸b,c,by rw[lb];exact s,C5 g f d pl u c⟩)
 refine⟨m,?_,?_⟩
 ·unfold jX
  split
  ·rename_i h;exact d _ _ (h▸c)
  ·rename_i h
   have p:(fc l j k).b=body:=(hw.resolve_left λe=>h e.1).2
   exact d _ _ (p▸b)
 ·unfold il
  split
  ·exact BQ f.b.ok d pl b
  ·exact BQ f.b.ok d pl c
def aaW(o:aa G)(k:g7 l)(d:LkB r l){body:aw}(p:2<yD j.js)(f:yI j.js 2 0<yD l.js)(hw:(fc l j 2).a=body\/(fc l j 2).b=body):
  iy zZq G f255 [z0 0 0,nat body] (kQ l j a) (n8 (jX l j 2 body)).Cd (kQ l j a)/\V2.B r (n8 (jX l j 2 body)):=by
 obtain⟨g,i,c,b,-⟩:=k.at f;have e:yI l.js (yI j.js 2 0) bc=fc l j 2:=rfl;rw[e]at g i c b;have m:=alQ o l j a p f (body:=body) (λh=>h▸c) (λh=>(hw.resolve_left h)▸b);refine⟨m,?_⟩;unfold jX;split;rename_i h;exact d _ _ (h▸c);rename_i h;exact d _ _ ((hw.resolve_left h)▸b)
def IM(g:dn δ a.t)(C:LkB r l)(pl:∀i,z5 n a.t (dt a i)){b p q:aw}(N:tB l b p)(M:tB l b q)(un:JO a.t (dt a b))(f:(dQ l b p).x≠(dQ l b q).x\/(dQ l b p).y≠(dQ l b q).y):aL a.t (lQ a.t (kS l a b p) (kS l a b q))=1:=by
 obtain⟨K,_,ι,s,d⟩:=g.b.ok.model (yD a.t) (apc _);have c:=g.b.ok.sh;have hu:=un K ι s d;have sp:=BQ g.b.ok C pl N;have sq:=BQ g.b.ok C pl M;have A:Sh (yD a.t) (dt a b).c:=gP.sh (pl b) _ zb
 have z:Sh (yD a.t) (dt a b).s:=gP.sh (pl b) _ zb
 have J:Sh (yD a.t) (dt a b).x:=gP.sh (pl b) _ zb
 have I:Sh (yD a.t) (dt a b).y:=gP.sh (pl b) _ zb
 have m:∀k,vl ι s a.t (kS l a b k).1=vl ι s a.t (dt a b).c*ι.φ (dQ l b k).x-vl ι s a.t (dt a b).s*ι.φ (dQ l b k).y+vl ι s a.t (dt a b).x:=λk=>by rw[kS];exact Zn ι s c d A z J _ _
 have j:∀k,vl ι s a.t (kS l a b k).2=vl ι s a.t (dt a b).s*ι.φ (dQ l b k).x+vl ι s a.t (dt a b).c*ι.φ (dQ l b k).y+vl ι s a.t (dt a b).y:=λk=>by rw[kS];exact Zm ι s c d A z I _ _
 have y:=sp.x.sh;have x:=sq.x.sh;have w:=sp.y.sh;have o:=sq.y.sh;have E:=m p;have D:=j p;have H:=m q;have F:=j q;clear m j sp sq;unfold lQ lV;generalize kS l a b p=P at*;generalize kS l a b q=Q at*;have v1:Sh (yD a.t) (fS Q P).1:=x.sub y;have v2:Sh (yD a.t) (fS Q P).2:=o.sub w;have U:vl ι s a.t (fS Q P).1=vl ι s a.t Q.1-vl ι s a.t P.1:=dU ι s x y;have S:vl ι s a.t (fS Q P).2=vl ι s a.t Q.2-vl ι s a.t P.2:=dU ι s o w;have e:vl ι s a.t (vP a.t (fS Q P) (fS Q P))=(ι.φ (dQ l b q).x-ι.φ (dQ l b p).x)*(ι.φ (dQ l b q).x-ι.φ (dQ l b p).x)+(ι.φ (dQ l b q).y-ι.φ (dQ l b p).y)*(ι.φ (dQ l b q).y-ι.φ (dQ l b p).y):=by
  unfold vP;rw[qD ι s (Sh.mul c v1 v1) (Sh.mul c v2 v2),cZ ι s c d v1 v1,cZ ι s c d v2 v2,U,S,E,D,H,F];exact afg hu
 have L:Sh (yD a.t) (vP a.t (fS Q P) (fS Q P)):=(Sh.mul c v1 v1).add (Sh.mul c v2 v2);rw[ku ι s c d L,e];refine dH.sG ?_;rcases dH.Sy (dH.rN (ι.φ (dQ l b q).x-ι.φ (dQ l b p).x)) (dH.rN (ι.φ (dQ l b q).y-ι.φ (dQ l b p).y))with h|h
 ·exact h
 ·exfalso
  obtain⟨R,O⟩:=FL h;have inj:∀{u v:cl},ι.φ u-ι.φ v=0->u=v:=λ{u v} B=>by
   rw[<-ι.sub]at B;have:nV (u-v)=0:=by rw[BG ι,B];exact dH.iU
   have:=(CL _).1 this
   grind
  obtain f|f:=f
  ·exact f (inj R).symm
  ·exact f (inj O).symm
end
variable {U X:V2} {j:Gp} {k:As}
def V2.RD(h:U.x≠X.x\/U.y≠X.y):(X.sub U).sq≠0:=by
 intro e;have a:(X.x-U.x)*(X.x-U.x)+(X.y-U.y)*(X.y-U.y)=0:=e;obtain⟨c,b⟩:=FL a;obtain h|h:=h
 exact h (by grind);exact h (by grind)
structure akJ(l:Lk)(s:Fn)(a:As)(n:aw):Prop where
 pl:∀i,z5 n a.t (dt a i)
 un:∀i,s.known.getD i aj=bj->JO a.t (dt a i)
def acp(c:aa G){gs:aw}(P:g7 d){r n N D:aw}(u:LkB r d)(w:Fx G d k b gs j δ)(hs:qt d p)(S6:tC d p j)(st:akJ d p k n)(h3:yD k.t<=3\/j.kind=0)(h4:yD k.t<=4)
  (W:n+r+r+2<=MB) (F:j.kind≠0->ig r n δ (yD k.t) N D Y) (hrr:j.kind=1->Y=bj) (Fd:j.kind=0->aeh r n δ (yD k.t) N/\δ<=D) {x:Tn} (hx:iC r x.t) (hh:x.half=bj->x.t=0):
  Spec zZq G 83 [lM d,nat gs,J5 x,qx k] (J_ (iX d k j x))/\∀ss,iX d k j x=a6 ss->∀z∈ss,Q7 N D k.t z:=by
 have v:=w.hT;have V:=w.lb;have B:∀{o s:aw},yI p.known o aj=bj->yI p.known s aj=aj->o≠s:=λh1 h2 e=>by rw[e,h2]at h1;cases h1
 have y:∀{o:aw},yI p.known o aj=bj->o<yD k.bs:=λ{o} h=>by
  rw[V,<-hs.k];obtain h'|h':=apy o (yD p.known)
  ·exact h'
  ·rw[apf,apL h']at h;cases h
 cases S6 with
 |sO g body o8 hd hb kb hp=>
  obtain⟨hpl,R,o,ho,M⟩:=hp;have iA:=B M kb;have mc:=mZ ho iA;obtain⟨Fd1,Fd2⟩:=Fd rfl;have f:=Ij (j:=⟨0,[body],[o8],g⟩) (k:=0) c v P u V st.pl W zb hpl mc iA
  obtain⟨q1,Z⟩:=XS d k (D:=D) c v h4 hx hh Fd1 Fd2 f.2.1 f.2.2 f.1;exact⟨Wi c d k w hpl (y M) iA mc q1,Z⟩
 |pair i l E m jc pC hj fi fj ha hb hc kc oc=>
  obtain⟨C,apk,o,ho,M⟩:=ha;obtain⟨Q,a,rr,hp,R⟩:=hb;have ui:=fQ fi;have uj:=fQ fj;have O:=B M ui;have oj:=B M uj;have pi:=B R ui;have pj:=B R uj;have ij:i≠l:=za
  have X:=mZ ho O;have S:=mZ hp pj;have J:=mZ oc (aqZ ij);have l3:yD k.t<=3:=h3.resolve_right zx
  obtain⟨n1,nd,nS,nX,nW,I,nG,nF,nH,nP,nw,nC,F⟩:=(F zx).rrr (hrr rfl)
  have e1:n+r+r+2=n1:=by have:=F.e1;omega
  have f:=Ij (j:=⟨1,[i,l],[E,m,jc],0⟩) (k:=0) c v P u V st.pl W zb C X O
  have p1:=Ij (j:=⟨1,[i,l],[E,m,jc],0⟩) (k:=1) c v P u V st.pl W zb Q S pj
  have o0:=aaW (a:=k) (j:=⟨1,[i,l],[E,m,jc],0⟩) (body:=i) c P u zb hc (by obtain J|J:=J;exact z1 J.1;exact z2 J.2)
  have o1:=aaW (a:=k) (j:=⟨1,[i,l],[E,m,jc],0⟩) (body:=l) c P u zb hc (by obtain J|J:=J;exact z2 J.2;exact z1 J.1)
  rw[e1]at f p1;have Y:=alz c d k f.1 p1.1 o0.1 o1.1;obtain⟨q1,Z⟩:=Ww d k c v l3 F ⟨f.2.1,o0.2,f.2.2⟩ ⟨p1.2.1,o1.2,p1.2.2⟩ Y;exact⟨aeV c d k w C Q hc (y M) (y R) O oj pi pj ij X S J q1,Z⟩
 |single i E m hi fi ha hb=>
  obtain⟨C,apk,o,ho,M⟩:=ha;obtain⟨Q,a,rr,hp,R⟩:=hb;have ui:=fQ fi;have O:=B M ui;have pi:=B R ui;have X:=mZ ho O;have S:=mZ hp pi;obtain⟨q1,Z,q3,U,L⟩:=P.at Q;have L:=L a;have jm:=aA Q (bc:Jt);have YZ:=P.ne _ jm a;have knd:(eO d i m)≠0:=by unfold eO;split<;>decide
  have l3:yD k.t<=3:=h3.resolve_right knd;have FF:=F knd;generalize q:yI d.js m bc=H at q1 Z q3 U L YZ S;by_cases hk:H.a=i
  ·have ek:eO d i m=2:=by unfold eO;rw[aph (by rw[q];exact hk)]
   rw[ek]at w⊢;clear F Fd h3;have hjb:H.b=rr:=(S.resolve_right λh=>pi (h.1.symm.trans hk)).2
   obtain⟨n1,nQ,nX,I,nP,nw,nC,F⟩:=FF.pr;have e1:n+r+r+2=n1:=by have:=F.e1;omega
   have f:=Ij (j:=⟨2,[i],[E,m],0⟩) (k:=0) c v P u V st.pl W zb C X O
   have m0:tB d i H.p:=hk▸q3;have pr:=anM d k c q Q f.1 m0 U L (by rw[V];exact Z) (C5 c v u st.pl W U) (C5 c v u st.pl W L)
   have un:JO k.t (dt k H.b):=by rw[hjb];exact st.un _ R
   have ll:=IM v u st.pl U L un YZ;have K:=BQ v.b.ok u st.pl U;have sz2:=BQ v.b.ok u st.pl L;rw[e1]at f K sz2;obtain⟨r1,r2⟩:=aaw d k c v l3 F (r:=Ku d k (i:=i) ⟨2,[i],[E,m],0⟩ H) ⟨f.2.1,u _ _ m0,f.2.2⟩ K sz2 ll pr;have eg:iX d k ⟨2,[i],[E,m],0⟩ x=MR k.t (Ku d k (i:=i) ⟨2,[i],[E,m],0⟩ H) (kS d k H.b H.on) (kS d k H.b H.to):=by rw[<-q];rfl
   rw[eg];exact⟨aeU c d k w C Q (y M) (y R) O pi X (by unfold JW;rw[q];exact S) r1,r2⟩
  ·have ek:eO d i m=3:=by unfold eO;rw[ape (by rw[q];exact hk)]
   rw[ek]at w⊢;clear F Fd h3;have hw:=S.resolve_left λh=>hk h.1
   obtain⟨n1,nd,nX,I,nz,nz0,nC,nC0,F⟩:=FF.rp;have e1:n+r+r+2=n1:=by have:=F.e1;omega
   have f:=Ij (j:=⟨3,[i],[E,m],0⟩) (k:=0) c v P u V st.pl W zb C X O
   rw[hw.2]at U L YZ;have K:=BQ v.b.ok u st.pl q3;rw[e1]at f K;obtain⟨r1,r2⟩:=Z8 d k c v l3 q Q F (x:=H0 d ⟨3,[i],[E,m],0⟩ k i H) ⟨f.2.1,u _ _ U,u _ _ L,rfl,f.2.2,K⟩ (V2.RD YZ) f.1 rfl rfl U L q3 (by rw[V];exact q1) (C5 c v u st.pl W q3)
   have eg:iX d k ⟨3,[i],[E,m],0⟩ x=MI k.t (H0 d ⟨3,[i],[E,m],0⟩ k i H):=by rw[<-q];rfl
   rw[eg];exact⟨aeT c d k w C Q (y M) (y R) O pi X (by unfold JW;rw[q];exact S) r1,r2⟩
def Q6(s:uU):D:=z4 (adz s)
def GpD(g:Gp):D:=z4 (kg g)
def As.BK(a:As)(b:aw)(p:Pl)(T:aM)(m:cA):As:=⟨T,a.bs.set b p,a.ms++[m]⟩
def As.xC(a:As)(b c:aw)(p q:Pl)(T:aM)(m:cA):As:=⟨T,(a.bs.set b p).set c q,a.ms++[m]⟩
def Ac{bs:ai Pl}{i:aw}{p:Pl}(h:i<bs.length):aE (bs.flatMap Hg) ((zNq i).toNat*4) (Hg p)=(bs.set i p).flatMap Hg:=by
 have e:(zNq i).toNat*4=i*4:=rfl;rw[e];clear e;induction bs generalizing i with
 |nil=>simp at h
 |cons b bs d=>
  cases i with
  |zero=>rfl
  |succ i=>
   have:=d (i:=i) (by simpa using h);rw[List.set_cons_succ,ap',ap',<-this];unfold aE;have a:(Hg b).length=4:=rfl;rw[show(i+1)*4=4+i*4 by omega,List.take_append,apA (by rw[a];omega),a,show 4+i*4-4=i*4 by omega,aqV,List.drop_append,List.drop_eq_nil_of_le (by rw[a];omega),aq0,a];have c:(Hg p).length=4:=rfl;rw[c,show 4+i*4+4-4=i*4+4 by omega]
def MS(bs:ai Pl):(bs.flatMap Hg).length=yD bs*4:=dq fN bs
variable {J:ai cA} {O:Pl} {u:cA} {w:aM} {z:ai Pl}
def MA(h:c<yD z):(zNq c).toNat*4+(Hg g).length<=(z.flatMap Hg).length:=by have e:(zNq c).toNat=c:=rfl;have a:(Hg g).length=4:=rfl;rw[MS,e,a];omega
def roB:c7->ai aw:=λf=>if f=153 then [997]else if f=146 then [997]else []
def ZI(h:c<yD z)(a:e<yD z):(zNq e).toNat*4+(Hg O).length<=(aE (z.flatMap Hg) ((zNq c).toNat*4) (Hg g)).length:=by rw[Ac h];exact MA (by rwa [apY])
def BX{l:ai h}(α:2<=yD l)(g:yD l<=6):(∃a b,l=[a,b])\/(∃a b c,l=[a,b,c])\/(∃a b c d,l=[a,b,c,d])\/(∃a b c d e,l=[a,b,c,d,e])\/∃a b c d e f,l=[a,b,c,d,e,f]:=by
 match l,α,g with
 |[a,b],_,_=>exact z1 ⟨a,b,rfl⟩
 |[a,b,c],_,_=>exact z2 (z1 ⟨a,b,c,rfl⟩)
 |[a,b,c,d],_,_=>exact z2 (z2 (z1 ⟨a,b,c,d,rfl⟩))
 |[a,b,c,d,e],_,_=>exact z2 (z2 (z2 (z1 ⟨a,b,c,d,e,rfl⟩)))
 |[a,b,c,d,e,f],_,_=>exact z2 (z2 (z2 (z2 ⟨a,b,c,d,e,f,rfl⟩)))
def abN{l:ai h}(α:yD l<=4):l=[]\/(∃a,l=[a])\/(∃a b,l=[a,b])\/(∃a b c,l=[a,b,c])\/∃a b c d,l=[a,b,c,d]:=by
 match l,α with
 |[],_=>exact z1 rfl
 |[a],_=>exact z2 (z1 ⟨a,rfl⟩)
 |[a,b],_=>exact z2 (z2 (z1 ⟨a,b,rfl⟩))
 |[a,b,c],_=>exact z2 (z2 (z2 (z1 ⟨a,b,c,rfl⟩)))
 |[a,b,c,d],_=>exact z2 (z2 (z2 (z2 ⟨a,b,c,d,rfl⟩)))
def As.aas{T:aM}(a:c<yD z):qx ((⟨w,z,J⟩:As).BK c g T u)=z4 [zK (yD T) aj (T.map au),zK (yD z) aj ((aE (z.flatMap Hg) ((zNq c).toNat*4) (Hg g)).take (yD z*4)),zK (yD J+1) aj (J.map int++[int u])]:=by
 rw[Ac a,apA (by rw[MS,apY];exact apc _)]
 simp[qx,Bm,As.BK,aQ,P']
def As.aar{T:aM}(a:e<yD z)(d:c<yD z):qx ((⟨w,z,J⟩:As).xC e c g O T u)=z4 [zK (yD T) aj (T.map au),zK (yD z) aj ((aE (aE (z.flatMap Hg) ((zNq e).toNat*4) (Hg g)) ((zNq c).toNat*4) (Hg O)).take (yD z*4)),zK (yD J+1) aj (J.map int++[int u])]:=by
 rw[Ac a,Ac (by rwa [apY]),apA (by rw[MS,apY,apY];exact apc _)]
 simp[qx,Bm,As.xC,aQ,P']
def Yt{T:aM}(s:2<=yD k.bs)(r:yD k.bs<=6)(i:yD k.ms<=4)(j:e<yD k.bs):
  Spec zZq G 85 [qx k,GpD ⟨c,[e],B,n⟩,Q6 ⟨T,[g],u⟩] (qx (k.BK e g T u)):=by
 obtain⟨t,y,ms⟩:=k;rw[As.aas j];have o:=bR j;have v:=MA (g:=g) j;obtain rfl|i:=abN i
 ·rcases BX s r with⟨b,d,rfl⟩|⟨b,d,f,rfl⟩|⟨b,d,f,m,rfl⟩|⟨b,d,f,m,l,rfl⟩|⟨b,d,f,m,l,w,rfl⟩<;>exact Spec.y a (az [146] roB) func85 [3,4,5] [zC (Fb.DV a),.er 38 (PlD g),zD o,zD v]
 ·rcases i with⟨h,rfl⟩|⟨h,q,rfl⟩|⟨h,q,p,rfl⟩|⟨h,q,p,x,rfl⟩<;>rcases BX s r with⟨b,d,rfl⟩|⟨b,d,f,rfl⟩|⟨b,d,f,m,rfl⟩|⟨b,d,f,m,l,rfl⟩|⟨b,d,f,m,l,w,rfl⟩<;>exact Spec.y a (az [] roB) func85 [3,4,5] [.er 38 (PlD g),zD o,zD v]
def Ys{T:aM}{d:aw}(y:2<=yD k.bs)(x:yD k.bs<=6)(m:yD k.ms<=4)(i:n<yD k.bs)(l:c<yD k.bs):
  Spec zZq G 85 [qx k,GpD ⟨e,[n,c],B,d⟩,Q6 ⟨T,[g,O],u⟩] (qx (k.xC n c g O T u)):=by
 obtain⟨t,D,ms⟩:=k;rw[As.aar (O:=O) i l];have v:=bR i;have p:=MA (g:=g) i;have s:=bR l;have r:=ZI (g:=g) (O:=O) i l;obtain rfl|m:=abN m
 ·rcases BX y x with⟨f,A,rfl⟩|⟨f,A,b,rfl⟩|⟨f,A,b,h,rfl⟩|⟨f,A,b,h,o,rfl⟩|⟨f,A,b,h,o,q,rfl⟩<;>exact Spec.y a (az [146] roB) func85 [3,4,5] [zC (Fb.DV a),.er 38 (PlD g),zD v,zD p,.er 38 (PlD O),zD s,zD r]
 ·rcases m with⟨j,rfl⟩|⟨j,w,rfl⟩|⟨j,w,z,rfl⟩|⟨j,w,z,C,rfl⟩<;>rcases BX y x with⟨f,A,rfl⟩|⟨f,A,b,rfl⟩|⟨f,A,b,h,rfl⟩|⟨f,A,b,h,o,rfl⟩|⟨f,A,b,h,o,q,rfl⟩<;>exact Spec.y a (az [] roB) func85 [3,4,5] [.er 38 (PlD g),zD v,zD p,.er 38 (PlD O),zD s,zD r]
end Tw
open Go Go.RowKit
variable {P:cp} {Good:bn->Prop}
def aX.aiI{β ρ:aw->aw}{w:bn}{X:aw->Prop}{v:b3}{d:D}(h:aX (λb=>β (ρ b)) w X v d):aX β w X v (d.fD ρ):=by
 cases h with
 |p f=>rw[Ey ρ (fC f)];exact .p f
 |ptr b off=>exact .ptr (ρ b) off
 |aY b off len cap c a=>exact .aY (ρ b) off len cap c a
 |bG b n size cap e c a g=>exact .bG (ρ b) n size cap e c a g
def LQ.aiI{β ρ:aw->aw}{w:bn}{X:aw->Prop}{us:ai b3}{xs:ai D}(h:LQ (aX (λb=>β (ρ b)) w X) us xs):LQ (aX β w X) us (xs.map (D.fD ρ)):=
 h.map λ_ _ _ a=>a.aiI
def aX.FZ{β:aw->aw}{w w':bn}{X X':aw->Prop}(h:∀a u,w.cell? a=a6 u->¬X a.block->w'.cell? a=a6 u/\¬X' a.block){v:b3}{d:D}
  (i:∀b,d.ref=a6 b->∀e n,w.shape? (β b)=a6 (e,n)->∃g,w'.shape? (β b)=a6 (g,n)) (j:aX β w X v d):aX β w' X' v d:=by
 cases j with
 |p k=>exact .p (k.mono h)
 |ptr b off=>exact .ptr b off
 |aY b off len cap f c=>exact .aY b off len cap f c
 |bG b n size cap e f c l=>
  obtain⟨g,m⟩:=i b rfl e _ l;exact .bG b n size cap g f c m
def bU.FZ{β:aw->aw}{w w':bn}{X X':aw->Prop}(h:∀a u,w.cell? a=a6 u->¬X a.block->w'.cell? a=a6 u/\¬X' a.block){v:b3}{d:D}
  (i:∀b∈d.refs,∀e n,w.shape? (β b)=a6 (e,n)->∃o,w'.shape? (β b)=a6 (o,n)) (l:bU β w X v d):bU β w' X' v d:=by
 cases l with
 |c m=>exact .c (m.FZ h λb f=>i b (pN f))
 |agg us xs k=>exact .agg us xs (k.mono λu x g j=>j.FZ h λb f=>i b (by show b∈xs.filterMap D.ref;exact apM.2 ⟨x,g,f⟩))
 |aP us xs k=>exact .aP us xs (k.mono λu x g j=>j.FZ h λb f=>i b (by show b∈xs.filterMap D.ref;exact apM.2 ⟨x,g,f⟩))
def rh(a:ai D)(b:ai (ai D))(ob:bF (ai D)):ai (bF (ai D)):=a6 a::(b.map a6++[ob])
def akx(a:ai D)(b:ai (ai D))(ob:bF (ai D)):(rh a b ob).getD 0 bk=a6 a:=rfl
variable {B C:ai aw} {K q:ai D} {Q R:ai (bF (ai D))} {Z:kf} {c e n:aw} {o:bF (ai D)} {r:D} {y:ai (ai D)}
def QX(h:c<yD y):(rh q y o).getD (c+1) bk=a6 (yI y c []):=by simp only[rh,bP,nr];rw[aqe (by simpa using h),aqz,apj h];rfl
def L8:(rh q y o).getD (yD y+1) bk=o:=by simp only[rh,bP,nr];rw[apS zb];simp
def adL(h:yD y+1<c):(rh q y o).getD c bk=bk:=by rw[apf,apL (by simp[rh];omega)];rfl
def yg(h:(rh q y o).getD c bk=a6 K):
  (c=0/\K=q)\/(∃k,k<yD y/\c=k+1/\K=yI y k [])\/(c=yD y+1/\o=a6 K):=by
 rcases aq5 c (yD y+1)with d|d|d
 cases c with
 |zero=>exact z1 ⟨rfl,(ap0 h).symm⟩
 |succ k=>
  have e:k<yD y:=za
  rw[QX e]at h;exact z2 (z1 ⟨k,e,rfl,(ap0 h).symm⟩)
 rw[d,L8]at h;exact z2 (z2 ⟨d,h⟩);rw[adL d]at h;cases h
def jI(h:([a6 q,o]:ai (bF (ai D))).getD c bk=a6 K):(c=0/\K=q)\/(c=1/\o=a6 K):=by
 match c,h with
 |0,h=>exact z1 ⟨rfl,(ap0 h).symm⟩
 |1,h=>exact z2 ⟨rfl,h⟩
 |c+2,h=>simp at h
def KL(m b:aw):aw:=if b=1 then m+1 else b
def kh.frame{fn:kf}{args C B:ai D}{ob J:bF (ai D)}{d:D}(hI:kh P Good fn 1 args [a6 C,ob] [0] d [a6 B,J] [0])
  (hwc:∀x∈C,∀b,x.ref=a6 b->b=1) (amm:∀x∈B,∀b,x.ref=a6 b->b=1) (hob:∀cs,ob=a6 cs->∀x∈cs,x.ref=bk) (ams:∀cs,J=a6 cs->∀x∈cs,x.ref=bk)
  (du:∀x∈args,∀b∈x.refs,b=0) (hd:d.refs=[]) (o:ai (ai D)) (hXs:∀cs∈o,∀x∈cs,x.ref=bk):
  kh P Good fn (o.length+1) args (rh (C.map (D.fD (KL o.length))) o ob) [0] d (rh (B.map (D.fD (KL o.length))) o J) [0]:=by
 intro f hf c w β X vals q1 q2 q3 q4 q5 q6 h s8 ff zp;have m0:KL o.length 0=0:=rfl;have m1:KL o.length 1=o.length+1:=rfl;generalize hm:o.length=m at*;have b0:(rh (C.map (D.fD (KL m))) o ob).getD 0 bk=a6 (C.map (D.fD (KL m))):=akx ..;have bl:∀{ob:bF (ai D)}{C:ai D},(rh C o ob).getD (m+1) bk=ob:=λ{ob} {C}=>by rw[<-hm];exact L8
 have bm:∀{ob:bF (ai D)}{C:ai D}{k:aw},k<m->(rh C o ob).getD (k+1) bk=a6 (o.getD k []):=λ{ob} {C} {k} g=>QX za
 obtain⟨a1,a2,M,e0,a3,a4,a5⟩:=h.blk 0 _ b0;have sh0:=cw a3
 let seen:aw->b5:=λk=>k==β 0||(ob.isSome&&k==β (m+1))
 have alv:seen (β 0)=bj:=by simp[seen]
 have ahe:ob.isSome=bj->seen (β (m+1))=bj:=λh=>by simp[seen,h]
 have g_:∀k,seen k=bj->k=β 0\/(ob.isSome=bj/\k=β (m+1)):=λk g=>by simpa [seen]using g
 have O:((rh (C.map (D.fD (KL m))) o ob).getD 0 bk).isSome=bj:=by rw[b0];rfl
 have N:ob.isSome=bj->((rh (C.map (D.fD (KL m))) o ob).getD (m+1) bk).isSome=bj:=λh=>by rw[bl];exact h
 have T:∀k<m,((rh (C.map (D.fD (KL m))) o ob).getD (k+1) bk).isSome=bj:=λk g=>by rw[bm g];rfl
 have ahV:∀k,seen k=bj->X k:=λk g=>by
  obtain rfl|⟨V,rfl⟩:=g_ k g
  ·exact a2
  ·obtain⟨cs,r⟩:=apn.1 V
   exact(h.blk (m+1) cs (by show(rh _ o ob).getD (m+1) bk=a6 cs;rw[bl];exact r)).2.1
 generalize apa:seen=E at*
 let c':Ctx:={c with gh:=[(.slice (a6 ⟨β 0,0,bk⟩) 0 1,.bG 0 0 M.size)],gb:=1,rd:=bk,dfs:=[],ns:=w.heap.size,kp:=λk=>if E k then bk else w.heap[k]?,kx:=λk=>X k/\E k=aj}
 have qV:df c' 0 ⟨λ_=>.any,λb=>([a6 C,ob]:ai (bF (ai D))).getD b bk,λb=>([0]:ai aw).contains b⟩ ⟨#[],[]⟩ w (λb=>β (KL m b)) X:=by
  refine⟨rfl,rfl,λt=>.c (.p (.any _)),λt b l=>by simp[D.refs]at l,λb cs l=>?_,λb cs l x F b' I=>?_,λb b' l I e=>?_,h.F,h.uZ,h.oH,⟨h.below.uX,h.below.nc,apc _⟩,λp S=>?_,λp S b l=>?_,⟨λk q g=>?_,λk g=>g.1,λk g=>h.oH k g.1,λk g b l=>?_⟩⟩
  ·rcases jI l with⟨rfl,rfl⟩|⟨rfl,r⟩
   ·rw[apq]at a4 a5
    exact⟨a1,a2,M,e0,a3,a4,a5.Gw⟩
   ·obtain⟨G,z,U,e,W,g4,g5⟩:=h.blk (m+1) cs (by show(rh _ o ob).getD (m+1) bk=a6 cs;rw[bl];exact r)
    exact⟨G,z,U,e,W,g4,(g5.pure (hob cs r)).lq⟩
  ·rcases jI l with⟨rfl,rfl⟩|⟨rfl,r⟩
   ·obtain rfl:=hwc x F b' I
    obtain⟨-,z⟩:=h.qS 0 _ b0 (x.fD (KL m)) (ard F) (m+1) (by rw[v_,I];rfl)
    have g2':((rh (cs.map (D.fD (KL m))) o ob).getD (m+1) bk).isSome=bj:=z;rw[bl]at g2';exact⟨rfl,g2'⟩
   ·rw[hob cs r x F]at I;cases I
  ·obtain⟨c1,e1⟩:=apn.1 l
   obtain⟨c2,e2⟩:=apn.1 I;have up:∀{b cs},([a6 C,ob]:ai (bF (ai D))).getD b bk=a6 cs->((rh (C.map (D.fD (KL m))) o ob).getD (KL m b) bk).isSome=bj:=λ{b cs} l=>by
    rcases jI l with⟨rfl,-⟩|⟨rfl,r⟩
    ·exact O
    ·exact N (by rw[r];rfl)
   have:=h.inj _ _ (up e1) (up e2) e;rcases jI e1 with⟨rfl,-⟩|⟨rfl,-⟩<;>rcases jI e2 with⟨rfl,-⟩|⟨rfl,-⟩<;>first|rfl|(rw[m0,m1]at this;omega)
  ·rw[show c'.gh=[(.slice (a6 ⟨β 0,0,bk⟩) 0 1,.bG 0 0 M.size)]from rfl,apg]at S
   subst S;exact .c (.bG (β:=λb=>β (KL m b)) 0 0 M.size 1 e0 za zt (by rw[aqw];exact sh0))
  ·rw[show c'.gh=[(.slice (a6 ⟨β 0,0,bk⟩) 0 1,.bG 0 0 M.size)]from rfl,apg]at S
   subst S;simp only[D.refs,dc]at l;subst l;exact⟨by show 0<1;omega,rfl⟩
  ·have fX:(if E k then bk else w.heap[k]?)=a6 q:=g
   split at fX
   ·cases fX
   ·exact fX
  ·obtain⟨cs,e1⟩:=apn.1 l
   intro e3;have s:E k=bj:=by
    rw[<-e3];rcases jI e1 with⟨rfl,-⟩|⟨rfl,r⟩
    ·exact alv
    ·exact ahe (by rw[r];rfl)
   obtain g|g:=g
   ·have fX:(if E k then bk else w.heap[k]?).isSome=bj:=g
    rw[aph s]at fX;cases fX
   ·rw[g.2]at s;cases s
 refine(hI f hf c' w (λb=>β (KL m b)) X vals q1 q2 q3 (apc _) rfl rfl qV s8 (λi i1 i2=>(ff i i1 i2).congr λb l=>?_) (λx F b l=>?_)).mono λe Z eh=>?_
 ·rw[du _ (apD i2) b l];rfl
 ·rw[du x F b l];rfl
 obtain⟨v,H,X',rfl,L,hv,-⟩:=eh;have vH:∀k q,E k=aj->w.heap[k]? =a6 q->Z.heap[k]? =a6 q:=λk q g hq=>L.kp.obj k q (by show(if E k then bk else w.heap[k]?)=a6 q;rw[g];exact hq)
 obtain⟨p1,e1,p2⟩:H 0=β 0/\∃e',Z.shape? (β 0)=a6 (e',M.size):=by
  have:=L.gh _ (apg.2 rfl);obtain⟨r1,Ru,r2⟩:=I8 this;have r3:β 0=H 0:=by injection r1
  exact⟨r3.symm,Ru,by rw[r3];rw[aqw]at r2;exact r2⟩
 have n0:([a6 B,J]:ai (bF (ai D))).getD 0 bk=a6 B:=rfl;have n1:([a6 B,J]:ai (bF (ai D))).getD 1 bk=J:=rfl;have ajf:J.isSome=bj->(ob.isSome=bj/\H 1=β (m+1))\/w.heap.size<=H 1:=λK=>by
  obtain bZ|Kt:=apy (H 1) w.heap.size
  ·left
   have s:E (H 1)=bj:=by
    cases s:E (H 1)with
    |true=>rfl
    |false=>exact api rfl (L.kp.off (H 1) (.inl (by show(if E (H 1)then bk else w.heap[H 1]?).isSome=bj;rw[s,ap9 bZ];rfl)) 1 K)
   obtain e|e:=g_ _ s
   ·rw[<-p1]at e
    exact api (L.inj 1 0 K rfl e) za
   ·exact e
  ·exact .inr Kt
 have kXX:∀k,X k->E k=aj->X' k:=λk V Q=>L.kp.x k ⟨V,Q⟩
 have Sf:∀k<m,E (β (k+1))=aj:=λk g=>by
  cases s:E (β (k+1))with
  |false=>rfl
  |true=>
   exfalso;obtain e|⟨K,e⟩:=g_ _ s
   ·have:=h.inj _ _ (T k g) O e;omega
   ·have:=h.inj _ _ (T k g) (N K) e;omega
 have low:∀a u,w.cell? a=a6 u->¬X a.block->Z.cell? a=a6 u/\¬(X' a.block/\(X a.block\/(J.isSome=bj/\a.block=H 1))):=λa u ha F=>by
  have yq:E a.block=aj:=by
   cases s:E a.block with
   |false=>rfl
   |true=>exact api (ahV _ s) F
  have bZ:=yd ha;refine⟨?_,λhX=>?_⟩
  ·have e2:Z.heap[a.block]? =w.heap[a.block]? :=by rw[vH a.block _ yq (ap9 bZ),ap9 bZ]
   rw[ma e2];exact ha
  ·obtain hX|⟨K,hX⟩:=hX.2
   ·exact F hX
   ·rcases ajf K with⟨V,Q⟩|Q
    ·exact F (by rw[hX,Q];exact ahV _ (ahe V))
    ·omega
 have back:∀a u,Z.cell? a=a6 u->¬X' a.block->Z.cell? a=a6 u/\¬(X' a.block/\(X a.block\/(J.isSome=bj/\a.block=H 1))):=λa u ha F=>⟨ha,λhX=>F hX.1⟩
 let β2:aw->aw:=λb=>if b=m+1 then H 1 else β b
 have R:β2 (m+1)=H 1:=aph rfl;have A:∀b,b≠m+1->β2 b=β b:=λb l=>ape l
 have shp:∀b<m+1,∀e n,w.shape? (β b)=a6 (e,n)->∃e',Z.shape? (β b)=a6 (e',n):=λb l e n s=>by
  cases b with
  |zero=>
   rw[sh0]at s;simp only[eE,gu]at s;exact⟨e1,by rw[<-s.2];exact p2⟩
  |succ k=>
   obtain⟨U,fr,G,z⟩:=ju s;exact⟨e,by rw[<-z];exact cw (vH _ _ (Sf k za) G)⟩
 have Y:∀b,(b=0\/b=1)->β2 (KL m b)=H b:=λb l=>by
  obtain rfl|rfl:=l
  ·rw[m0,A 0 za,p1]
  ·rw[m1,R]
 refine⟨v,β2,λk=>X' k/\(X k\/(J.isSome=bj/\k=H 1)),rfl,?_,.c (.p ((hv.pure hd).mono back)),λb l=>by rw[hd]at l;cases l⟩
 refine⟨q6.symm,rfl,λt=>.c (.p (.any _)),λt b l=>by simp[D.refs]at l,λb cs l=>?_,λb cs l x F b' I=>?_,λb b' l I e=>?_,λk g=>⟨L.F k g,.inl (h.F k g)⟩,h.uZ,λk g=>L.oH k g.1,⟨L.below.uX,L.below.nc,apm h.below.sz L.below.sz⟩,λp S=>?_,λp S b l=>?_,⟨λk q g=>?_,λk g=>?_,λk g=>apV (h.kp.lt k g) L.below.sz,λk g b l=>?_⟩⟩
 ·rcases yg l with⟨rfl,rfl⟩|⟨k,g,rfl,rfl⟩|⟨rfl,r⟩
  ·obtain⟨G,z,U,e,W,g4,g5⟩:=L.blk 0 B n0
   rw[p1]at G z W;refine⟨G,⟨z,.inl a2⟩,U,e,W,by rw[apq];exact g4,?_⟩
   rw[apq];refine LQ.aiI (g5.mono λu x F hq=>?_)
   exact(hq.FZ back λb _ e n s=>⟨e,s⟩).congr λb l=>Y b (.inr (amm x F b l))
  ·rw[hm]at g
   obtain⟨G,z,U,e,W,g4,g5⟩:=h.blk (k+1) _ (bm g);have mr:∀x∈o.getD k [],x.ref=bk:=hXs _ (by rw[apf,apj (by omega:k<o.length)];exact apD _)
   rw[A (k+1) za]
   exact⟨G,⟨kXX _ z (Sf k g),.inl z⟩,U,e,vH _ _ (Sf k g) W,g4,((g5.pure mr).mono low).lq⟩
  ·rw[hm,R]
   obtain⟨G,z,U,e,W,g4,g5⟩:=L.blk 1 cs (n1.trans r);exact⟨G,⟨z,.inr ⟨by rw[r];rfl,rfl⟩⟩,U,e,W,g4,((g5.pure (ams cs r)).mono back).lq⟩
 ·rcases yg l with⟨rfl,rfl⟩|⟨k,g,rfl,rfl⟩|⟨rfl,r⟩
  ·rw[apN]at F
   obtain⟨y,hy,rfl⟩:=F;rw[v_]at I;obtain⟨b2,xT,rfl⟩:=Option.map_eq_some_iff.1 I;obtain rfl:=amm y hy b2 xT;obtain⟨-,z⟩:=L.qS 0 B n0 y hy 1 xT;exact⟨rfl,by show((rh _ o J).getD (m+1) bk).isSome=bj;rw[bl];exact z⟩
  ·have mr:∀x∈o.getD k [],x.ref=bk:=hXs _ (by rw[apf,apj g];exact apD _)
   rw[mr x F]at I;cases I
  ·rw[ams cs r x F]at I;cases I
 ·have Rk:∀{b},((rh (B.map (D.fD (KL m))) o J).getD b bk).isSome=bj->(b<m+1/\((rh (C.map (D.fD (KL m))) o ob).getD b bk).isSome=bj)\/(b=m+1/\J.isSome=bj):=λ{b} l=>by
   obtain⟨cs,r⟩:=apn.1 l;rcases yg r with⟨rfl,-⟩|⟨k,g,rfl,-⟩|⟨rfl,K⟩
   ·exact .inl ⟨by omega,O⟩
   ·exact .inl ⟨by omega,T k za⟩
   ·exact .inr ⟨by rw[hm],by rw[K];rfl⟩
  have ne:∀{b},b<m+1->((rh (C.map (D.fD (KL m))) o ob).getD b bk).isSome=bj->J.isSome=bj->β b≠H 1:=λ{b} V Q h3 e=>by
   rcases ajf h3 with⟨G,z⟩|z
   ·rw[z]at e
    have:=h.inj _ _ Q (N G) e;omega
   ·obtain⟨cs,r⟩:=apn.1 Q
    have:=h.oH _ (h.blk b cs r).2.1;omega
  rcases Rk l with⟨V,Q⟩|⟨rfl,Q⟩<;>rcases Rk I with⟨h3,h4⟩|⟨rfl,h4⟩
  ·rw[A b za,A b' za]at e
   exact h.inj _ _ Q h4 e
  ·rw[A b za,R]at e
   exact api e (ne V Q h4)
  ·rw[A b' za,R]at e
   exact api e.symm (ne h3 h4 Q)
  ·rfl
 ·have hr:=h.gh p S
  refine(hr.FZ low λb l=>shp b ?_).congr λb l=>A b ?_
  ·exact apV (h.i_ p S b l).1 q4
  ·have:=(h.i_ p S b l).1
   omega
 ·obtain⟨G,z⟩:=h.i_ p S b l
  refine⟨G,?_⟩;have bZ:b<m+1:=za
  cases b with
  |zero=>rfl
  |succ k=>show((rh _ o J).getD (k+1) bk).isSome=bj;rw[bm za];rfl
 ·have G:=h.kp.obj k q g
  refine vH k q ?_ G;cases s:E k with
  |false=>rfl
  |true=>
   exfalso;obtain e|⟨K,e⟩:=g_ k s
   ·exact h.kp.off k (.inl (by rw[g];rfl)) 0 O e.symm
   ·exact h.kp.off k (.inl (by rw[g];rfl)) (m+1) (N K) e.symm
 ·have yq:E k=aj:=by
   cases s:E k with
   |false=>rfl
   |true=>
    exfalso;obtain e|⟨K,e⟩:=g_ k s
    ·exact h.kp.off k (.inr g) 0 O e.symm
    ·exact h.kp.off k (.inr g) (m+1) (N K) e.symm
  exact⟨kXX k (h.kp.x k g) yq,.inl (h.kp.x k g)⟩
 ·obtain⟨cs,r⟩:=apn.1 l
  rcases yg r with⟨rfl,-⟩|⟨j,hj,rfl,-⟩|⟨rfl,K⟩
  ·rw[A 0 za];exact h.kp.off k g 0 O
  ·rw[A (j+1) za];exact h.kp.off k g (j+1) (T j za)
  ·rw[hm,R]
   intro e;rcases ajf (by rw[K];rfl)with⟨G,z⟩|z
   ·exact h.kp.off k g (m+1) (N G) (by rw[<-z];exact e)
   ·have:=h.kp.below g
    omega
def afy{α:Type}(f:ai (cY×cY)->α)(o:bF (D×ai (bF (ai D))×ai aw×ai (Item P Good)×ai (cY×cY))):bF (D×ai (bF (ai D))×ai aw×α):=o.map λo=>(o.1,o.2.1,o.2.2.1,f o.2.2.2.2)
def kh.xH(l:aa Good)(A:sC P Good)(fn:kf){ns':ai aw}(a:ai (Item P Good))
  (h:afy yV (wK P (mX P c) e B fn q Q C (.auto A::a))=a6 (r,R,ns',said a):=by kernel_rfl) (b:afy IP (wK P (mX P c) e B fn q Q C (.auto A::a))=afy BJ (wK P (mX P c) e B fn q Q C (.auto A::a)):=by kernel_rfl):
  kh P Good fn e q Q C r R ns':=by
 unfold afy at h b;cases d:wK P (mX P c) e B fn q Q C (.auto A::a)with
 |none=>rw[d]at h;cases h
 |some o=>
  obtain⟨d1,t,args,p,ro⟩:=o;rw[d]at h b;simp only[dm,zIq,zJq,true_and]at h b;obtain⟨rfl,rfl,rfl,h⟩:=h;exact n_ (λro n k s a m g tr' f i j=>iK l c B n k s a m g tr' f i j) _ _ _ _ _ _ _ _ _ _ _ _ d (w8 h b)
def kh.same{fn:kf}{mx:aw}{args:ai D}{k j i g:ai (bF (ai D))}{ns ns':ai aw}{d:D}(h:kh P Good fn mx args k ns d i ns')(o:∀b,k.getD b bk=j.getD b bk)(n:∀b,i.getD b bk=g.getD b bk):kh P Good fn mx args j ns d g ns':=by
 have I:(λb=>k.getD b bk)=λb=>j.getD b bk:=funext o
 have H:(λb=>i.getD b bk)=λb=>g.getD b bk:=funext n
 intro f B c w β X vals A z y x u t m s r a;rw[<-I]at m;refine(h f B c w β X vals A z y x u t m s r λd C b l=>?_).mono λe K G=>?_
 rw[o];exact a d C b l;obtain⟨v,q,J,rfl,p,F,E⟩:=G;rw[H]at p;exact⟨v,q,J,rfl,p,F,λb l=>by rw[<-n];exact E b l⟩
def kh.pick{N:aw}(h:kh P Good Z 1 K Q B r R C)
  (E:yI R 0 bk=a6 (q.map (D.fD λb=>if b=1 then N else b))) (args:yI R N bk=o) (hN0:N≠0) (d:∀x∈q,∀b,x.ref=a6 b->b=1) (m:∀cs,o=a6 cs->∀x∈cs,x.ref=bk) (J:r.refs=[]):
  kh P Good Z 1 K Q B r [a6 q,o] [0]:=by
 intro f hf c w β X vals ns Y W V U T S ob Bo z;refine(h f hf c w β X vals ns Y W V U T S ob Bo z).mono λe w' eh=>?_
 obtain⟨v,L,X',rfl,g,hv,-⟩:=eh
 let ρ:aw->aw:=λb=>if b=1 then N else b
 have I:ρ 0=0:=rfl;have H:ρ 1=N:=rfl;have G:∀{b cs},([a6 q,o]:ai (bF (ai D))).getD b bk=a6 cs->(yI R (ρ b) bk).isSome=bj/\(b=0\/b=1):=λ{b cs} a=>by
  rcases jI a with⟨rfl,-⟩|⟨rfl,i⟩
  exact⟨by rw[I,E];rfl,z1 rfl⟩;exact⟨by rw[H,args,i];rfl,z2 rfl⟩
 refine⟨v,λb=>L (ρ b),X',rfl,⟨g.defers,g.size,λt=>.c (.p (.any _)),λt b a=>by simp[D.refs]at a,λb cs a=>?_,λb cs a x A fn l=>?_,λb fn a l e=>?_,g.F,g.uZ,g.oH,g.below,λp ns1=>?_,λp ns1 b a=>?_,⟨g.kp.obj,g.kp.x,g.kp.lt,λk hk b a=>?_⟩⟩,.c (.p (hv.pure J)),λb a=>by rw[J]at a;cases a⟩;rcases jI a with⟨rfl,rfl⟩|⟨rfl,i⟩
 obtain⟨blks,j,y,e,F,u,s⟩:=g.blk 0 _ E;rw[apq]at u s;exact⟨blks,j,y,e,F,u,s.Gw⟩;obtain⟨blks,j,y,e,F,u,s⟩:=g.blk N cs (args.trans i);exact⟨blks,j,y,e,F,u,(s.pure (m cs i)).lq⟩;rcases jI a with⟨rfl,rfl⟩|⟨rfl,i⟩
 obtain rfl:=d x A fn l;obtain⟨-,j⟩:=g.qS 0 _ E (x.fD ρ) (ard A) N (by rw[v_,l];rfl);have n:(yI R N bk).isSome=bj:=j;rw[args]at n;exact⟨rfl,n⟩;rw[m cs i x A]at l;cases l;obtain⟨c1,e1⟩:=apn.1 a;obtain⟨c2,e2⟩:=apn.1 l;obtain⟨a1,O⟩:=G e1;obtain⟨a2,M⟩:=G e2;have:=g.inj _ _ a1 a2 e;obtain rfl|rfl:=O<;>obtain rfl|rfl:=M<;>first|rfl|(rw[I,H]at this;omega)
 refine(g.gh p ns1).congr λb a=>?_
 have:=(g.i_ p ns1 b a).1;obtain rfl:b=0:=za
 rfl;obtain⟨blks,j⟩:=g.i_ p ns1 b a;obtain rfl:b=0:=za
 exact⟨blks,rfl⟩;obtain⟨cs,jz⟩:=apn.1 a;exact g.kp.off k hk _ (G jz).1
def afA{α:Type}(f:ai (cY×cY)->α)(o:bF (iw×ai D×ai (bF (ai D))×ai (Item P Good)×ai (cY×cY))):bF (iw×ai D×ai (bF (ai D))×α):=o.map λo=>(o.1,o.2.1,o.2.2.1,f o.2.2.2.2)
def af.bK(j:aa Good)(A:sC P Good){ro:ai aw}{m:aw}{k:Code}{s:St}{l:ai (aw×D)}{bl:ai (aw×ai D)}{e:iw}(i:yD s.tmps=n)(b:ai (Item P Good))
  (h:afA yV (rn P m ro c k s (.auto A::b) (l.map (·.1)) (bl.map (·.1)) B)=a6 (e,l.map (·.2),bl.map (λp=>a6 p.2),said b):=by kernel_rfl)
  (gb:afA IP (rn P m ro c k s (.auto A::b) (l.map (·.1)) (bl.map (·.1)) B)=afA BJ (rn P m ro c k s (.auto A::b) (l.map (·.1)) (bl.map (·.1)) B):=by kernel_rfl):af P Good c k s e (lay n l bl B):=by
 unfold afA at h gb;cases a:rn P m ro c k s (.auto A::b) (l.map (·.1)) (bl.map (·.1)) B with
 |none=>rw[a]at h;cases h
 |some o=>
  obtain⟨z,v,ns,t,u⟩:=o;rw[a]at h gb;simp only[dm,zIq,zJq,true_and]at h gb;obtain⟨rfl,rfl,rfl,h⟩:=h;unfold rn at a;split at a;rename_i y s1 x w g;split at a;rename_i f;simp only[zIq,zJq,sj]at a;obtain⟨rfl,r,q,rfl,rfl⟩:=a;have d:=iK j m ro c k s (.auto A::b) _ s1 _ _ g (w8 h gb);exact⟨s1,_,_,_,d,f,rT (d.1.trans i) r q⟩;cases a;cases a
namespace Tw
open Go Go.RowKit Go.Proofs
open fb
variable {G:bn->Prop}
def Spec.loose{P:cp}{f:c7}{args:ai D}{n:aw}{xs:ai D}(h:Spec P G f args (zK n bj xs)):Spec P G f args (zK n aj xs):=λw F a i g d=>
 (h w F a i g d).mono λe k j=>by obtain⟨v,rfl,b,c⟩:=j;exact⟨v,rfl,b.loose,c⟩
variable {H:ai As} {J:ai cA} (a:aa G) {b:ai Gp} {d:Lk} {f:ai Tn} {k:As} {u:cA} {w:aM}
def Xr(h:(u::J).length<=1000):0<(u::J).length/\([]:ai D).length=0*1/\((u::J).map int).length=(u::J).length*1/\0+(u::J).length<=2^62/\(0+(u::J).length)*8<=2^47:=by refine⟨by simp,rfl,by simp,by omega,by omega⟩
def Jm(ms:ai cA)(h:yD ms<=1000):Spec zZq G 146 [P' ms] (P' ms):=by
 cases ms with
 |nil=>exact Spec.loose (Fb.DV a)
 |cons m ms=>
  have c:=Xr h;have b:Spec zZq G 146 [P' (m::ms)] (zK (0+(m::ms).length) aj (((m::ms).map int).take ((0+(m::ms).length)*1))):=
   Spec.y a (az []) func146 [] [.er 6 (P' (m::ms)),zD c]
  have e:D.row (0+(m::ms).length) aj (((m::ms).map int).take ((0+(m::ms).length)*1))=P' (m::ms):=by
   rw[aqa,aqx,apA zb];rfl
  rw[e]at b;exact b
def Spec.abE{P:cp}{f:c7}{args:ai D}{n:aw}{xs rest:ai D}(h:Spec P G f args (.agg (.row n bj xs::rest))):Spec P G f args (.agg (.row n aj xs::rest)):=λw F a k j g=>
 (h w F a k j g).mono λe m l=>by
  obtain⟨v,rfl,b,d⟩:=l;refine⟨v,rfl,?_,d⟩;cases b with
  |agg us _ c b=>
   refine .agg us _ c λi i1 i2=>?_
   have:=b i i1 (by simpa using i2);cases i with
   |zero=>exact b9.loose this
   |succ i=>exact this
def Cn(G:bn->Prop)(x:ai cl):Prop:=Spec zZq G 147 [au x] (au x)
def CnP(G:bn->Prop)(b:Pl):Prop:=Cn G b.c/\Cn G b.s/\Cn G b.x/\Cn G b.y
def ai'{x:ai cl}(ok:j7 w)(h:aH n w x)(t:n<=NB):Cn G x:=Jn a (apm (h.len ok) za) (h.bt.fit t)
def cnI(b:aa G):(l:ai (ai cl))->(∀r∈l,Cn G r)->ai (Item zZq G)
 |[],_=>[]
 |r::l,h=>zC (h r (apw ..))::cnI b l λx a=>h x (apX _ a)
def plI(c:aa G):(l:ai Pl)->(∀b∈l,CnP G b)->ai (Item zZq G)
 |[],_=>[]
 |b::l,h=>zC (h b (apw ..)).1:: zC (h b (apw ..)).2.1:: zC (h b (apw ..)).2.2.1:: zC (h b (apw ..)).2.2.2::plI c l λx a=>h x (apX _ a)
def agw(n:2<=yD k.bs)(m:yD k.bs<=6)(i:yD k.t<=4)(s:yD k.ms<=1000)(q:∀r∈k.t,Cn G r)(l:∀b∈k.bs,CnP G b):Spec zZq G 82 [qx k] (qx k):=by
 obtain⟨t,o,ms⟩:=k;have cm:=Jm a ms s;obtain rfl|i:=abN i
 ·have key:Spec zZq G 82 [qx ⟨[],o,ms⟩] (z4 (zK 0 bj []::[aQ Hg o,P' ms])):=by
   rcases BX n m with⟨d,c,rfl⟩|⟨d,c,e,rfl⟩|⟨d,c,e,g,rfl⟩|⟨d,c,e,g,j,rfl⟩|⟨d,c,e,g,j,u,rfl⟩<;>exact Spec.y a (az [146,147]) func82 [11] (zC cm::plI a _ l) zc zc
  exact Spec.abE key
 ·rcases i with⟨h,rfl⟩|⟨h,f,rfl⟩|⟨h,f,p,rfl⟩|⟨h,f,p,v,rfl⟩<;>rcases BX n m with⟨d,c,rfl⟩|⟨d,c,e,rfl⟩|⟨d,c,e,g,rfl⟩|⟨d,c,e,g,j,rfl⟩|⟨d,c,e,g,j,u,rfl⟩<;>exact Spec.y a (az [146,147]) func82 [11] (zC cm::(cnI a _ q++plI a _ l)) zc zc
def vu(a:As):(Bm a).length=3:=rfl
def wC(l:Lk)(xs:ai Tn)(gs:ai Gp)(a:D):ai D:=yJ l++[aQ Y9 xs,aQ kg gs,zT (.func (.func 81) #[] #[]),bool aj,a]
def wO(N:aw):ai As->D
 |[]=>zK 0 bj []
 |o::os=>.bG N (o::os).length 3
def KI:ai As->bF (ai D)
 |[]=>bk
 |o::os=>a6 ((o::os).flatMap Bm)
abbrev GH(G:bn->Prop)(l:Lk)(xs:ai Tn)(gs:ai Gp)(a:As)(o:ai As)(d:D)(b:ai As):Prop:=
 kh zZq G f35 1 [z0 0 0,qx a] [a6 (wC l xs gs (wO 1 o)),KI o] [0] d [a6 (wC l xs gs (wO 1 b)),KI b] [0]
def tR{N:aw}:∀x∈wC d f b (wO N H),∀l,x.ref=a6 l->l=N:=by
 intro x c l a;simp only[wC,yJ,pa,lp,b4,bI,or_false]at c;obtain rfl|rfl|rfl|rfl|rfl|rfl|rfl|rfl|rfl:=c
 cases a;cases a;cases a;cases a;cases a;cases a;cases a;cases a;cases H with
 |nil=>cases a
 |cons y o=>simp only[wO,D.ref,eE]at a;exact a.symm
def td:∀cs,KI H=a6 cs->∀x∈cs,x.ref=bk:=by
 intro cs c x b;cases H with
 |nil=>cases c
 |cons y d=>
  simp only[KI,eE]at c;subst c;rw[aq9]at b;obtain⟨a,-,b⟩:=b;simp only[Bm,b4,bI,or_false]at b;obtain rfl|rfl|rfl:=b<;>rfl
def xi{ρ:aw->aw}:(wC d f b (wO 1 H)).map (D.fD ρ)=wC d f b (wO (ρ 1) H):=by cases H<;>rfl
def agO(h:yD H<=1000):(Bm k).all D.bV=bj/\0<1/\(H.flatMap Bm).length=yD H*3/\(Bm k).length=1*3/\yD H+1<=2^62/\(yD H+1)*72<=2^47:=by rw[dq vu];exact⟨rfl,by omega,rfl,rfl,by omega,by omega⟩
def Vp(h:c=e):(zNq c==zNq e)=bj:=gI h
def V3(o:ai As)(h:yD o<=1000)(l:yD k.ms=yD b)(gs:Spec zZq G 82 [qx k] (qx k)):GH G d f b k o (zT .nilIface) (o++[k]):=by
 cases o with
 |nil=>
  have c:kh zZq G f35 1 [z0 0 0,qx k] [a6 (wC d f b (zK 0 bj [])),bk] [0] (zT .nilIface) [a6 (wC d f b (.bG 3 1 3)),bk,a6 (Bm k),a6 (Bm k)] [0,0]:=
   kh.xH a (az [82]) _ (B:=[]) (c:=60) [.eb 21 (Vp l),zC gs]
  exact c.pick (N:=3) (o:=KI [k]) (by rw[xi];rfl) (by simp[KI]) za tR td rfl
 |cons y e=>
  have g:=agO (k:=k) h;have c:kh zZq G f35 1 [z0 0 0,qx k] [a6 (wC d f b (.bG 1 (y::e).length 3)),a6 ((y::e).flatMap Bm)] [0] (zT .nilIface) [a6 (wC d f b (.bG 1 ((y::e).length+1) 3)),a6 ((y::e).flatMap Bm++Bm k),a6 (Bm k)] [0,0]:=
   kh.xH a (az [82]) _ (B:=[]) (c:=60) [.eb 21 (Vp l),zC gs,zD g]
  refine c.pick (N:=1) (o:=KI (y::e++[k])) ?_ ?_ za tR td rfl;rw[xi];simp[wO];simp[KI]
def w5(s:uU):(adz s).length=3:=rfl
instance:ka uU:=⟨⟨[],[],0⟩⟩
def wB(l:Lk)(xs:ai Tn)(gs:ai Gp)(a:As)(g:Gp):ai As->ai (aw×ai D)
 |[]=>[(0,wC l xs gs (zK 0 bj [])),(1,Bm a),(2,kg g)]
 |o::os=>[(0,wC l xs gs (.bG 3 (o::os).length 3)),(1,Bm a),(2,kg g),(3,(o::os).flatMap Bm)]
def wL(l:Lk)(xs:ai Tn)(gs:ai Gp)(a:As)(g:Gp)(k:aw)(ss:ai uU)(o:ai As)(i:aw):St:=
 lay 85 [(0,z0 0 0),(3,z0 1 0),(5,nat k),(6,z0 2 0),(56,aQ adz ss),(57,nat (yD ss)),(58,nat i)] (wB l xs gs a g o) [0]
def wE(l:Lk)(xs:ai Tn)(gs:ai Gp)(b:ai (aw×D)):ai As->St
 |[]=>lay 85 b [(0,wC l xs gs (zK 0 bj []))] [0]
 |o::os=>lay 85 b [(0,wC l xs gs (.bG 3 (o::os).length 3)),(3,(o::os).flatMap Bm)] [0]
abbrev Sub(G:bn->Prop)(l:Lk)(xs:ai Tn)(gs:ai Gp)(a:As)(g:Gp)(a2:As)(o:ai As)(d:D)(o':ai As):Prop:=
 kh zZq G f35 3 [z0 0 0,qx a2] (rh (wC l xs gs (wO 3 o)) [Bm a,kg g] (KI o)) [0] d (rh (wC l xs gs (wO 3 o')) [Bm a,kg g] (KI o')) [0]
def GH.sub{l:Lk}{xs:ai Tn}{gs:ai Gp}{a2:As}{o o':ai As}(h:GH G l xs gs a2 o r o')(j:r.refs=[])(a:As)(g:Gp):Sub G l xs gs a g a2 o r o':=by
 have k:=kh.frame h tR tR td td (λx c b f=>?_) j [Bm a,kg g] (λcs e x c=>?_)
 ·rw[xi,xi]at k
  exact k
 ·simp only[b4,bI,or_false]at c
  obtain rfl|rfl:=c
  ·simpa [D.refs]using f
  ·simp[qx,Bm,D.refs,D.ref,aQ,P']at f
 ·simp only[b4,bI,or_false]at e
  obtain rfl|rfl:=e
  ·simp only[Bm,b4,bI,or_false]at c
   obtain rfl|rfl|rfl:=c<;>rfl
  ·simp only[kg,b4,bI,or_false]at c
   obtain rfl|rfl|rfl|rfl:=c<;>rfl
def JL(l:ai (bF (ai D)))(b:aw):yI l b bk=(l++[bk]).getD b bk:=by
 simp only[bP];obtain h|h|h:=aq5 b (yD l)
 rw[aqe h];subst h;rw[apL (apc _),apS (apc _)];simp;rw[apL za,apL zu]
section
variable {l:Lk} {xs:ai Tn} {gs:ai Gp} {a a2:As} {g:Gp} {k i:aw} {ss:ai uU} {o o':ai As}
def ak2(f:aa G)(b:i<yD ss)(p:yD ss<=1000)(h:Spec zZq G 85 [qx a,GpD g,Q6 (yI ss i bc)] (qx a2))(W:Sub G l xs gs a g a2 o (zT .nilIface) o'):
  af zZq G 1 (ae f35 0) (wL l xs gs a g k ss o i) z3 (wL l xs gs a g k ss o' (i+1)):=by
 have d:=cE w5 za b
 have c:=aq w5 za b
 have e:=fO w5 b bc;cases o with
 |nil=>cases o' with
  |nil=>exact af.bK f (az [85,35]) (ro:=[2013010]) (m:=60) (aB ..) [.eb 59 (ah b),zD d,zD c,.eq 61 e,zC h,.vr func35 W,.eq 84 (bL (cI b za))]
  |cons y n=>exact af.bK f (az [85,35]) (ro:=[2013010]) (m:=60) (aB ..) [.eb 59 (ah b),zD d,zD c,.eq 61 e,zC h,.vr func35 W,.eq 84 (bL (cI b za))]
 |cons x q=>
  have j:=kh.same W (JL _) (λ_=>rfl)
  cases o' with
  |nil=>exact af.bK f (az [85,35]) (ro:=[2013010]) (m:=60) (aB ..) [.eb 59 (ah b),zD d,zD c,.eq 61 e,zC h,.vr func35 j,.eq 84 (bL (cI b za))]
  |cons y n=>exact af.bK f (az [85,35]) (ro:=[2013010]) (m:=60) (aB ..) [.eb 59 (ah b),zD d,zD c,.eq 61 e,zC h,.vr func35 j,.eq 84 (bL (cI b za))]
def ah7(f:aa G)(b:i<yD ss)(p:yD ss<=1000)(h:Spec zZq G 85 [qx a,GpD g,Q6 (yI ss i bc)] (qx a2))(W:Sub G l xs gs a g a2 o (lY 15) o'):
  af zZq G 1 (ae f35 0) (wL l xs gs a g k ss o i) .ret (wE l xs gs [(4,lY 15)] o'):=by
 have d:=cE w5 za b
 have c:=aq w5 za b
 have e:=fO w5 b bc;cases o with
 |nil=>cases o' with
  |nil=>exact af.bK f (az [85,35]) (ro:=[2013010]) (m:=60) (aB ..) [.eb 59 (ah b),zD d,zD c,.eq 61 e,zC h,.vr func35 W]
  |cons y n=>exact af.bK f (az [85,35]) (ro:=[2013010]) (m:=60) (aB ..) [.eb 59 (ah b),zD d,zD c,.eq 61 e,zC h,.vr func35 W]
 |cons x q=>
  have j:=kh.same W (JL _) (λ_=>rfl)
  cases o' with
  |nil=>exact af.bK f (az [85,35]) (ro:=[2013010]) (m:=60) (aB ..) [.eb 59 (ah b),zD d,zD c,.eq 61 e,zC h,.vr func35 j]
  |cons y n=>exact af.bK f (az [85,35]) (ro:=[2013010]) (m:=60) (aB ..) [.eb 59 (ah b),zD d,zD c,.eq 61 e,zC h,.vr func35 j]
def ah8(b:aa G):af zZq G 1 (ae f35 0) (wL l xs gs a g k ss o (yD ss)) (yu 0) (wE l xs gs [] o):=by
 cases o<;>exact af.r b [.eb 59 (c9 (apc (yD ss)))]
end
def rM(xs:ai Tn)(g:Gp):Tn:=if g.kind=0 then yI xs g.dr ⟨0,aj⟩else⟨0,aj⟩
def afZ(h:c≠0):(zNq c !=zNq 0)=bj:=zu
variable {L:ai uU} {Y:b5} {h:Type} {j:Gp}
def OF(o:j.kind=0->j.dr<yD f)(z:r=zK 0 bj []\/∃v,r=zT v):
  iy zZq G f84 [z0 0 0,GpD j] (wC d f b r) (J5 (rM f j)) (wC d f b r):=by
 by_cases h:j.kind=0
 ·have c:=o h
  obtain⟨k,p,n,g⟩:=j;have h:k=0:=h;subst h;have e:rM f ⟨0,p,n,g⟩=yI f g ⟨0,aj⟩:=rfl;rw[e];have gs:=cE NX za c
  have i:=aq NX za c
  have l:=fO NX c ⟨0,aj⟩;obtain rfl|⟨v,rfl⟩:=z<;>exact iy.bK a (az []) _ (ro:=[]) (m:=60) [.er 14 (nat g),zD gs,zD i,.eq 16 l]
 ·have e:rM f j=⟨0,aj⟩:=ape h
  rw[e];obtain rfl|⟨v,rfl⟩:=z<;>exact iy.bK a (az []) _ (ro:=[]) (m:=60) [.eb 7 (afZ h)]
def Hy(c:j.kind=0->j.dr<yD f)(l:r=zK 0 bj []\/∃g n k,r=.bG g n k):
  ∀vs:ai b3,yD vs=(wC d f b r).length->iy zZq G f84 [z0 0 0,GpD j] (qe (wC d f b r) vs) (J5 (rM f j)) (qe (wC d f b r) vs):=by
 intro vs z
 match vs,z with
 |[v0,v1,v2,xs,v4,i,v6,h,e],_=>
  obtain rfl|⟨g,n,k,rfl⟩:=l
  exact OF a c (z1 rfl);exact OF a c (z2 ⟨e,rfl⟩)
def As.put(a:As)(g:Gp)(s:uU):As:=
 match g.bs,s.ps with
 |[b],[p]=>a.BK b p s.T s.mode
 |[b,c],[p,q]=>a.xC b c p q s.T s.mode
 |_,_=>a
def qv(f:As->ai As->ai As×b5)(a:As)(g:Gp):ai uU->ai As->ai As×b5
 |[],o=>(o,bj)
 |s::ss,o=>match f (a.put g s) o with
  |(o1,bj)=>qv f a g ss o1
  |(o1,aj)=>(o1,aj)
noncomputable def pG(l:Lk)(xs:ai Tn):ai Gp->As->ai As->ai As×b5
 |[],a,o=>(o++[a],bj)
 |g::gs,a,o=>match iX l a g (rM xs g)with
  |none=>(o,aj)
  |some ss=>qv (pG l xs gs) a g ss o
def O6:b5->D
 |true=>zT .nilIface
 |false=>lY 15
def acW(l:Lk)(xs:ai Tn)(gs:ai Gp):ai As×b5->iw×St
 |(o,bj)=>(yu 0,wE l xs gs [] o)
 |(o,aj)=>(.ret,wE l xs gs [(4,lY 15)] o)
def agl(l:Lk)(xs:ai Tn)(gs:ai Gp)(r:ai As×b5):(acW l xs gs r).1≠.normal:=by obtain⟨o,b⟩:=r;cases b<;>(intro h;cases h)
def GH.err{c:ai As}(h:GH G d f b k H (O6 Y) c)(a0:As)(g:Gp):Sub G d f b a0 g k H (O6 Y) c:=h.sub (by cases Y<;>rfl) a0 g
def AI{l:ai h}(α:c<yD l)(d:h):l.drop c=yI l c d::l.drop (c+1):=by rw[aqr α];congr 1;rw[apf,apj α];rfl
def V0{l:As->ai As->ai As×b5}(ss:yD L<=1000)
  (sub:∀s∈L,Spec zZq G 85 [qx k,GpD j,Q6 s] (qx (k.put j s))/\∀o,yD o+e<=n->GH G d f b (k.put j s) o (O6 (l (k.put j s) o).2) (l (k.put j s) o).1/\(l (k.put j s) o).1.length<=yD o+e)
  (o:ai As) (w:yD o+yD L*e<=n):
  aI zZq G 85 1 (.loop (ae f35 0)) (wL d f b k j c L o 0) (acW d f b (qv l k j L o)).1 (acW d f b (qv l k j L o)).2:=by
 have fin:∀r,r=qv l k j L o->aI zZq G 85 1 (.loop (ae f35 0)) (wL d f b k j c L o 0) (acW d f b r).1 (acW d f b r).2:=by
  intro r t;refine aI.MJ (ι:=aw×ai As) (λp=>p.1<=yD L/\qv l k j (L.drop p.1) p.2=r/\yD p.2+(yD L-p.1)*e<=n) (λp=>wL d f b k j c L p.2 p.1) (λp=>yD L-p.1) (λp=>aB ..) (agl d f b r) (λp u=>?_) (0,o) ⟨apJ _,by rw[aqD];exact t.symm,by simpa using w⟩;obtain⟨i,o⟩:=p;obtain⟨m,g,x⟩:=u;simp only at m g x;obtain M|M:=apy i (yD L)
  have q:yI L i bc∈L:=aA M _;obtain⟨gs,hw⟩:=sub _ q;have hm:(yD L-i)*e=(yD L-(i+1))*e+e:=by rw[show yD L-i=(yD L-(i+1))+1 by omega,aqk]
  obtain⟨B,h⟩:=hw o za;rw[AI M bc]at g;simp only[qv]at g;cases v:l (k.put j (yI L i bc)) o with
  |mk o1 y=>
   rw[v]at B h g;cases y with
   |true=>
    refine z1 ⟨(i+1,o1),⟨M,g,?_⟩,?_,(ak2 a M ss gs (B.err k j)).YT⟩;simp only at h⊢;omega;show yD L-(i+1)<yD L-i;omega
   |false=>
    simp only at g;subst g;exact z2 (ah7 a M ss gs (B.err k j)).YT
  obtain rfl:i=yD L:=arp m M;rw[ar1]at g;simp only[qv]at g;subst g;exact z2 (ah8 a).YT
 exact fin _ rfl
def De(h:c<e):(zNq c==zNq e)=aj:=by rw[c4];intro j;have:(c:cA)=(e:cA):=j;omega
def Zl(N:aw)(o:ai As):wO N o=zK 0 bj []\/∃b n k,wO N o=.bG b n k:=by cases o;exact z1 rfl;exact z2 ⟨_,_,_,rfl⟩
section
variable {l:Lk} {xs:ai Tn} {gs:ai Gp} {a:As} {g:Gp} {ss:ai uU} {o o':ai As}
def ah_(c:aa G)(b:yD a.ms<yD gs)(j:yI gs (yD a.ms) bc=g)(k:g.kind=0->g.dr<yD xs)(f:Spec zZq G 83 [lM l,nat (yD a.ms),J5 (rM xs g),qx a] (J_ bk)):GH G l xs gs a o (lY 15) o:=by
 have i:=cE dK za b
 have h:=aq dK za b
 have e:=fO dK b bc;rw[j]at e;have d:=Hy (d:=l) (b:=gs) c k (Zl 1 o);refine kh.pick (R:=[a6 (wC l xs gs (wO 1 o)),KI o,a6 (Bm a),a6 (kg g)]) (C:=[0]) (N:=1) (o:=KI o) ?_ (by rw[xi (H:=o)];rfl) rfl za tR td rfl
 cases o<;>exact kh.xH c (az [83,84]) _ (B:=[]) (c:=60) [.eb 21 (De b),.er 37 (nat (yD a.ms)),zD i,zD h,.eq 39 e,.Js func84 d,zC f]
def ak4(d:aa G)(b:yD a.ms<yD gs)(n:yI gs (yD a.ms) bc=g)(p:g.kind=0->g.dr<yD xs)(h:Spec zZq G 83 [lM l,nat (yD a.ms),J5 (rM xs g),qx a] (J_ (a6 ss)))
  (k:aI zZq G 85 1 (.loop (ae f35 0)) (wL l xs gs a g (yD a.ms) ss o 0) (yu 0) (wE l xs gs [] o')):GH G l xs gs a o (zT .nilIface) o':=by
 have j:=cE dK za b
 have i:=aq dK za b
 have e:=fO dK b bc;rw[n]at e;have f:=Hy (d:=l) (b:=gs) d p (Zl 1 o);cases o' with
 |nil=>
  refine kh.pick (R:=[a6 (wC l xs gs (wO 1 []))]) (C:=[0]) (N:=1) (o:=KI []) ?_ (by rw[xi (H:=[])];rfl) rfl za tR td rfl
  cases o<;>exact kh.xH d (az [83,84]) _ (B:=[]) (c:=60) [.eb 21 (De b),.er 37 (nat (yD a.ms)),zD j,zD i,.eq 39 e,.Js func84 f,zC h,.code (aI.wg [(1,2),(2,3)] zt k)]
 |cons z c=>
  refine kh.pick (R:=[a6 (wC l xs gs (wO 3 (z::c))),bk,bk,KI (z::c)]) (C:=[0]) (N:=3) (o:=KI (z::c)) ?_ (by rw[xi (H:=z::c)];rfl) rfl za tR td rfl
  cases o<;>exact kh.xH d (az [83,84]) _ (B:=[]) (c:=60) [.eb 21 (De b),.er 37 (nat (yD a.ms)),zD j,zD i,.eq 39 e,.Js func84 f,zC h,.code (aI.wg [(1,2),(2,3)] zt k)]
def ah'(d:aa G)(b:yD a.ms<yD gs)(n:yI gs (yD a.ms) bc=g)(p:g.kind=0->g.dr<yD xs)(h:Spec zZq G 83 [lM l,nat (yD a.ms),J5 (rM xs g),qx a] (J_ (a6 ss)))
  (k:aI zZq G 85 1 (.loop (ae f35 0)) (wL l xs gs a g (yD a.ms) ss o 0) .ret (wE l xs gs [(4,lY 15)] o')):GH G l xs gs a o (lY 15) o':=by
 have j:=cE dK za b
 have i:=aq dK za b
 have e:=fO dK b bc;rw[n]at e;have f:=Hy (d:=l) (b:=gs) d p (Zl 1 o);cases o' with
 |nil=>
  refine kh.pick (R:=[a6 (wC l xs gs (wO 1 []))]) (C:=[0]) (N:=1) (o:=KI []) ?_ (by rw[xi (H:=[])];rfl) rfl za tR td rfl
  cases o<;>exact kh.xH d (az [83,84]) _ (B:=[]) (c:=60) [.eb 21 (De b),.er 37 (nat (yD a.ms)),zD j,zD i,.eq 39 e,.Js func84 f,zC h,.code (aI.wg [(1,2),(2,3)] zt k)]
 |cons z c=>
  refine kh.pick (R:=[a6 (wC l xs gs (wO 3 (z::c))),bk,bk,KI (z::c)]) (C:=[0]) (N:=3) (o:=KI (z::c)) ?_ (by rw[xi (H:=z::c)];rfl) rfl za tR td rfl
  cases o<;>exact kh.xH d (az [83,84]) _ (B:=[]) (c:=60) [.eb 21 (De b),.er 37 (nat (yD a.ms)),zD j,zD i,.eq 39 e,.Js func84 f,zC h,.code (aI.wg [(1,2),(2,3)] zt k)]
end
structure Road(G:bn->Prop)(l:Lk)(xs:ai Tn)(gs:ai Gp)(Q:aw->As->Prop):Prop where
 len:∀k a,Q k a->a.ms.length=k/\k<=gs.length
 leaf:∀a,Q gs.length a->Spec zZq G 82 [qx a] (qx a)
 dr:∀k<gs.length,(gs.getD k bc).kind=0->(gs.getD k bc).dr<xs.length
 sol:∀k a,Q k a->k<gs.length->Spec zZq G 83 [lM l,nat k,J5 (rM xs (gs.getD k bc)),qx a] (J_ (iX l a (gs.getD k bc) (rM xs (gs.getD k bc))))
 two:∀k a,Q k a->k<gs.length->∀ss,iX l a (gs.getD k bc) (rM xs (gs.getD k bc))=a6 ss->ss.length<=2
 next:∀k a,Q k a->k<gs.length->∀ss,iX l a (gs.getD k bc) (rM xs (gs.getD k bc))=a6 ss->∀s∈ss,Spec zZq G 85 [qx a,GpD (gs.getD k bc),Q6 s] (qx (a.put (gs.getD k bc) s))/\Q (k+1) (a.put (gs.getD k bc) s)
def KH{f:As->ai As->ai As×b5}{a:As}{g:Gp}{M B:aw}:∀{ss:ai uU}{o:ai As},(∀s∈ss,∀o,yD o+M<=B->(f (a.put g s) o).1.length<=yD o+M)->yD o+yD ss*M<=B->(qv f a g ss o).1.length<=yD o+yD ss*M
 |[],o,_,_=>by simp[qv]
 |s::ss,o,h,j=>by
  rw[aqO,aqk]at j⊢;have c:=h s (apw ..) o za;simp only[qv];cases i:f (a.put g s) o with
  |mk o1 b=>
   rw[i]at c;simp only at c;cases b with
   |true=>
    have:=KH (ss:=ss) (o:=o1) (λd e=>h d (apX _ e)) za;simp only;omega
   |false=>simp only;omega
def Ox(e:aa G){l:Lk}{xs:ai Tn}{gs:ai Gp}{Q:aw->As->Prop}(R:Road G l xs gs Q):∀(n k:aw)(a:As),Q k a->yD gs-k=n->∀o:ai As,yD o+2^n<=1000->
  GH G l xs gs a o (O6 (pG l xs (gs.drop k) a o).2) (pG l xs (gs.drop k) a o).1/\(pG l xs (gs.drop k) a o).1.length<=yD o+2^n
 |0,k,a,q,y,o,A=>by
  obtain⟨j,C⟩:=R.len k a q;obtain rfl:k=yD gs:=za
  rw[ar1];refine⟨V3 e o za j (R.leaf a q),?_⟩
  simp[pG]
 |n+1,k,a,q,y,o,A=>by
  obtain⟨j,C⟩:=R.len k a q;have d:k<yD gs:=za
  have F:2^(n+1)=2*2^n:=by rw[apK];omega
  have D:gs.drop k=yI gs k bc::gs.drop (k+1):=AI d bc;have c:=R.sol k a q d;have w:=R.two k a q d;have i:=R.next k a q d
  have p:=R.dr k d;rw[D];generalize z:yI gs k bc=g at c w i p⊢;have u:yD a.ms<yD gs:=by rw[j];exact d
  have v:yI gs (yD a.ms) bc=g:=by rw[j];exact z
  rw[<-j]at c;simp only[pG];cases m:iX l a g (rM xs g)with
  |none=>
   rw[m]at c;exact⟨ah_ e u v p c,ar3 _ _⟩
  |some ss=>
   rw[m]at c;have t2:=w ss m;have i:=i ss m;have sub:∀s∈ss,Spec zZq G 85 [qx a,GpD g,Q6 s] (qx (a.put g s))/\∀o,yD o+2^n<=1000->GH G l xs gs (a.put g s) o (O6 (pG l xs (gs.drop (k+1)) (a.put g s) o).2) (pG l xs (gs.drop (k+1)) (a.put g s) o).1/\(pG l xs (gs.drop (k+1)) (a.put g s) o).1.length<=yD o+2^n:=
    λs h=>⟨(i s h).1,λo t=>Ox e R n (k+1) _ (i s h).2 za o t⟩
   have hm:yD ss*2^n<=2*2^n:=apB _ t2;have r:=V0 (c:=yD a.ms) e za sub o (n:=1000) (e:=2^n) za
   have x:=KH (f:=pG l xs (gs.drop (k+1))) (a:=a) (g:=g) (B:=1000) (M:=2^n) (ss:=ss) (o:=o) (λs h o t=>((sub s h).2 o t).2) za
   simp only;cases hw:qv (pG l xs (gs.drop (k+1))) a g ss o with
   |mk E b=>
    rw[hw]at r x;simp only at x⊢;cases b with
    |true=>exact⟨ak4 e u v p c r,by omega⟩
    |false=>exact⟨ah' e u v p c r,by omega⟩
end Tw
open Go Go.RowKit Go.Proofs
def kh.bu{P:cp}{Good:bn->Prop}(h:kh P Good Z c q Q B r R C)(t:∀b cs,yI Q b bk=a6 cs->∀x∈cs,x.ref=bk):kh P Good Z c q Q [] r R C:=by intro f fn d w β X vals p o n m l k a j i e;refine h f fn d w β X vals p o n m l k ⟨a.defers,a.size,a.tmp,a.nd,a.blk,λb cs s x args u g=>?_,a.inj,a.F,a.uZ,a.oH,a.below,a.gh,a.i_,⟨a.kp.obj,a.kp.x,a.kp.lt,a.kp.off⟩⟩ j i e;rw[t b cs s x args]at g;cases g
namespace Tw
open fb
variable {G:bn->Prop}
def pl0:Pl:=⟨[],[],[],[]⟩
def iT(n:aw):As:=⟨[],⟨iq ((1:cA):cl),[],[],[]⟩::cd (n-1) pl0,[]⟩
def J':ai c7:=[47,38,36,35,28,86]
def roY:c7->ai aw:=λf=>if f=34 then [997,41]else []
variable {J:ai cA} (a:aa G) {b:ai Gp} {d:Lk} {f:ai Tn} {g:Pl} {h:Type} {i:cB} {s:ai Jt} {t:ai Dr}
def aeN{c:Bd}:iy zZq G f36 [z0 0 0] (wC ⟨i,[c],s,t⟩ f b (zK 0 bj [])) (qx (iT 1)) (wC ⟨i,[c],s,t⟩ f b (zK 0 bj [])):=
 iy.bK a (az J' roY) _ (ro:=[998]) (m:=60) [zC (dM a (i:=1) za za),zC (dL a u6)]
def aeM{d c:Bd}:iy zZq G f36 [z0 0 0] (wC ⟨i,[d,c],s,t⟩ f b (zK 0 bj [])) (qx (iT 2)) (wC ⟨i,[d,c],s,t⟩ f b (zK 0 bj [])):=
 iy.bK a (az J' roY) _ (ro:=[998]) (m:=60) [zC (dM a (i:=1) za za),zC (dL a u6)]
def aeL{e d c:Bd}:iy zZq G f36 [z0 0 0] (wC ⟨i,[e,d,c],s,t⟩ f b (zK 0 bj [])) (qx (iT 3)) (wC ⟨i,[e,d,c],s,t⟩ f b (zK 0 bj [])):=
 iy.bK a (az J' roY) _ (ro:=[998]) (m:=60) [zC (dM a (i:=1) za za),zC (dL a u6)]
def aeK{gs e d c:Bd}:iy zZq G f36 [z0 0 0] (wC ⟨i,[gs,e,d,c],s,t⟩ f b (zK 0 bj [])) (qx (iT 4)) (wC ⟨i,[gs,e,d,c],s,t⟩ f b (zK 0 bj [])):=
 iy.bK a (az J' roY) _ (ro:=[998]) (m:=60) [zC (dM a (i:=1) za za),zC (dL a u6)]
def aeJ{g gs e d c:Bd}:iy zZq G f36 [z0 0 0] (wC ⟨i,[g,gs,e,d,c],s,t⟩ f b (zK 0 bj [])) (qx (iT 5)) (wC ⟨i,[g,gs,e,d,c],s,t⟩ f b (zK 0 bj [])):=
 iy.bK a (az J' roY) _ (ro:=[998]) (m:=60) [zC (dM a (i:=1) za za),zC (dL a u6)]
def aeI{h g gs e d c:Bd}:iy zZq G f36 [z0 0 0] (wC ⟨i,[h,g,gs,e,d,c],s,t⟩ f b (zK 0 bj [])) (qx (iT 6)) (wC ⟨i,[h,g,gs,e,d,c],s,t⟩ f b (zK 0 bj [])):=
 iy.bK a (az J' roY) _ (ro:=[998]) (m:=60) [zC (dM a (i:=1) za za),zC (dL a u6)]
def ajF{l:ai h}(d:1<=yD l)(c:yD l<=6):(∃a,l=[a])\/2<=yD l:=by
 match l,d,c with
 |[a],_,_=>exact z1 ⟨a,rfl⟩
 |a::b::l,_,_=>exact z2 zb
def aeH(h:1<=yD d.bs)(e:yD d.bs<=6):iy zZq G f36 [z0 0 0] (wC d f b (zK 0 bj [])) (qx (iT (yD d.bs))) (wC d f b (zK 0 bj [])):=by
 obtain⟨j,n,k,m⟩:=d;rcases ajF h e with⟨l,rfl⟩|g
 exact aeN a;rcases BX g e with⟨l,c,rfl⟩|⟨l,c,gs,rfl⟩|⟨l,c,gs,xs,rfl⟩|⟨l,c,gs,xs,i,rfl⟩|⟨l,c,gs,xs,i,o,rfl⟩
 exact aeM a;exact aeL a;exact aeK a;exact aeJ a;exact aeI a
def Yb(d:yD J<=1000)(b:CnP G g):Spec zZq G 82 [qx ⟨[],[g],J⟩] (qx ⟨[],[g],J⟩):=
 Spec.abE (n:=0) (xs:=[]) (rest:=[aQ Hg [g],P' J]) (show Spec zZq G 82 [qx ⟨[],[g],J⟩] (z4 (zK 0 bj []::[aQ Hg [g],P' J]))from
 Spec.y a (az [146,147]) func82 [11] [zC (Jm a J d),zC b.1,zC b.2.1,zC b.2.2.1,zC b.2.2.2])
def adW:ai As×b5->D
 |(o,bj)=>.aP [aQ Bm o,zT .nilIface]
 |(_,aj)=>.aP [zK 0 aj [],lY 15]
def TnC(G:bn->Prop)(x:Tn):Prop:=Spec zZq G 38 [J5 x] (zT .nilIface)
def ahD{l:ai h}(α:yD l<=2):l=[]\/(∃a,l=[a])\/∃a b,l=[a,b]:=by
 match l,α with
 |[],_=>exact z1 rfl
 |[a],_=>exact z2 (z1 ⟨a,rfl⟩)
 |[a,b],_=>exact z2 (z2 ⟨a,b,rfl⟩)
def am3:ai As->b5->D
 |[],bj=>.aP [zK 0 aj [],zT .nilIface]
 |z::a,bj=>.aP [zK (z::a).length aj (((z::a).flatMap Bm).take ((z::a).length*3)),zT .nilIface]
 |[],aj=>.aP [zK 0 aj [],lY 15]
 |_::_,aj=>.aP [zK 0 aj [],lY 15]
def agP(o:ai As)(b:b5):adW (o,b)=am3 o b:=by
 have key:(o.flatMap Bm).take (yD o*3)=o.flatMap Bm:=by rw[apA];rw[dq vu];omega
 cases o<;>cases b<;>first|rfl|(simp only[am3];rw[key];rfl)
def am2(d:aa G){l:Lk}{xs:ai Tn}{gs:ai Gp}{r:ai As×b5}(sp:Spec zZq G 47 [lM l] (.aP [aQ kg gs,.lit .nilIface]))(c:xs.length=l.ds.length)(p:xs.length<=2)(e:∀x∈xs,TnC G x)(q:1<=l.bs.length)(n:l.bs.length<=6)
  (W:GH G l xs gs (iT l.bs.length) [] (O6 r.2) r.1):Spec zZq G 9 [lM l,aQ Y9 xs] (adW r):=by
 have st:=aeH (f:=xs) (b:=gs) d q n;obtain⟨a,b⟩:=r;have f:kh zZq G f35 1 [.ptr 0 0,qx (iT l.bs.length)] [a6 (wC l xs gs (.row 0 bj []))] [] (O6 b) [a6 (wC l xs gs (wO 1 a)),KI a] [0]:=by
  have j:kh zZq G f35 1 [.ptr 0 0,qx (iT l.bs.length)] [a6 (wC l xs gs (.row 0 bj []))] [0] (O6 b) [a6 (wC l xs gs (wO 1 a)),KI a] [0]:=
   kh.same W (λb=>(JL [a6 (wC l xs gs (.row 0 bj []))] b).symm) (λ_=>rfl)
  refine j.bu λb cs h x c=>?_
  have m:b=0:=by
   cases b with
   |zero=>rfl
   |succ b=>simp at h
  subst m;obtain rfl:=ap0 h;cases g:x.ref with
  |none=>rfl
  |some k=>
   exfalso;have:=tR (H:=[]) (N:=1) x c k g;have:=tR (H:=[]) (N:=2) x c k g;omega
 rw[agP];obtain rfl|⟨x0,rfl⟩|⟨x0,i,rfl⟩:=ahD p
 cases a<;>cases b<;>exact Spec.y d (az J' roY) func9 [2] [.call sp,.eb 24 (BY c),.a9 func36 st,.vr func35 f];cases a<;>cases b<;>exact Spec.y d (az J' roY) func9 [2] [.call sp,.eb 24 (BY c),.call (e x0 zb),.a9 func36 st,.vr func35 f];cases a<;>cases b<;>exact Spec.y d (az J' roY) func9 [2] [.call sp,.eb 24 (BY c),.call (e x0 zb),.call (e i zb),.a9 func36 st,.vr func35 f]
def Gn(l:Lk)(gs:ai Gp)(k:aw):Fn:=(gs.take k).foldl Fn.add (vU l)
structure Path(l:Lk)(gs:ai Gp):Prop where
 step:∀k<gs.length,tC l (Gn l gs k) (gs.getD k bc)
variable {j:Gp} {l m:Pt} {p:Fn}
def vR.list{t:Fn}(h:vR d p t):∃new,t.gs=p.gs++new/\t=new.foldl Fn.add p/\∀k<yD new,tC d ((new.take k).foldl Fn.add p) (yI new k bc):=by
 induction h with
 |stop h=>exact⟨[],by simp,rfl,λk a=>by simp at a⟩
 |step h r b=>
  rename_i p t g;obtain⟨new,e,l,c⟩:=b;refine⟨g::new,?_,l,λk a=>?_⟩;rw[e];show(p.gs++[g])++new=_;simp;cases k with
  |zero=>exact Dd h
  |succ k=>exact c k (by simpa using a)
def vR.path(h:vR d (vU d) p):Path d p.gs/\p=Gn d p.gs (yD p.gs):=by
 obtain⟨new,c,b,a⟩:=h.list;have e:p.gs=new:=by rw[c];rfl
 rw[e];exact⟨⟨a⟩,by rw[Gn,aqM];exact b⟩
def vX(h:c<yD b):Gn d b (c+1)=(Gn d b c).add (yI b c bc):=by
 unfold Gn;have e:b.take (c+1)=b.take c++[yI b c bc]:=by rw[aq6,apf,apj h];rfl
 rw[e,aqK];rfl
def yM(l:Lk)(gs:ai Gp):∀k≤yD gs,qt l (Gn l gs k)
 |0,_=>by rw[Gn,aqY];exact xY l
 |k+1,h=>by rw[vX za];exact(yM l gs k za).add _
def CO(m:ai b5)(i j:aw):(m.set i bj).getD j aj=if i=j/\i<yD m then bj else yI m j aj:=by rw[apf,apf,asP];by_cases h:i=j;subst h;by_cases a:i<yD m;simp[a];simp[a];simp[h]
def Di:∀(c:ai aw)(m:ai b5)(j:aw),(ef m c).getD j aj=bj↔yI m j aj=bj\/(j∈c/\j<yD m)
 |[],m,j=>by simp[ef]
 |i::c,m,j=>by
  show(ef (m.set i bj) c).getD j aj=bj↔_;rw[Di c,CO,apY,apo];by_cases h:i=j/\i<yD m
  ·obtain⟨rfl,b⟩:=h
   simp[b]
  ·rw[ape h]
   constructor
   ·rintro(a|⟨a,b⟩)
    ·exact z1 a
    ·exact z2 ⟨z2 a,b⟩
   ·rintro(a|⟨rfl|a,b⟩)
    ·exact z1 a
    ·exact api ⟨rfl,b⟩ h
    ·exact z2 ⟨a,b⟩
def Ge:∀(a:ai aw)(m:ai b5),a.Nodup->(∀i∈a,i<yD m/\yI m i aj=aj)->(ef m a).count aj+yD a<=m.count aj
 |[],m,_,_=>apc _
 |i::a,m,b,h=>by
  obtain⟨k,g⟩:=h i (apw ..);have n:=(count_set m i).2 k g;rw[List.nodup_cons]at b;have l:=Ge a (m.set i bj) b.2 λj c=>by
   obtain⟨f,d⟩:=h j (apX _ c);refine⟨by rw[apY];exact f,?_⟩
   rw[CO,ape (λe:i=j/\i<yD m=>b.1 (e.1▸c))];exact d
  show(ef (m.set i bj) a).count aj+(yD a+1)<=_;omega
def zV(l:Lk)(s:Fn):Prop:=∀j,yI s.used j aj=bj->yI s.known (yI l.js j bc).a aj=bj/\yI s.known (yI l.js j bc).b aj=bj
def pP{j:Jt}(h:ud j c=a6 e):(j.a=c/\j.b=e)\/(j.a=e/\j.b=c):=by unfold ud at h;split at h;rename_i a;cases h;exact z1 ⟨a.symm,rfl⟩;split at h;rename_i a;cases h;exact z2 ⟨rfl,a.symm⟩;cases h
def unused(hu:zV d p)(h:ud (yI d.js c bc) e=a6 n)(s:yI p.known e aj=aj):yI p.used c aj=aj:=by
 cases f:yI p.used c aj with
 |false=>rfl
 |true=>
  obtain⟨j,o⟩:=hu c f;rcases pP h with⟨a,-⟩|⟨-,a⟩
  rw[a,s]at j;cases j;rw[a,s]at o;cases o
def YM.Si(h:YM d p c e n):∃o,ud (yI d.js n bc) e=a6 o/\yI p.known o aj=bj:=h.2.2
def tC.ajJ(hu:zV d p)(h:tC d p j):j.js.Nodup/\∀l∈j.js,l<yD d.js/\yI p.used l aj=aj:=by
 cases h with
 |sO g body o8 Q n H f=>
  obtain⟨o,m,-⟩:=f.Si;exact⟨by simp,λj D=>by rw[apg]at D;subst D;exact⟨f.1,unused hu m H⟩⟩
 |pair i l a b c L D E J q n I O A=>
  obtain⟨o,m,y⟩:=q.Si;obtain⟨s,f,w⟩:=n.Si;have k:=fQ E;have C:=fQ J;have N:o≠i:=λe=>by rw[e,k]at y;cases y
  have M:o≠l:=λe=>by rw[e,C]at y;cases y
  have pi:s≠i:=λe=>by rw[e,k]at w;cases w
  have K:s≠l:=λe=>by rw[e,C]at w;cases w
  have B:a≠b:=λe=>by
   subst e;rcases pP m with⟨v,u⟩|⟨v,u⟩<;>rcases pP f with⟨t,r⟩|⟨t,r⟩<;>omega
  have G:a≠c:=λe=>by
   subst e;rcases pP m with⟨v,u⟩|⟨v,u⟩<;>rcases pP A with⟨t,r⟩|⟨t,r⟩<;>omega
  have F:b≠c:=λe=>by
   subst e;rcases pP f with⟨v,u⟩|⟨v,u⟩<;>rcases pP A with⟨t,r⟩|⟨t,r⟩<;>omega
  refine⟨by simp[B,G,F],λx z=>?_⟩
  simp only[b4,bI,or_false]at z;obtain rfl|rfl|rfl:=z
  ·exact⟨q.1,unused hu m k⟩
  ·exact⟨n.1,unused hu f C⟩
  ·exact⟨I,unused hu A k⟩
 |single i a b P E q n=>
  obtain⟨o,m,y⟩:=q.Si;obtain⟨s,f,w⟩:=n.Si;have k:=fQ E;have B:a≠b:=λe=>by
   subst e;have S:=q.2.1;have R:=n.2.1;omega
  refine⟨by simp[B],λx z=>?_⟩
  simp only[b4,bI,or_false]at z;obtain rfl|rfl:=z
  ·exact⟨q.1,unused hu m k⟩
  ·exact⟨n.1,unused hu f k⟩
def tC.adF(n:g7 d)(h:tC d p j):j.bs.Nodup/\∀b∈j.bs,b<yD d.bs/\yI p.known b aj=aj:=by
 cases h with
 |sO g body o8 q f m y=>exact⟨by simp,λx e=>by rw[apg]at e;subst e;exact⟨by rw[<-f];exact n.body _ (aA q _),m⟩⟩
 |pair i l a b c u o k t r f z w v=>
  refine⟨by simp;omega,λx e=>?_⟩;simp only[b4,bI,or_false]at e;obtain rfl|rfl:=e
  exact⟨by omega,fQ k⟩;exact⟨o,fQ t⟩
 |single i a b s k r f=>exact⟨by simp,λx e=>by rw[apg]at e;subst e;exact⟨s,fQ k⟩⟩
def tC.ends(h:tC d p j):∀l∈j.js,(yI p.known (yI d.js l bc).a aj=bj\/(yI d.js l bc).a∈j.bs)/\(yI p.known (yI d.js l bc).b aj=bj\/(yI d.js l bc).b∈j.bs):=by
 have key:∀{l b:aw}{q:ai aw},b∈q->(∃o,ud (yI d.js l bc) b=a6 o/\yI p.known o aj=bj)->(yI p.known (yI d.js l bc).a aj=bj\/(yI d.js l bc).a∈q)/\(yI p.known (yI d.js l bc).b aj=bj\/(yI d.js l bc).b∈q):=λt ⟨o,w,r⟩=>by
  rcases pP w with⟨f,e⟩|⟨f,e⟩
  exact⟨z2 (f▸t),z1 (e▸r)⟩;exact⟨z1 (f▸r),z2 (e▸t)⟩
 cases h with
 |sO g body o8 D m B v=>exact λj n=>by rw[apg]at n;subst n;exact key zb v.Si
 |pair i l a b c z n y F s m E A u=>
  intro x k;simp only[b4,bI,or_false]at k;obtain rfl|rfl|rfl:=k
  exact key zb s.Si;exact key zb m.Si;rcases pP u with⟨f,e⟩|⟨f,e⟩
  exact⟨z2 (by rw[f];simp),z2 (by rw[e];simp)⟩;exact⟨z2 (by rw[f];simp),z2 (by rw[e];simp)⟩
 |single i a b C y s m=>
  intro x k;simp only[b4,bI,or_false]at k;obtain rfl|rfl:=k
  exact key zb s.Si;exact key zb m.Si
def m9(a:qt d p)(g:Gp)(i:aw):(p.add g).known.getD i aj=bj↔yI p.known i aj=bj\/(i∈g.bs/\i<yD d.bs):=by
 rw[<-a.k];exact Di g.bs p.known i
def zV.add{l:Lk}{s:Fn}{g:Gp}(e:g7 l)(c:qt l s)(hu:zV l s)(h:tC l s g):zV l (s.add g):=λj i=>by
 rcases(Di g.js s.used j).1 i with d|⟨d,f⟩
 ·obtain⟨a,b⟩:=hu j d
  exact⟨(m9 c g _).2 (z1 a),(m9 c g _).2 (z1 b)⟩
 ·obtain⟨a,b⟩:=h.ends j d
  rw[c.u]at f;have hm:=aA f (bc:Jt);exact⟨(m9 c g _).2 (a.imp id λq=>⟨q,e.a _ hm⟩),(m9 c g _).2 (b.imp id λq=>⟨q,e.b _ hm⟩)⟩
def Qr(l:Lk):zV l (vU l):=λj a=>by
 have:(vU l).used.getD j aj=aj:=by show(cd (yD l.js) aj).getD j aj=aj;rw[apf,aqy];split<;>rfl
 rw[this]at a;cases a
def Path.used{l:Lk}{gs:ai Gp}(a:g7 l)(P:Path l gs):∀k≤yD gs,zV l (Gn l gs k)
 |0,_=>by rw[Gn,aqY];exact Qr l
 |k+1,h=>by rw[vX za];exact(P.used a k za).add a (yM l gs k za) (P.step k za)
def isD(g:Gp):b5:=g.kind==0
def isP(g:Gp):b5:=g.kind==1
def wt(g:Gp):aw:=if g.kind=0 then 1 else if g.kind=1 then 3 else 2
def Uq:eO d c e=2\/eO d c e=3:=by unfold eO;split<;>simp
def tC.wt{l:Lk}{s:Fn}{g:Gp}(h:tC l s g):yD g.js=wt g:=by
 cases h with
 |sO=>rfl
 |pair=>rfl
 |single i a b c f e d=>
  show 2=if eO l i b=0 then 1 else if eO l i b=1 then 3 else 2
  rcases Uq (d:=l) (c:=i) (e:=b)with h|h<;>rw[h]<;>rfl
def Ze:∀gs:ai Gp,(gs.map wt).sum=gs.countP isD+2*gs.countP (λg=>!isD g)+gs.countP isP
 |[]=>rfl
 |g::gs=>by have c:=Ze gs;rw[are,List.sum_cons,ark,ark,ark,c];unfold isD isP wt;by_cases b:g.kind=0;simp[b];omega;by_cases a:g.kind=1;simp[a];omega;simp[b,a];omega
def LZ{α:Type}{p q:α->b5}:∀{l:ai α},(∀x∈l,q x=bj->p x=bj)->(∃x∈l,p x=bj/\q x=aj)->l.countP q+1<=l.countP p
 |[],_,⟨_,h,_⟩=>by cases h
 |y::l,d,⟨x,g,f,e⟩=>by
  have mono:l.countP q<=l.countP p:=aso λz b=>d z (apX _ b)
  rw[ark,ark];by_cases a:p y=bj/\q y=aj;rw[a.1,a.2];simp;omega;have c:x∈l:=by
   obtain rfl|h:=apo.1 g
   exact api ⟨f,e⟩ a;exact h
  have j:=LZ (l:=l) (λz b=>d z (apX _ b)) ⟨x,c,f,e⟩;have:=d y (apw ..);cases i:q y;simp;split<;>omega;rw[i]at this;rw[this rfl];simp;omega
def Lj(l:Lk)(s:Fn):aw:=l.ds.countP λd=>!s.known.getD d.body aj
def WW{l:Lk}{s:Fn}{g:Gp}(a:qt l s):Lj l (s.add g)<=Lj l s:=
 aso λd _ h=>by
  cases b:s.known.getD d.body aj with
  |false=>rfl
  |true=>
   have:=(m9 a g d.body).2 (.inl b);rw[this]at h;cases h
def WV(m:g7 d)(f:qt d p)(h:tC d p j)(c:j.kind=0):Lj d (p.add j)+1<=Lj d p:=by
 cases h with
 |sO g body o8 n e k s=>
  have hm:=aA n (bc:Dr);refine LZ (λx o l=>?_) ⟨_,hm,by rw[e,k];rfl,?_⟩
  ·cases c:yI p.known x.body aj with
   |false=>rfl
   |true=>
    have:=(m9 f ⟨0,[body],[o8],g⟩ x.body).2 (z1 c);rw[this]at l;cases l
  ·have:=(m9 f ⟨0,[body],[o8],g⟩ body).2 (z2 ⟨by simp,by rw[<-e];exact m.body _ hm⟩)
   rw[e,this];rfl
 |pair=>cases c
 |single i a b q t r e=>
  have c:eO d i b=0:=c;rcases Uq (d:=d) (c:=i) (e:=b)with h|h<;>omega
def HJ[ka h]{gs:ai h}(α:c<yD gs):gs.take (c+1)=gs.take c++[yI gs c bc]:=by rw[aq6,apf,apj α];rfl
def Path.Vw{l:Lk}{gs:ai Gp}(a:g7 l)(P:Path l gs):∀k≤yD gs,((gs.take k).map wt).sum+(Gn l gs k).used.count aj<=yD l.js/\(gs.take k).countP isD+Lj l (Gn l gs k)<=yD l.ds/\k+(Gn l gs k).known.count aj+1<=yD l.bs
 |0,_=>by
  rw[Gn,aqY];refine⟨?_,?_,?_⟩
  ·have:(vU l).used.count aj<=(vU l).used.length:=asA
   rw[(xY l).u]at this;simpa using this
  ·have:Lj l (vU l)<=yD l.ds:=List.countP_le_length
   simpa using this
  ·have p:=(count_set (cd (yD l.bs) aj) 0).2 (by simpa using a.b0) (by rw[apf,aqy];split<;>rfl)
   have o:(cd (yD l.bs) aj).count aj<=yD l.bs:=apm asA zb
   show 0+((cd (yD l.bs) aj).set 0 bj).count aj+1<=_;omega
 |k+1,h=>by
  have d:k<yD gs:=za
  obtain⟨p,o,r⟩:=P.Vw a k za
  have b:=yM l gs k za
  have c:=P.step k d;have hu:=P.used a k za
  obtain⟨n,i⟩:=c.ajJ hu;have q:=Ge _ _ n λj m=>⟨by rw[b.u];exact(i j m).1,(i j m).2⟩
  have hw:=c.wt;have s:=c.less a b;rw[vX d,HJ d,aqp,List.sum_append,asd];generalize yI gs k bc=g at*;refine⟨?_,?_,by omega⟩
  ·show((gs.take k).map Tw.wt).sum+([g].map Tw.wt).sum+(ef (Gn l gs k).used g.js).count aj<=_
   simp only[eZ,fB,List.sum_cons,List.sum_nil];omega
  ·rw[ark,List.countP_nil]
   by_cases f:g.kind=0
   ·have:=WV a b c f
    have e:isD g=bj:=by unfold isD;rw[f];rfl
    rw[e];simp;omega
   ·have:=WW (g:=g) b
    have e:isD g=aj:=by unfold isD;simpa using f
    rw[e];simp;omega
def mS(gs:ai Gp)(k:aw):aw:=(gs.take k).countP λg=>!isD g
def Cv(gs:ai Gp)(k:aw):aw:=(gs.take k).countP isD
def prN(gs:ai Gp)(k:aw):aw:=(gs.take k).countP isP
def Path.counts(a:g7 d)(P:Path d b):Cv b (yD b)+2*mS b (yD b)+prN b (yD b)<=yD d.js/\Cv b (yD b)<=yD d.ds/\yD b+1<=yD d.bs:=by obtain⟨l,gs,c⟩:=P.Vw a (yD b) (apc _);rw[Ze]at l;exact⟨by unfold Cv mS prN;omega,by unfold Cv;omega,by omega⟩
def abn(h:c<=e):mS b c<=mS b e:=(ar0 h).countP_le
def ac1(h:c<=e):Cv b c<=Cv b e:=(ar0 h).countP_le
def aay(h:c<=e):prN b c<=prN b e:=(ar0 h).countP_le
def FA(h:c<yD b):mS b (c+1)=mS b c+(if(yI b c bc).kind=0 then 0 else 1)/\Cv b (c+1)=Cv b c+(if(yI b c bc).kind=0 then 1 else 0)/\prN b (c+1)=prN b c+(if(yI b c bc).kind=1 then 1 else 0):=by unfold mS Cv prN;rw[HJ h,asd,asd,asd];unfold isD isP;refine⟨?_,?_,?_⟩;by_cases a:(yI b c bc).kind=0<;>simp[a];by_cases a:(yI b c bc).kind=0<;>simp[a];by_cases a:(yI b c bc).kind=1<;>simp[a]
def nA:aw->aw
 |0=>1
 |1=>80658
 |2=>10981814
 |3=>3338818642
 |_+4=>0
def eA:aw->aw
 |0=>1
 |1=>22967
 |2=>1151631
 |3=>153685747
 |_+4=>0
def nS:aw->aw
 |0=>1
 |1=>9371
 |2=>1016587
 |3=>255475801
 |4=>135756973018
 |_+5=>0
def eS:aw->aw
 |0=>1
 |1=>2100
 |2=>127149
 |3=>14235545
 |4=>3578191389
 |_+5=>0
def acQ:ig 64 1567 1 0 80658 22967 bj:=by refine⟨⟨1697,6791,20891,6791,60464,62162,63455,?_⟩,⟨1697,6791,8343,6791,39137,14099,40430,15392,?_⟩,λ_=>⟨1697,6791,7827,22966,6793,6793,14620,19713,29762,75840,77538,78831,?_⟩⟩<;>constructor<;>decide+kernel
def acP:ig 64 82224 22967 0 10981814 1151631 bj:=by refine⟨⟨82354,329419,988775,329419,2929391,3011746,3013039,?_⟩,⟨82354,329419,330971,329419,1721175,659355,1722468,660648,?_⟩,λ_=>⟨82354,329419,330455,990850,329421,329421,659876,906940,1343240,3428709,3511064,3512357,?_⟩⟩<;>constructor<;>decide+kernel
def acO:ig 64 82224 22967 1 10981814 1151631 bj:=by refine⟨⟨82354,352388,1103620,1455490,8814477,8896832,8898125,?_⟩,⟨82354,352388,399878,1455490,5591049,1854333,5592342,1855626,?_⟩,λ_=>⟨82354,352388,353424,1128664,375359,1547374,1923767,2193800,5002273,10815682,10898037,10899330,?_⟩⟩<;>constructor<;>decide+kernel
def acN:ig 64 10983380 1151631 0 3338818642 153685747 bj:=by refine⟨⟨10983510,43934043,131802647,43934043,386727179,397710690,397711983,?_⟩,⟨10983510,43934043,43935595,43934043,223130287,87868603,223131580,87869896,?_⟩,λ_=>⟨10983510,43934043,43935079,131804722,43934045,43934045,87869124,120819656,176890400,452633433,463616944,463618237,?_⟩⟩<;>constructor<;>decide+kernel
def acM:ig 64 10983380 1151631 1 3338818642 153685747 bj:=by refine⟨⟨10983510,45085676,137560812,182645970,1092956849,1103940360,1103941653,?_⟩,⟨10983510,45085676,47390494,182645970,663459673,230035429,663460966,230036722,?_⟩,λ_=>⟨10983510,45085676,45086712,138714520,46237311,187252510,233490855,267593020,606850969,1316009470,1326992981,1326994274,?_⟩⟩<;>constructor<;>decide+kernel
def acL:ig 64 10983380 1151631 2 3338818642 153685747 bj:=by refine⟨⟨10983510,47388942,149077142,493467181,2677009506,2687993017,2687994310,?_⟩,⟨10983510,47388942,54300292,493467181,1701892166,547766438,1701893459,547767731,?_⟩,λ_=>⟨10983510,47388942,47389978,152534116,50843843,528016191,578861068,615266499,1603816434,3316850198,3327833709,3327835002,?_⟩⟩<;>constructor<;>decide+kernel
def acK:ig 64 1 1 0 9371 2100 aj:=by refine⟨⟨131,527,2099,527,5654,5786,7079,?_⟩,⟨131,527,2079,527,7817,1571,9110,2864,?_⟩,λh=>by cases h⟩<;>constructor<;>decide+kernel
def acJ:ig 64 9371 2100 0 1016587 127149 aj:=by refine⟨⟨9501,38007,114539,38007,337802,347304,348597,?_⟩,⟨9501,38007,39559,38007,201514,76531,202807,77824,?_⟩,λh=>by cases h⟩<;>constructor<;>decide+kernel
def acI:ig 64 9371 2100 1 1016587 127149 aj:=by refine⟨⟨9501,40109,125049,164640,996161,1005663,1006956,?_⟩,⟨9501,40109,45865,164640,634867,209470,636160,210763,?_⟩,λh=>by cases h⟩<;>constructor<;>decide+kernel
def acH:ig 64 1016587 127149 0 255475801 14235545 aj:=by refine⟨⟨1016717,4066871,12201131,4066871,35840460,36857178,36858471,?_⟩,⟨1016717,4066871,4068423,4066871,20720981,8134259,20722274,8135552,?_⟩,λh=>by cases h⟩<;>constructor<;>decide+kernel
def acG:ig 64 1016587 127149 1 255475801 14235545 aj:=by refine⟨⟨1016717,4194022,12836886,17030390,102058788,103075506,103076799,?_⟩,⟨1016717,4194022,4449876,17030390,62291021,21479231,62292314,21480524,?_⟩,λh=>by cases h⟩<;>constructor<;>decide+kernel
def acF:ig 64 1016587 127149 2 255475801 14235545 aj:=by refine⟨⟨1016717,4448324,14108396,46644807,253440943,254457661,254458954,?_⟩,⟨1016717,4448324,5212782,46644807,162850788,51856554,162852081,51857847,?_⟩,λh=>by cases h⟩<;>constructor<;>decide+kernel
def acE:ig 64 255475801 14235545 0 135756973018 3578191389 aj:=by refine⟨⟨255475931,1021903727,3065711699,1021903727,8970129742,9225605674,9225606967,?_⟩,⟨255475931,1021903727,1021905279,1021903727,5152230449,2043807971,5152231742,2043809264,?_⟩,λh=>by cases h⟩<;>constructor<;>decide+kernel
def acD:ig 64 255475801 14235545 1 135756973018 3578191389 aj:=by refine⟨⟨255475931,1036139274,3136889434,4173028190,24882345146,25137821078,25137822371,?_⟩,⟨255475931,1036139274,1064611920,4173028190,14904559637,5237639075,14904560930,5237640368,?_⟩,λh=>by cases h⟩<;>constructor<;>decide+kernel
def acC:ig 64 255475801 14235545 2 135756973018 3578191389 aj:=by refine⟨⟨255475931,1064610368,3279244904,10888107979,58827872457,59083348389,59083349682,?_⟩,⟨255475931,1064610368,1150025202,10888107979,36359487952,12038132146,36359489245,12038133439,?_⟩,λh=>by cases h⟩<;>constructor<;>decide+kernel
def acB:ig 64 255475801 14235545 3 135756973018 3578191389 aj:=by refine⟨⟨255475931,1121552556,3563955844,26012297650,135246019732,135501495664,135501496957,?_⟩,⟨255475931,1121552556,1320851766,26012297650,87113130979,27333148381,87113132272,27333149674,?_⟩,λh=>by cases h⟩<;>constructor<;>decide+kernel
def aov:∀m k:aw,m<3->k<=m->ig 64 (nA m+1566) (eA m) k (nA (m+1)) (eA (m+1)) bj
 |0,0,_,_=>acQ
 |1,0,_,_=>acP
 |1,1,_,_=>acO
 |2,0,_,_=>acN
 |2,1,_,_=>acM
 |2,2,_,_=>acL
 |0,k+1,_,h=>api h za
 |1,k+2,_,h=>api h za
 |2,k+3,_,h=>api h za
 |m+3,_,h,_=>api h za
def aou:∀m k:aw,m<4->k<=m->ig 64 (nS m) (eS m) k (nS (m+1)) (eS (m+1)) aj
 |0,0,_,_=>acK
 |1,0,_,_=>acJ
 |1,1,_,_=>acI
 |2,0,_,_=>acH
 |2,1,_,_=>acG
 |2,2,_,_=>acF
 |3,0,_,_=>acE
 |3,1,_,_=>acD
 |3,2,_,_=>acC
 |3,3,_,_=>acB
 |0,k+1,_,h=>api h za
 |1,k+2,_,h=>api h za
 |2,k+3,_,h=>api h za
 |3,k+4,_,h=>api h za
 |m+4,_,h,_=>api h za
def JP(δ k:aw):Prop:=sb δ k δ<=NB/\tb δ k<=MB/\sb δ k 1<=NB/\ib δ k 1<=MB
instance(δ k:aw):vp (JP δ k):=by unfold JP;infer_instance
def ann:∀m≤3,∀k≤m,JP (eA m) k:=zy
def anm:∀m≤4,∀k≤m,JP (eS m) k:=zy
def JZ(n δ k:aw):Prop:=8*n+2000<=MB/\sb δ k (16*n+4*tb δ k+4000)<=NB/\8*n+2*tb δ k+4000<=MB
instance(n δ k:aw):vp (JZ n δ k):=by unfold JZ;infer_instance
def aoB:∀m≤3,∀k≤m,JZ (nA m+1566) (eA m) k:=zy
def aoA:∀m≤4,∀k≤m,JZ (nS m) (eS m) k:=zy
def ag_:∀m<3,nA m+1566<=nA (m+1)/\eA m<=eA (m+1):=zy
def ag9:∀m<4,nS m<=nS (m+1)/\eS m<=eS (m+1):=zy
def aoD:∀m≤3,∀d<2,nA m+783*(d+1)<=MB:=zy
open fb zY dH
set_option synthInstance.maxSize 100000
set_option synthInstance.maxHeartbeats 2000000
def fx(k:aw)(p:Pt):Prop:=Sh k p.1/\Sh k p.2
def fx.mono{k m:aw}{p:Pt}(h:fx k p)(a:k<=m):fx m p:=⟨h.1.mono a,h.2.mono a⟩
def fx.sub{k:aw}{p q:Pt}(h:fx k p)(a:fx k q):fx k (fS p q):=⟨h.1.sub a.1,h.2.sub a.2⟩
def fx.of(k:aw)(x y:cl):fx k (yC x y):=⟨Sh.l7 _ _,Sh.l7 _ _⟩
def fx.along{t:aM}(c:eJ (yD t) t){a:ai cl}(h:fx (yD t) l)(b:Sh (yD t) a)(d:fx (yD t) m):fx (yD t) (cM t l a m):=⟨h.1.add (Sh.mul c b d.1),h.2.add (Sh.mul c b d.2)⟩
section
variable {K:Type} [dH K] (ι:pD cl K) (s:aw->K) {t:aM}
def tS(c:eJ (yD t) t)(d:Model ι s t (yD t))(b:fx (yD t) l)(a:fx (yD t) m):vl ι s t (vP t l m)=vl ι s t l.1*vl ι s t m.1+vl ι s t l.2*vl ι s t m.2:=by unfold vP;rw[qD ι s (Sh.mul c b.1 a.1) (Sh.mul c b.2 a.2),cZ ι s c d b.1 a.1,cZ ι s c d b.2 a.2]
def Cz(c:eJ (yD t) t)(d:Model ι s t (yD t))(b:fx (yD t) l)(a:fx (yD t) m):vl ι s t (qZ t l m)=vl ι s t l.1*vl ι s t m.2-vl ι s t l.2*vl ι s t m.1:=by unfold qZ;rw[dU ι s (Sh.mul c b.1 a.2) (Sh.mul c b.2 a.1),cZ ι s c d b.1 a.2,cZ ι s c d b.2 a.1]
def Sh.dot(c:eJ (yD t) t)(b:fx (yD t) l)(a:fx (yD t) m):Sh (yD t) (vP t l m):=Sh.add (Sh.mul c b.1 a.1) (Sh.mul c b.2 a.2)
def Sh.qw(c:eJ (yD t) t)(b:fx (yD t) l)(a:fx (yD t) m):Sh (yD t) (qZ t l m):=Sh.sub (Sh.mul c b.1 a.2) (Sh.mul c b.2 a.1)
def qC(c:eJ (yD t) t)(f:Model ι s t (yD t)){a:ai cl}(h:fx (yD t) l)(b:Sh (yD t) a)(d:fx (yD t) m):vl ι s t (cM t l a m).1=vl ι s t l.1+vl ι s t a*vl ι s t m.1:=by
 have e:(cM t l a m).1=oX l.1 (mulL t a m.1):=by simp only[cM]
 rw[e,qD ι s h.1 (Sh.mul c b d.1),cZ ι s c f b d.1]
def qB(c:eJ (yD t) t)(f:Model ι s t (yD t)){a:ai cl}(h:fx (yD t) l)(b:Sh (yD t) a)(d:fx (yD t) m):vl ι s t (cM t l a m).2=vl ι s t l.2+vl ι s t a*vl ι s t m.2:=by
 have e:(cM t l a m).2=oX l.2 (mulL t a m.2):=by simp only[cM]
 rw[e,qD ι s h.2 (Sh.mul c b d.2),cZ ι s c f b d.2]
def xG{q:cl}(h:q≠0):ι.φ q≠0:=λe=>by have:=Nm ι h;rw[e,bB]at this;exact ub j_ this.symm
def aaK(u:V2):ι.φ u.sq=ι.φ u.x*ι.φ u.x+ι.φ u.y*ι.φ u.y:=by unfold V2.sq;rw[ι.add,ι.mul,ι.mul]
structure vB(t:aM)(b:Pl)(u:V2)(w1 w2:K)(p:V2)(o1 o2:K):Prop where
 hc:vl ι s t b.c*ι.φ u.sq=ι.φ u.x*w1+ι.φ u.y*w2
 hs:vl ι s t b.s*ι.φ u.sq=ι.φ u.x*w2-ι.φ u.y*w1
 hx:vl ι s t b.x=o1-(vl ι s t b.c*ι.φ p.x-vl ι s t b.s*ι.φ p.y)
 hy:vl ι s t b.y=o2-(vl ι s t b.s*ι.φ p.x+vl ι s t b.c*ι.φ p.y)
structure Cj(k:aw)(b:Pl):Prop where
 c:Sh k b.c
 s:Sh k b.s
 x:Sh k b.x
 y:Sh k b.y
variable {U X:V2}
def N6(a:eJ (yD t) t)(hw:fx (yD t) l)(c:fx (yD t) m):Cj (yD t) (s_ t U l X m):=by have b:Sh (yD t) (D3 t U l):=Sh.div a (Sh.dot a (fx.of _ _ _) hw) (Sh.l7 _ _);have s1:Sh (yD t) (D2 t U l):=Sh.div a (Sh.qw a (fx.of _ _ _) hw) (Sh.l7 _ _);exact⟨b,s1,c.1.sub ((Sh.mul a b (Sh.l7 _ _)).sub (Sh.mul a s1 (Sh.l7 _ _))),c.2.sub ((Sh.mul a s1 (Sh.l7 _ _)).add (Sh.mul a b (Sh.l7 _ _)))⟩
def tx(a:eJ (yD t) t)(b:Model ι s t (yD t))(hw:fx (yD t) l)(e:fx (yD t) m)(hu:U.sq≠0):vB ι s t (s_ t U l X m) U (vl ι s t l.1) (vl ι s t l.2) X (vl ι s t m.1) (vl ι s t m.2):=by
 have d1:Sh (yD t) (vP t (mQ U) l):=Sh.dot a (fx.of _ _ _) hw;have d2:Sh (yD t) (qZ t (mQ U) l):=Sh.qw a (fx.of _ _ _) hw;have c:Sh (yD t) (D3 t U l):=Sh.div a d1 (Sh.l7 _ _);have s1:Sh (yD t) (D2 t U l):=Sh.div a d2 (Sh.l7 _ _);have d:vl ι s t (iq U.sq)≠0:=by rw[gV];exact xG ι hu
 refine⟨?_,?_,?_,?_⟩
 ·have:=lD ι s a b d1 (Sh.l7 (yD t) U.sq) d
  rw[tS ι s a b (l:=mQ U) (fx.of _ _ _) hw,gV]at this;simp only[mQ,yC,gV]at this;exact this
 ·have:=lD ι s a b d2 (Sh.l7 (yD t) U.sq) d
  rw[Cz ι s a b (l:=mQ U) (fx.of _ _ _) hw,gV]at this;simp only[mQ,yC,gV]at this;exact this
 ·show vl ι s t (g8 m.1 (g8 (mulL t (D3 t U l) (iq X.x)) (mulL t (D2 t U l) (iq X.y))))=_
  rw[dU ι s e.1 ((Sh.mul a c (Sh.l7 _ _)).sub (Sh.mul a s1 (Sh.l7 _ _))),dU ι s (Sh.mul a c (Sh.l7 _ _)) (Sh.mul a s1 (Sh.l7 _ _)),cZ ι s a b c (Sh.l7 _ _),cZ ι s a b s1 (Sh.l7 _ _),gV,gV];rfl
 ·show vl ι s t (g8 m.2 (oX (mulL t (D2 t U l) (iq X.x)) (mulL t (D3 t U l) (iq X.y))))=_
  rw[dU ι s e.2 ((Sh.mul a s1 (Sh.l7 _ _)).add (Sh.mul a c (Sh.l7 _ _))),qD ι s (Sh.mul a s1 (Sh.l7 _ _)) (Sh.mul a c (Sh.l7 _ _)),cZ ι s a b c (Sh.l7 _ _),cZ ι s a b s1 (Sh.l7 _ _),gV,gV];rfl
def vV(b:Pl)(t:aM)(m:V2):K×K:=(vl ι s t b.c*ι.φ m.x-vl ι s t b.s*ι.φ m.y+vl ι s t b.x,vl ι s t b.s*ι.φ m.x+vl ι s t b.c*ι.φ m.y+vl ι s t b.y)
def adO(a:eJ (yD t) t)(c:Model ι s t (yD t))(h:Cj (yD t) g)(m:V2):(vl ι s t (J4 t g m.x m.y).1,vl ι s t (J4 t g m.x m.y).2)=vV ι s g t m:=by unfold vV;rw[Zn ι s a c h.c h.s h.x,Zm ι s a c h.c h.s h.y]
def vB.unit{c a o1 o2:K}(h:vB ι s t g U c a X o1 o2)(hu:U.sq≠0)(hw:c*c+a*a=ι.φ U.sq):vl ι s t g.c*vl ι s t g.c+vl ι s t g.s*vl ι s t g.s=1/\vl ι s t g.c*ι.φ U.x-vl ι s t g.s*ι.φ U.y=c/\vl ι s t g.s*ι.φ U.x+vl ι s t g.c*ι.φ U.y=a:=
 aiF (aaK ι U) (xG ι hu) h.hc h.hs hw
def vB.o8{b:Pl}{d a o1 o2:K}(h:vB ι s t b U d a X o1 o2):vV ι s b t X=(o1,o2):=by unfold vV;rw[h.hx,h.hy];generalize vl ι s t b.c=c;generalize vl ι s t b.s=σ;generalize ι.φ X.x=x;generalize ι.φ X.y=y;exact Prod.ext (rg [c,σ,x,y,o1]) (rg [c,σ,x,y,o2])
def vB.far{q:V2}{d a o1 o2:K}(h:vB ι s t g U d a X o1 o2)(hu:U.sq≠0)(hw:d*d+a*a=ι.φ U.sq)(j:U=q.sub X):vV ι s g t q=(o1+d,o2+a):=by obtain⟨-,f,e⟩:=h.unit ι s hu hw;subst j;unfold vV;rw[h.hx,h.hy];simp only[V2.sub]at f e;rw[ι.sub,ι.sub]at f e;rw[<-f,<-e];generalize vl ι s t g.c=c;generalize vl ι s t g.s=σ;generalize ι.φ X.x=x;generalize ι.φ X.y=y;generalize ι.φ q.x=i;generalize ι.φ q.y=p;exact Prod.ext (rg [c,σ,x,y,i,p,o1]) (rg [c,σ,x,y,i,p,o2])
def Model.base{d:ai cl}(a:Model ι s (mK t d) (mK t d).length):Model ι s t (yD t)/\s (yD t)*s (yD t)=vl ι s t d:=by have c:(mK t d).length=yD t+1:=bW d;rw[c]at a;refine⟨⟨λk b=>a.nn k za,λk b=>?_⟩,?_⟩;have:=a.sq k za;rw[mK,apf,aqe b,<-apf]at this;exact this;have:=a.sq (yD t) za;rw[mK,apf,apS (apc _),asw]at this;rw[this];show lv ι s (yD t) (aZ d (2^yD t))=_;rw[Ao];rfl
def te(d:ai cl):vl ι s (mK t d) (cg (yD t))=s (yD t):=by
 unfold vl cg;rw[bW,Lu ι s (fy [] _),Ao,BV,iD];have e:lv ι s (yD t) ((1:cl)::aZ [] (2^yD t-1))=1:=by
  have:lv ι s (yD t) ((1:cl)::aZ [] (2^yD t-1))=lv ι s (yD t) [1]:=ahv ι s λi=>by
   cases i with
   |zero=>rfl
   |succ i=>
    rw[aru,lh];simp
  rw[this];have a:=gV ι s (t:=t) 1;unfold vl iq at a;rw[n9 ι s (Sh.single 0 1)]at a;rw[a,ι.one]
 rw[e,yY]
def iE(d:ai cl){a:ai cl}(h:Sh (yD t) a):vl ι s (mK t d) a=vl ι s t a:=aeq ι s h
def oN(b:eJ (yD t) t)(d:ai cl):eJ (mK t d).length (mK t d):=λj a=>by
 rw[bW]at a;obtain h|h:=apy j (yD t)
 rw[mK,apf,aqe h,<-apf];exact b j h;obtain rfl:j=yD t:=za
 rw[mK,apf,apS h,asw];show(aZ d (2^yD t)).length=_;rw[fy]
end
structure zX(k:aw)(c:Cr):Prop where
 o:fx k c.o
 r:Sh k c.r
section
variable {K:Type} [dH K] (ι:pD cl K) (s:aw->K) {t:aM}
def aaM:ι.φ 4=1+1+1+1:=by
 have e:(4:cl)=1+1+1+1:=zy
 rw[e,ι.add,ι.add,ι.add,ι.one]
def aaN:ι.φ 2=1+1:=by
 have e:(2:cl)=1+1:=zy
 rw[e,ι.add,ι.one]
def aaL:ι.φ (-1)= -1:=by rw[ι.neg,ι.one]
def Mg(T:aM)(c:Cr)(P:Pt):Prop:=(vl ι s T P.1-vl ι s T c.o.1)*(vl ι s T P.1-vl ι s T c.o.1)+(vl ι s T P.2-vl ι s T c.o.2)*(vl ι s T P.2-vl ι s T c.o.2)=vl ι s T c.r
variable {I x:Cr}
def Mg.up{d:ai cl}(a:zX (yD t) x)(h:(vl ι s (mK t d) l.1-vl ι s t x.o.1)*(vl ι s (mK t d) l.1-vl ι s t x.o.1)+(vl ι s (mK t d) l.2-vl ι s t x.o.2)*(vl ι s (mK t d) l.2-vl ι s t x.o.2)=vl ι s t x.r):Mg ι s (mK t d) x l:=by unfold Mg;rw[iE ι s d a.o.1,iE ι s d a.o.2,iE ι s d a.r];exact h
structure ang(t:aM)(a b:Cr)(v1 v2:K):Prop where
 h1:v1=vl ι s t b.o.1-vl ι s t a.o.1
 h2:v2=vl ι s t b.o.2-vl ι s t a.o.2
 hd:vl ι s t (cD t a b)=v1*v1+v2*v2
 hS:vl ι s t (cS t a b)=vl ι s t a.r+vl ι s t (cD t a b)-vl ι s t b.r
 hW:vl ι s t (Bl t a b)=vl ι s t (cD t a b)+vl ι s t (cD t a b)
 hX:vl ι s t (cX t a b)=(1+1+1+1)*(vl ι s t a.r*vl ι s t (cD t a b))-vl ι s t (cS t a b)*vl ι s t (cS t a b)
structure ah5(t:aM)(a b:Cr):Prop where
 hv:fx t.length (cV a b)
 hd:Sh t.length (cD t a b)
 hS:Sh t.length (cS t a b)
 hW:Sh t.length (Bl t a b)
 hX:Sh t.length (cX t a b)
 hG:Sh t.length (cG t a b)
 hF:fx t.length (Eh t a b)
def p7(c:eJ (yD t) t)(e:zX (yD t) x)(f:zX (yD t) I):ah5 t x I:=by have v:fx (yD t) (cV x I):=f.o.sub e.o;have d:Sh (yD t) (cD t x I):=Sh.dot c v v;have S:Sh (yD t) (cS t x I):=(e.r.add d).sub f.r;have W:Sh (yD t) (Bl t x I):=Sh.mul c (Sh.l7 _ _) d;have X:Sh (yD t) (cX t x I):=(Sh.mul c (Sh.l7 _ _) (Sh.mul c e.r d)).sub (Sh.mul c S S);have g:Sh (yD t) (cG t x I):=Sh.div c S W;exact⟨v,d,S,W,X,g,e.o.along c g v⟩
def yc(c:eJ (yD t) t)(f:Model ι s t (yD t)){b:Cr}(e:zX (yD t) I)(h:zX (yD t) b):ang ι s t I b (vl ι s t (cV I b).1) (vl ι s t (cV I b).2):=by obtain⟨v,d,S,W,X,g,-⟩:=p7 c e h;have j:(cV I b).1=g8 b.o.1 I.o.1:=rfl;have i:(cV I b).2=g8 b.o.2 I.o.2:=rfl;refine⟨?_,?_,?_,?_,?_,?_⟩;rw[j,dU ι s h.o.1 e.o.1];rw[i,dU ι s h.o.2 e.o.2];exact tS ι s c f v v;show vl ι s t (g8 (oX I.r (cD t I b)) b.r)=_;rw[dU ι s (e.r.add d) h.r,qD ι s e.r d];show vl ι s t (mulL t (iq 2) (cD t I b))=_;rw[cZ ι s c f (Sh.l7 _ _) d,gV,aaN];generalize vl ι s t (cD t I b)=x;exact rg [x];show vl ι s t (g8 (mulL t (iq 4) (mulL t I.r (cD t I b))) (mulL t (cS t I b) (cS t I b)))=_;rw[dU ι s (Sh.mul c (Sh.l7 _ _) (Sh.mul c e.r d)) (Sh.mul c S S),cZ ι s c f (Sh.l7 _ _) (Sh.mul c e.r d),cZ ι s c f e.r d,cZ ι s c f S S,gV,aaM]
def NU(d:eJ (yD t) t)(g:Model ι s t (yD t))(f:zX (yD t) x)(e:zX (yD t) I)(d0:vl ι s t (cD t x I)≠0):vl ι s t (cG t x I)*vl ι s t (Bl t x I)=vl ι s t (cS t x I):=by have c:=p7 d f e;exact lD ι s d g c.hS c.hW (by rw[(yc ι s d g f e).hW];exact Jl d0)
def Tu(e:eJ (yD t) t)(f:Model ι s t (yD t))(d:zX (yD t) x)(h:zX (yD t) I)(d0:vl ι s t (cD t x I)≠0)(x0:vl ι s t (cX t x I)=0):Mg ι s t x (Eh t x I)/\Mg ι s t I (Eh t x I):=by have c:=p7 e d h;have v:=yc ι s e f d h;have g:=NU ι s e f d h d0;have p:=VB (H:=(0:K)) (r:=0) v.hd v.hS v.hW d0 g (jE _) (by rw[jE,<-v.hX,x0]);have f1:=qC ι s e f d.o c.hG c.hv;have f2:=qB ι s e f d.o c.hG c.hv;have m:=v.h1;have l:=v.h2;unfold Mg;rw[show Eh t x I=cM t x.o (cG t x I) (cV x I)from rfl,f1,f2,<-p.1,<-p.2,m,l];generalize vl ι s t (cG t x I)=γ;generalize vl ι s t x.o.1=a1;generalize vl ι s t x.o.2=k;generalize vl ι s t I.o.1=j;generalize vl ι s t I.o.2=i;exact⟨rg [γ,a1,k,j,i],rg [γ,a1,k,j,i]⟩
def Tt(i:eJ (yD t) t){b:Cr}(j:Model ι s (cT t I b) (cT t I b).length)(f:zX (yD t) I)(l:zX (yD t) b)(d0:vl ι s t (cD t I b)≠0):
  (Mg ι s (cT t I b) I (Za t I b)/\Mg ι s (cT t I b) b (Za t I b))/\(Mg ι s (cT t I b) I (Y_ t I b)/\Mg ι s (cT t I b) b (Y_ t I b)):=by
 have c:=p7 i f l;have e:cT t I b=mK t (cX t I b):=rfl;have d:eJ (cT t I b).length (cT t I b):=oN i _;have le:yD t<=(cT t I b).length:=by rw[e,bW];omega
 obtain⟨k,D⟩:=Model.base ι s j;have v:=yc ι s i k f l;have g:=NU ι s i k f l d0;have E:Sh (cT t I b).length (cg (yD t)):=(iO (t:=t) (cX t I b)).sh;have u:Sh (cT t I b).length (cH t I b):=Sh.div d E (c.hW.mono le);have a:vl ι s (cT t I b) (Bl t I b)≠0:=by rw[e,iE ι s _ c.hW,v.hW];exact Jl d0
 have C:vl ι s (cT t I b) (cH t I b)*vl ι s t (Bl t I b)=s (yD t):=by
  have:=lD ι s d j E (c.hW.mono le) a;rw[e,iE ι s _ c.hW,te]at this;exact this
 have m:=c.hv.mono le;have o:Sh (cT t I b).length (mulL (cT t I b) (iq (-1)) (cV I b).2):=Sh.mul d (Sh.l7 _ _) m.2;have F:fx (cT t I b).length (cN t I b):=⟨o,m.1⟩;have M:vl ι s (cT t I b) (cN t I b).1= -1*vl ι s t (cV I b).2:=by
  show vl ι s (cT t I b) (mulL (cT t I b) (iq (-1)) (cV I b).2)=_;rw[cZ ι s d j (Sh.l7 _ _) m.2,gV,aaL,e,iE ι s _ c.hv.2]
 have L:vl ι s (cT t I b) (cN t I b).2=vl ι s t (cV I b).1:=by
  show vl ι s (cT t I b) (cV I b).1=_;rw[e,iE ι s _ c.hv.1]
 have q:Sh (cT t I b).length (Yo t I b):=Sh.mul d (Sh.l7 _ _) u;have n:vl ι s (cT t I b) (Yo t I b)= -1*vl ι s (cT t I b) (cH t I b):=by
  show vl ι s (cT t I b) (mulL (cT t I b) (iq (-1)) (cH t I b))=_;rw[cZ ι s d j (Sh.l7 _ _) u,gV,aaL]
 have f1:=qC ι s i k f.o c.hG c.hv;have f2:=qB ι s i k f.o c.hG c.hv;have S:vl ι s (cT t I b) (Eh t I b).1=vl ι s t I.o.1+vl ι s t (cG t I b)*vl ι s t (cV I b).1:=by rw[e,iE ι s _ c.hF.1];exact f1
 have R:vl ι s (cT t I b) (Eh t I b).2=vl ι s t I.o.2+vl ι s t (cG t I b)*vl ι s t (cV I b).2:=by rw[e,iE ι s _ c.hF.2];exact f2
 have key:∀(H:ai cl)(h r:K),Sh (cT t I b).length H->vl ι s (cT t I b) H=h->h*vl ι s t (Bl t I b)=r->r*r=vl ι s t (cX t I b)->Mg ι s (cT t I b) I (cM (cT t I b) (Eh t I b) H (cN t I b))/\Mg ι s (cT t I b) b (cM (cT t I b) (Eh t I b) H (cN t I b)):=by
  intro H h r B G qr J;have p:=VB (H:=h) (r:=r) v.hd v.hS v.hW d0 g qr (by rw[J,v.hX])
  have z:=qC ι s d j (c.hF.mono le) B F;have y:=qB ι s d j (c.hF.mono le) B F;rw[S,G,M]at z;rw[R,G,L]at y;have O:=v.h1;have N:=v.h2;constructor
  ·refine Mg.up ι s f ?_
   show(vl ι s (cT t I b) _-_)*(vl ι s (cT t I b) _-_)+(vl ι s (cT t I b) _-_)*(vl ι s (cT t I b) _-_)=_;rw[z,y,<-p.1];generalize vl ι s t (cG t I b)=γ;generalize vl ι s t I.o.1=a1;generalize vl ι s t I.o.2=A;generalize vl ι s t (cV I b).1=v1;generalize vl ι s t (cV I b).2=v2;exact rg [γ,a1,A,v1,v2,h]
  ·refine Mg.up ι s l ?_
   show(vl ι s (cT t I b) _-_)*(vl ι s (cT t I b) _-_)+(vl ι s (cT t I b) _-_)*(vl ι s (cT t I b) _-_)=_;rw[z,y,<-p.2,O,N];generalize vl ι s t (cG t I b)=γ;generalize vl ι s t I.o.1=a1;generalize vl ι s t I.o.2=A;generalize vl ι s t b.o.1=Q;generalize vl ι s t b.o.2=P;exact rg [γ,a1,A,Q,P,h]
 refine⟨key _ _ _ u rfl C D,key _ _ (-1*s (yD t)) q n ?_ ?_⟩
 ·rw[<-C]
  generalize vl ι s (cT t I b) (cH t I b)=h;generalize vl ι s t (Bl t I b)=w;exact rg [h,w]
 ·rw[<-D]
  generalize s (yD t)=x;exact rg [x]
end
section
variable {K:Type} [dH K] (ι:pD cl K) (s:aw->K) {t:aM}
def OnL(T:aM)(p q P:Pt):Prop:=(vl ι s T q.1-vl ι s T p.1)*(vl ι s T P.2-vl ι s T p.2)-(vl ι s T q.2-vl ι s T p.2)*(vl ι s T P.1-vl ι s T p.1)=0
structure ah1(t:aM)(c:Cr)(p q:Pt):Prop where
 hv:fx t.length (lV p q)
 hw:fx t.length (lW c p)
 hQ:Sh t.length (lQ t p q)
 hE:Sh t.length (lE t c p q)
 hC:Sh t.length (lC t c p q)
 hX:Sh t.length (lX t c p q)
variable {I x:Cr}
def m8(a:eJ (yD t) t)(d:zX (yD t) x)(b:fx (yD t) l)(e:fx (yD t) m):ah1 t x l m:=by have v:fx (yD t) (lV l m):=e.sub b;have w:fx (yD t) (lW x l):=d.o.sub b;have Q:Sh (yD t) (lQ t l m):=Sh.dot a v v;have E:Sh (yD t) (lE t x l m):=Sh.dot a v w;have C:Sh (yD t) (lC t x l m):=Sh.qw a v w;exact⟨v,w,Q,E,C,(Sh.mul a Q d.r).sub (Sh.mul a C C)⟩
def SO(a:eJ (yD t) t)(d:Model ι s t (yD t))(b:zX (yD t) x)(f:fx (yD t) l)(e:fx (yD t) m):vl ι s t (lX t x l m)=vl ι s t (lQ t l m)*vl ι s t x.r-vl ι s t (lC t x l m)*vl ι s t (lC t x l m):=by have h:=m8 a b f e;show vl ι s t (g8 (mulL t (lQ t l m) x.r) (mulL t (lC t x l m) (lC t x l m)))=_;rw[dU ι s (Sh.mul a h.hQ b.r) (Sh.mul a h.hC h.hC),cZ ι s a d h.hQ b.r,cZ ι s a d h.hC h.hC]
def PR(b:eJ (yD t) t)(j:Model ι s t (yD t))(i:zX (yD t) I)(a:fx (yD t) l)(f:fx (yD t) m)(D:vl ι s t (lQ t l m)≠0){g r e d:K}(x:g*vl ι s t (lQ t l m)=vl ι s t (lE t I l m)+r)(w:r*r=vl ι s t (lX t I l m))
  (z:e=vl ι s t l.1+g*vl ι s t (lV l m).1) (y:d=vl ι s t l.2+g*vl ι s t (lV l m).2):
  (e-vl ι s t I.o.1)*(e-vl ι s t I.o.1)+(d-vl ι s t I.o.2)*(d-vl ι s t I.o.2)=vl ι s t I.r/\(vl ι s t m.1-vl ι s t l.1)*(d-vl ι s t l.2)-(vl ι s t m.2-vl ι s t l.2)*(e-vl ι s t l.1)=0:=by
 have h:=m8 b i a f;have A:vl ι s t (lQ t l m)=vl ι s t (lV l m).1*vl ι s t (lV l m).1+vl ι s t (lV l m).2*vl ι s t (lV l m).2:=tS ι s b j h.hv h.hv;have B:vl ι s t (lE t I l m)=vl ι s t (lV l m).1*vl ι s t (lW I l).1+vl ι s t (lV l m).2*vl ι s t (lW I l).2:=tS ι s b j h.hv h.hw;have C:vl ι s t (lC t I l m)=vl ι s t (lV l m).1*vl ι s t (lW I l).2-vl ι s t (lV l m).2*vl ι s t (lW I l).1:=Cz ι s b j h.hv h.hw;have k:=afV A D B C x (by rw[w,SO ι s b j i a f]);have c:vl ι s t (lW I l).1=vl ι s t I.o.1-vl ι s t l.1:=dU ι s i.o.1 a.1;have p:vl ι s t (lW I l).2=vl ι s t I.o.2-vl ι s t l.2:=dU ι s i.o.2 a.2;have v1:vl ι s t (lV l m).1=vl ι s t m.1-vl ι s t l.1:=dU ι s f.1 a.1;have v2:vl ι s t (lV l m).2=vl ι s t m.2-vl ι s t l.2:=dU ι s f.2 a.2;rw[<-k,z,y,c,p,v1,v2];clear k z y c p v1 v2 C B A x w D;generalize vl ι s t m.1=o;generalize vl ι s t m.2=n;generalize vl ι s t l.1=v;generalize vl ι s t l.2=u;generalize vl ι s t I.o.1=o1;generalize vl ι s t I.o.2=o2;exact⟨rg [g,o,n,v,u,o1,o2],rg [g,o,n,v,u]⟩
def SN(a:eJ (yD t) t)(d:Model ι s t (yD t))(i:zX (yD t) x)(b:fx (yD t) l)(f:fx (yD t) m)(j:vl ι s t (lQ t l m)≠0)(x0:vl ι s t (lX t x l m)=0):Mg ι s t x (cM t l (lF t x l m) (lV l m))/\OnL ι s t l m (cM t l (lF t x l m) (lV l m)):=by
 have h:=m8 a i b f;have e:Sh (yD t) (lF t x l m):=Sh.div a h.hE h.hQ;have g:vl ι s t (lF t x l m)*vl ι s t (lQ t l m)=vl ι s t (lE t x l m)+0:=by rw[add_zero'];exact lD ι s a d h.hE h.hQ j
 exact PR ι s a d i b f j g (by rw[x0,bB]) (qC ι s a d b e h.hv) (qB ι s a d b e h.hv)
def SM(k:eJ (yD t) t)(d:Model ι s (lT t I l m) (lT t I l m).length)(j:zX (yD t) I)(b:fx (yD t) l)(f:fx (yD t) m)(y:vl ι s t (lQ t l m)≠0):
  (Mg ι s (lT t I l m) I (cM (lT t I l m) l (lG t I l m) (lV l m))/\OnL ι s (lT t I l m) l m (cM (lT t I l m) l (lG t I l m) (lV l m)))/\(Mg ι s (lT t I l m) I (cM (lT t I l m) l (lH t I l m) (lV l m))/\OnL ι s (lT t I l m) l m (cM (lT t I l m) l (lH t I l m) (lV l m))):=by
 have h:=m8 k j b f;have p:lT t I l m=mK t (lX t I l m):=rfl;have a:eJ (lT t I l m).length (lT t I l m):=oN k _;have le:yD t<=(lT t I l m).length:=by rw[p,bW];omega
 obtain⟨D,n⟩:=Model.base ι s d;have i:Sh (lT t I l m).length (cg (yD t)):=(iO (t:=t) (lX t I l m)).sh;have v:vl ι s (lT t I l m) (cg (yD t))=s (yD t):=te ι s _;have u:Sh (lT t I l m).length (lA t I l m):=(h.hE.mono le).add i;have o:Sh (lT t I l m).length (lB t I l m):=(h.hE.mono le).sub i;have F:Sh (lT t I l m).length (lG t I l m):=Sh.div a u (h.hQ.mono le);have E:Sh (lT t I l m).length (lH t I l m):=Sh.div a o (h.hQ.mono le);have q:vl ι s (lT t I l m) (lQ t l m)=vl ι s t (lQ t l m):=iE ι s _ h.hQ;have B:vl ι s (lT t I l m) (lE t I l m)=vl ι s t (lE t I l m):=iE ι s _ h.hE;have e:vl ι s (lT t I l m) (lQ t l m)≠0:=by rw[q];exact y
 have H:vl ι s (lT t I l m) (lG t I l m)*vl ι s t (lQ t l m)=vl ι s t (lE t I l m)+s (yD t):=by
  have:=lD ι s a d u (h.hQ.mono le) e;rw[q]at this;refine this.trans ?_;show vl ι s (lT t I l m) (oX (lE t I l m) (cg (yD t)))=_;rw[qD ι s (h.hE.mono le) i,v,B]
 have G:vl ι s (lT t I l m) (lH t I l m)*vl ι s t (lQ t l m)=vl ι s t (lE t I l m)+ -s (yD t):=by
  have:=lD ι s a d o (h.hQ.mono le) e;rw[q]at this;refine this.trans ?_;show vl ι s (lT t I l m) (g8 (lE t I l m) (cg (yD t)))=_;rw[dU ι s (h.hE.mono le) i,v,B,sub_def']
 have key:∀(g:ai cl)(r:K),Sh (lT t I l m).length g->vl ι s (lT t I l m) g*vl ι s t (lQ t l m)=vl ι s t (lE t I l m)+r->r*r=vl ι s t (lX t I l m)->Mg ι s (lT t I l m) I (cM (lT t I l m) l g (lV l m))/\OnL ι s (lT t I l m) l m (cM (lT t I l m) l g (lV l m)):=by
  intro g r sg C qr;have a1:=qC ι s a d (b.mono le) sg (h.hv.mono le);have w:=qB ι s a d (b.mono le) sg (h.hv.mono le);have A:vl ι s (lT t I l m) l.1=vl ι s t l.1:=iE ι s _ b.1;have z:vl ι s (lT t I l m) l.2=vl ι s t l.2:=iE ι s _ b.2;have J:vl ι s (lT t I l m) (lV l m).1=vl ι s t (lV l m).1:=iE ι s _ h.hv.1;have c:vl ι s (lT t I l m) (lV l m).2=vl ι s t (lV l m).2:=iE ι s _ h.hv.2;rw[A,J]at a1;rw[z,c]at w;obtain⟨k1,k2⟩:=PR ι s k D j b f y C qr a1 w;refine⟨Mg.up ι s j k1,?_⟩;unfold OnL;rw[A,z,show vl ι s (lT t I l m) m.1=vl ι s t m.1 from iE ι s _ f.1,show vl ι s (lT t I l m) m.2=vl ι s t m.2 from iE ι s _ f.2]
  exact k2
 refine⟨key _ _ F H n,key _ _ E G ?_⟩;rw[<-n];generalize s (yD t)=x;exact rg [x]
structure Zb(k:aw)(x:Rp):Prop where
 o:fx k x.o
 q:fx k x.q
structure RpS(t:aM)(x:Rp):Prop where
 hy:fx t.length x.mc
 hd:Sh t.length (x.d t)
 hh:Sh t.length x.h
 hr:Sh t.length (x.r t)
def CT(b:eJ (yD t) t){x:Rp}(h:Zb (yD t) x):RpS t x:=by have y:fx (yD t) x.mc:=h.q.sub h.o;have d:Sh (yD t) (x.d t):=Sh.dot b y y;have a:Sh (yD t) x.h:=Sh.l7 _ _;exact⟨y,d,a,(Sh.mul b (Sh.l7 _ _) d).sub (Sh.mul b a a)⟩
def Z_(a:eJ (yD t) t)(b:Model ι s t (yD t)){x:Rp}(h:Zb (yD t) x):vl ι s t (x.r t)=ι.φ x.v.sq*vl ι s t (x.d t)-vl ι s t x.h*vl ι s t x.h:=by have S:=CT a h;show vl ι s t (g8 (mulL t (iq x.v.sq) (x.d t)) (mulL t x.h x.h))=_;rw[dU ι s (Sh.mul a (Sh.l7 _ _) S.hd) (Sh.mul a S.hh S.hh),cZ ι s a b (Sh.l7 _ _) S.hd,cZ ι s a b S.hh S.hh,gV]
def alA(x:Rp):vl ι s t x.h=ι.φ x.v.x*ι.φ x.u.y-ι.φ x.v.y*ι.φ x.u.x:=by show vl ι s t (iq (x.v.qw x.u))=_;rw[gV];unfold V2.qw;rw[ι.sub,ι.mul,ι.mul]
def anI{T:aM}(n:eJ (yD t) t)(p:Model ι s t (yD t))(b:eJ (yD T) T)(d:Model ι s T (yD T))(le:yD t<=yD T)(up:∀{a:ai cl},Sh (yD t) a->vl ι s T a=vl ι s t a){x:Rp}(h:Zb (yD t) x)(d0:vl ι s t (x.d t)≠0){root:ai cl}(l:Sh (yD T) root)(w:vl ι s T root*vl ι s T root=vl ι s t (x.r t)):
  fx (yD T) (x.z t T root)/\vl ι s T (x.z t T root).1*vl ι s T (x.z t T root).1+vl ι s T (x.z t T root).2*vl ι s T (x.z t T root).2=ι.φ x.v.sq/\vl ι s T (x.z t T root).1*vl ι s t x.mc.2-vl ι s T (x.z t T root).2*vl ι s t x.mc.1=vl ι s t x.h:=by
 have S:=CT n h;have c:=S.hy.mono le;have o:Sh (yD T) (wH x.mc.2):=c.2.neg;have f:Sh (yD T) (mulL T x.h (wH x.mc.2)):=Sh.mul b (S.hh.mono le) o;have e:Sh (yD T) (mulL T x.h x.mc.1):=Sh.mul b (S.hh.mono le) c.1;have i:Sh (yD T) (mulL T root x.mc.1):=Sh.mul b l c.1;have g:Sh (yD T) (mulL T root x.mc.2):=Sh.mul b l c.2;have r:Sh (yD T) (x.w T root).1:=i.sub f;have q:Sh (yD T) (x.w T root).2:=g.sub e;have m:Sh (yD T) (x.d t):=S.hd.mono le;have j:vl ι s T (x.d t)≠0:=by rw[up S.hd];exact d0
 have v:vl ι s T (x.z t T root).1*vl ι s t (x.d t)=vl ι s T root*vl ι s t x.mc.1-vl ι s t x.h* -vl ι s t x.mc.2:=by
  have:=lD ι s b d r m j;rw[up S.hd]at this;refine this.trans ?_;show vl ι s T (g8 (mulL T root x.mc.1) (mulL T x.h (wH x.mc.2)))=_;rw[dU ι s i f,cZ ι s b d l c.1,cZ ι s b d (S.hh.mono le) o,Hu ι s c.2,up S.hh,up S.hy.1,up S.hy.2]
 have u:vl ι s T (x.z t T root).2*vl ι s t (x.d t)=vl ι s T root*vl ι s t x.mc.2-vl ι s t x.h*vl ι s t x.mc.1:=by
  have:=lD ι s b d q m j;rw[up S.hd]at this;refine this.trans ?_;show vl ι s T (g8 (mulL T root x.mc.2) (mulL T x.h x.mc.1))=_;rw[dU ι s g e,cZ ι s b d l c.2,cZ ι s b d (S.hh.mono le) c.1,up S.hh,up S.hy.1,up S.hy.2]
 have y:vl ι s t (x.d t)=vl ι s t x.mc.1*vl ι s t x.mc.1+vl ι s t x.mc.2*vl ι s t x.mc.2:=tS ι s n p S.hy S.hy;have k:=aeD (aaK ι x.v) y d0 (alA ι s (t:=t) x) (by rw[w,Z_ ι s n p h]) v u
 exact⟨⟨Sh.div b r m,Sh.div b q m⟩,k⟩
end
section
variable {K:Type} [dH K] (ι:pD cl K) (s:aw->K) {t T:aM}
def Ia(T:aM)(P:Pt):K×K:=(vl ι s T P.1,vl ι s T P.2)
def zW(T:aM)(b:Pl):Prop:=vl ι s T b.c*vl ι s T b.c+vl ι s T b.s*vl ι s T b.s=1
def OnV(q r p:K×K):Prop:=(r.1-q.1)*(p.2-q.2)-(r.2-q.2)*(p.1-q.1)=0
variable {L:ai uU} {S:Hd}
def CZ(g:eJ (yD T) T)(h:Model ι s T (yD T))(a:fx (yD T) S.o)(d:fx (yD T) l)(b:S.v.sq≠0)(on:Mg ι s T S.cr l):
  Cj (yD T) (oO T l S)/\zW ι s T (oO T l S)/\vV ι s (oO T l S) T S.p=Ia ι s T S.o/\vV ι s (oO T l S) T S.c=Ia ι s T l:=by
 have w:fx (yD T) (fS l S.o):=d.sub a;have f:vl ι s T (fS l S.o).1=vl ι s T l.1-vl ι s T S.o.1:=dU ι s d.1 a.1;have e:vl ι s T (fS l S.o).2=vl ι s T l.2-vl ι s T S.o.2:=dU ι s d.2 a.2;have bv:=tx ι s g h (U:=S.v) (X:=S.p) w a b;have hw:vl ι s T (fS l S.o).1*vl ι s T (fS l S.o).1+vl ι s T (fS l S.o).2*vl ι s T (fS l S.o).2=ι.φ S.v.sq:=by
  rw[f,e];have:_=vl ι s T (iq S.v.sq):=on;rw[gV]at this;exact this
 refine⟨N6 g w a,(bv.unit ι s b hw).1,bv.o8 ι s,?_⟩;refine(bv.far ι s b hw rfl).trans ?_;rw[f,e];unfold Ia;generalize vl ι s T l.1=j;generalize vl ι s T l.2=i;generalize vl ι s T S.o.1=o1;generalize vl ι s T S.o.2=o2;exact Prod.ext (rg [j,o1]) (rg [i,o2])
def u9{a:ai cl}(c:eJ (yD t) t)(d:Model ι s t (yD t))(b:Sh (yD t) a)(h:aL t a≠0):vl ι s t a≠0:=λe=>h (by rw[ku ι s c d b,e,iU])
def GP{a:ai cl}(c:eJ (yD t) t)(d:Model ι s t (yD t))(b:Sh (yD t) a)(h:aL t a=0):vl ι s t a=0:=oL.1 (by rw[<-ku ι s c d b];exact h)
def ah0(T:aM)(A B:Hd)(ps:ai Pl):Prop:=∃b c,ps=[b,c]/\(Cj (yD T) b/\Cj (yD T) c)/\(zW ι s T b/\zW ι s T c)/\vV ι s b T A.p=Ia ι s T A.o/\vV ι s c T B.p=Ia ι s T B.o/\vV ι s b T A.c=vV ι s c T B.c
def DO{k:aw}(h:fx k S.o):zX k S.cr:=⟨h,Sh.l7 _ _⟩
def aly(c:eJ (yD t) t){B:Hd}(p:fx (yD t) S.o)(o:fx (yD t) B.o)(h:yB t S B=a6 L):∀z∈L,Model ι s z.T (yD z.T)->ah0 ι s z.T S B z.ps:=by
 intro z d a;have ca:=DO p;have cb:=DO o;have C:=p7 c ca cb;unfold yB at h;split at h
 ·cases h
 ·rename_i u
  have nA:S.v.sq≠0:=λe=>u (z1 e)
  have q:B.v.sq≠0:=λe=>u (z2 e)
  split at h
  ·split at h
   ·cases h
   ·cases h;cases d
  ·rename_i v
   split at h
   ·rename_i w
    cases h;have le:yD t<=(cT t S.cr B.cr).length:=by show yD t<=(mK t (cX t S.cr B.cr)).length;rw[bW];omega
    have b:eJ (cT t S.cr B.cr).length (cT t S.cr B.cr):=oN c _;have D:z.T=cT t S.cr B.cr:=by
     simp only[b4,bI,or_false]at d;obtain rfl|rfl:=d<;>rfl
    rw[D]at a⊢;obtain⟨E,-⟩:=Model.base ι s a;have two:=Tt ι s c a ca cb (u9 ι s c E C.hd v);have F:Sh (cT t S.cr B.cr).length (cg (yD t)):=(iO (t:=t) (cX t S.cr B.cr)).sh;have y:Sh (cT t S.cr B.cr).length (cH t S.cr B.cr):=Sh.div b F (C.hW.mono le);have r:Sh (cT t S.cr B.cr).length (Yo t S.cr B.cr):=Sh.mul b (Sh.l7 _ _) y;have x:fx (cT t S.cr B.cr).length (cN t S.cr B.cr):=⟨Sh.mul b (Sh.l7 _ _) (C.hv.mono le).2,(C.hv.mono le).1⟩;have s1:fx (cT t S.cr B.cr).length (Za t S.cr B.cr):=(C.hF.mono le).along b y x;have s2:fx (cT t S.cr B.cr).length (Y_ t S.cr B.cr):=(C.hF.mono le).along b r x;simp only[b4,bI,or_false]at d;obtain rfl|rfl:=d
    ·obtain⟨n,m,l,k⟩:=CZ ι s b a (p.mono le) s1 nA two.1.1
     obtain⟨j,i,g,f⟩:=CZ ι s b a (o.mono le) s1 q two.1.2;exact⟨_,_,rfl,⟨n,j⟩,⟨m,i⟩,l,g,by rw[k,f]⟩
    ·obtain⟨n,m,l,k⟩:=CZ ι s b a (p.mono le) s2 nA two.2.1
     obtain⟨j,i,g,f⟩:=CZ ι s b a (o.mono le) s2 q two.2.2;exact⟨_,_,rfl,⟨n,j⟩,⟨m,i⟩,l,g,by rw[k,f]⟩
   ·split at h
    ·rename_i w
     cases h;simp only[b4,bI,or_false]at d;subst d;have one:=Tu ι s c a ca cb (u9 ι s c a C.hd v) (GP ι s c a C.hX w);obtain⟨n,m,l,k⟩:=CZ ι s c a p C.hF nA one.1;obtain⟨j,i,g,f⟩:=CZ ι s c a o C.hF q one.2;exact⟨_,_,rfl,⟨n,j⟩,⟨m,i⟩,l,g,by rw[k,f]⟩
    ·cases h;cases d
def akK(T:aM)(A:Hd)(p q:Pt)(ps:ai Pl):Prop:=∃b,ps=[b]/\Cj (yD T) b/\zW ι s T b/\vV ι s b T A.p=Ia ι s T A.o/\OnV (Ia ι s T p) (Ia ι s T q) (vV ι s b T A.c)
def anL(a:eJ (yD t) t)(k:fx (yD t) S.o)(e:fx (yD t) l)(q:fx (yD t) m)(n:aL t (lQ t l m)≠0)(h:MR t S l m=a6 L):∀z∈L,Model ι s z.T (yD z.T)->akK ι s z.T S l m z.ps:=by
 intro z c b;have ca:=DO k;have p:=m8 a ca e q;unfold MR at h;split at h
 ·cases h
 ·rename_i nA
  split at h
  ·cases h
   have le:yD t<=(lT t S.cr l m).length:=by show yD t<=(mK t (lX t S.cr l m)).length;rw[bW];omega
   have d:eJ (lT t S.cr l m).length (lT t S.cr l m):=oN a _;have o:z.T=lT t S.cr l m:=by
    simp only[b4,bI,or_false]at c;obtain rfl|rfl:=c<;>rfl
   rw[o]at b⊢;obtain⟨u,-⟩:=Model.base ι s b;have two:=SM ι s a b ca e q (u9 ι s a u p.hQ n);have A:Sh (lT t S.cr l m).length (cg (yD t)):=(iO (t:=t) (lX t S.cr l m)).sh;have x:Sh (lT t S.cr l m).length (lG t S.cr l m):=Sh.div d ((p.hE.mono le).add A) (p.hQ.mono le);have w:Sh (lT t S.cr l m).length (lH t S.cr l m):=Sh.div d ((p.hE.mono le).sub A) (p.hQ.mono le);have s1:=(e.mono le).along d x (p.hv.mono le);have s2:=(e.mono le).along d w (p.hv.mono le);simp only[b4,bI,or_false]at c;obtain rfl|rfl:=c
   ·obtain⟨j,i,g,f⟩:=CZ ι s d b (k.mono le) s1 nA two.1.1
    exact⟨_,rfl,j,i,g,by rw[f];exact two.1.2⟩
   ·obtain⟨j,i,g,f⟩:=CZ ι s d b (k.mono le) s2 nA two.2.1
    exact⟨_,rfl,j,i,g,by rw[f];exact two.2.2⟩
  ·split at h
   ·rename_i v
    cases h;simp only[b4,bI,or_false]at c;subst c;have one:=SN ι s a b ca e q (u9 ι s a b p.hQ n) (GP ι s a b p.hX v);have r:Sh (yD t) (lF t S.cr l m):=Sh.div a p.hE p.hQ;obtain⟨j,i,g,f⟩:=CZ ι s a b k (e.along a r p.hv) nA one.1;exact⟨_,rfl,j,i,g,by rw[f];exact one.2⟩
   ·cases h;cases c
def ahX(T:aM)(x:Rp)(ps:ai Pl):Prop:=∃b,ps=[b]/\Cj (yD T) b/\zW ι s T b/\vV ι s b T x.p=Ia ι s T x.o/\∀g:V2,x.v=g.sub x.f->OnV (vV ι s b T x.f) (vV ι s b T g) (Ia ι s T x.q)
def Ry{T:aM}(y:eJ (yD t) t)(M:Model ι s t (yD t))(f:eJ (yD T) T)(B:Model ι s T (yD T))(le:yD t<=yD T)(up:∀{a:ai cl},Sh (yD t) a->vl ι s T a=vl ι s t a){x:Rp}(h:Zb (yD t) x)(d0:vl ι s t (x.d t)≠0){root:ai cl}(L:Sh (yD T) root)(J:vl ι s T root*vl ι s T root=vl ι s t (x.r t))(o:x.v.sq≠0):ahX ι s T x [x.pl t T root]:=by
 obtain⟨i,C,b⟩:=anI ι s y M f B le up h d0 L J;have n:=h.o.mono le;have bv:=tx ι s f B (U:=x.v) (X:=x.p) i n o;obtain⟨e,k,j⟩:=bv.unit ι s o C;refine⟨_,rfl,N6 f i n,e,bv.o8 ι s,λg w=>?_⟩
 have r:=bv.hx;have q:=bv.hy;have S:=CT y h;have E:vl ι s t x.mc.1=vl ι s t x.q.1-vl ι s t x.o.1:=dU ι s h.q.1 h.o.1;have D:vl ι s t x.mc.2=vl ι s t x.q.2-vl ι s t x.o.2:=dU ι s h.q.2 h.o.2;have v:=alA ι s (t:=t) x;rw[v,E,D]at b;rw[<-k,<-j]at b;show OnV _ _ _;unfold OnV Ia vV;rw[show x.pl t T root=s_ T x.v (x.z t T root) x.p x.o from rfl,r,q,up h.q.1,up h.q.2,up h.o.1,up h.o.2]
 have O:ι.φ x.v.x=ι.φ g.x-ι.φ x.f.x:=by rw[w];exact ι.sub _ _
 have N:ι.φ x.v.y=ι.φ g.y-ι.φ x.f.y:=by rw[w];exact ι.sub _ _
 have G:ι.φ x.u.x=ι.φ x.f.x-ι.φ x.p.x:=ι.sub _ _;have F:ι.φ x.u.y=ι.φ x.f.y-ι.φ x.p.y:=ι.sub _ _;rw[O,N,G,F]at b;have d:vl ι s T (s_ T x.v (x.z t T root) x.p x.o).c*vl ι s T (s_ T x.v (x.z t T root) x.p x.o).c+vl ι s T (s_ T x.v (x.z t T root) x.p x.o).s*vl ι s T (s_ T x.v (x.z t T root) x.p x.o).s=1:=e;simp only;clear e k j r q bv v;generalize vl ι s T (s_ T x.v (x.z t T root) x.p x.o).c=c at b d⊢;generalize vl ι s T (s_ T x.v (x.z t T root) x.p x.o).s=σ at b d⊢;generalize ι.φ g.x=A at b⊢;generalize ι.φ g.y=z at b⊢;generalize ι.φ x.f.x=f1 at b⊢;generalize ι.φ x.f.y=f2 at b⊢;generalize ι.φ x.p.x=m at b⊢;generalize ι.φ x.p.y=l at b⊢;generalize vl ι s t x.q.1=I at b⊢;generalize vl ι s t x.q.2=H at b⊢;generalize vl ι s t x.o.1=o1 at b⊢;generalize vl ι s t x.o.2=o2 at b⊢;exact rg2 [c,σ,A,z,f1,f2,m,l,I,H,o1,o2] (-((A-f1)*(f2-l)-(z-f2)*(f1-m))) 1 d b
def anJ(a:eJ (yD t) t){x:Rp}(f:Zb (yD t) x)(j:x.v.sq≠0)(h:MI t x=a6 L):∀z∈L,Model ι s z.T (yD z.T)->ahX ι s z.T x z.ps:=by
 intro z d c;have S:=CT a f;unfold MI at h;split at h
 ·cases h
 ·rename_i q
  have d0:Model ι s t (yD t)->dH.nn (vl ι s t (x.r t))->vl ι s t (x.d t)≠0:=λb i e=>by
   have g:=Z_ ι s a b f;rw[e,bB]at g;have r:vl ι s t x.h*vl ι s t x.h=0:=Nd (rN _) (by
    have u: -(vl ι s t x.h*vl ι s t x.h)=vl ι s t (x.r t):=by
     rw[g];generalize vl ι s t x.h=y;exact rg [y]
    rw[u];exact i)
   refine q ⟨?_,?_⟩
   ·rw[ku ι s a b S.hd,e,iU]
   ·rw[ku ι s a b S.hh,qI r,iU]
  split at h
  ·rename_i k
   cases h;have le:yD t<=(x.T t).length:=by show yD t<=(mK t (x.r t)).length;rw[bW];omega
   have n:eJ (x.T t).length (x.T t):=oN a _;have p:z.T=x.T t:=by
    simp only[b4,bI,or_false]at d;obtain rfl|rfl:=d<;>rfl
   rw[p]at c⊢;obtain⟨b,g⟩:=Model.base ι s c;have i:dH.nn (vl ι s t (x.r t)):=ZQ.1 (by rw[<-ku ι s a b S.hr,k];decide)
   have l:Sh (x.T t).length (cg (yD t)):=(iO (t:=t) (x.r t)).sh;have o:vl ι s (x.T t) (cg (yD t))=s (yD t):=te ι s _;simp only[b4,bI,or_false]at d;obtain rfl|rfl:=d
   ·exact Ry ι s a b n c le (λh=>iE ι s _ h) f (d0 b i) l (by rw[o];exact g) j
   ·refine Ry ι s a b n c le (λh=>iE ι s _ h) f (d0 b i) l.neg ?_ j
    rw[Hu ι s l,o,<-g];generalize s (yD t)=y;exact rg [y]
  ·split at h
   ·rename_i k
    cases h;simp only[b4,bI,or_false]at d;subst d;have m:=GP ι s a c S.hr k;exact Ry ι s a c a c (apc _) (λh=>rfl) f (d0 c (by rw[m];exact UO)) (.nil _) (by rw[Ht,m,bB]) j
   ·cases h;cases d
end
section
variable {K:Type} [dH K] (ι:pD cl K) (s:aw->K) {t T:aM}
def JK(a:eJ (yD t) t)(h:Cj (yD t) g)(x y:cl):fx (yD t) (J4 t g x y):=by
 have d:(J4 t g x y).1=oX (g8 (mulL t g.c (iq x)) (mulL t g.s (iq y))) g.x:=by simp only[J4,A5,u5,yC]
 have c:(J4 t g x y).2=oX (oX (mulL t g.s (iq x)) (mulL t g.c (iq y))) g.y:=by simp only[J4,A5,u5,yC]
 have f:=Sh.mul a h.c (Sh.l7 (yD t) x);have e:=Sh.mul a h.c (Sh.l7 (yD t) y);have s1:=Sh.mul a h.s (Sh.l7 (yD t) x);have s2:=Sh.mul a h.s (Sh.l7 (yD t) y);exact⟨by rw[d];exact(f.sub s2).add h.x,by rw[c];exact(s1.add e).add h.y⟩
def Up(t T:aM):Prop:=T=t\/∃d,T=mK t d
def Up.len(h:Up t T):yD t<=yD T/\yD T<=yD t+1:=by
 obtain rfl|⟨d,rfl⟩:=h
 omega;rw[bW];omega
def Up.model(h:Up t T)(a:Model ι s T (yD T)):Model ι s t (yD t):=by
 obtain rfl|⟨d,rfl⟩:=h
 exact a;exact(Model.base ι s a).1
def Up.vl(h:Up t T){a:ai cl}(b:Sh (yD t) a):vl ι s T a=vl ι s t a:=by
 obtain rfl|⟨d,rfl⟩:=h
 rfl;exact iE ι s d b
def Up.at(h:Up t T)(a:Cj (yD t) g)(m:V2):vV ι s g T m=vV ι s g t m:=by unfold vV;rw[h.vl ι s a.c,h.vl ι s a.s,h.vl ι s a.x,h.vl ι s a.y]
def Up.place(h:Up t T)(d:eJ (yD t) t)(e:Model ι s T (yD T))(a:Cj (yD t) g)(m:V2):Ia ι s T (J4 t g m.x m.y)=vV ι s g T m:=by have c:=JK d a m.x m.y;unfold Ia;rw[h.vl ι s c.1,h.vl ι s c.2,h.at ι s a];exact adO ι s d (h.model ι s e) a m
def Cj.mono{k m:aw}{b:Pl}(h:Cj k b)(a:k<=m):Cj m b:=⟨h.c.mono a,h.s.mono a,h.x.mono a,h.y.mono a⟩
def Up.unit(h:Up t T)(a:Cj (yD t) g)(u:zW ι s t g):zW ι s T g:=by unfold zW;rw[h.vl ι s a.c,h.vl ι s a.s];exact u
def JtV(l:Lk)(a:As)(j:Jt):Prop:=
 (j.kind=0->vV ι s (dt a j.a) a.t (n8 (dQ l j.a j.p))=vV ι s (dt a j.b) a.t (n8 (dQ l j.b j.on)))/\
 (j.kind=1->OnV (vV ι s (dt a j.b) a.t (n8 (dQ l j.b j.on))) (vV ι s (dt a j.b) a.t (n8 (dQ l j.b j.to))) (vV ι s (dt a j.a) a.t (n8 (dQ l j.a j.p))))
variable {k:As}
def MT{g:As}{l b o:aw}(hw:((fc d j l).a=b/\(fc d j l).b=o)\/((fc d j l).a=o/\(fc d j l).b=b))(f:o≠b)(a:(fc d j l).kind=0)
  (h:vV ι s (dt g b) g.t (n8 (jX d j l b))=Ia ι s g.t (il d j k l b)) (i:∀m,Ia ι s g.t (kS d k o m)=vV ι s (dt g o) g.t (n8 (dQ d o m))):JtV ι s d g (fc d j l):=by
 refine⟨λ_=>?_,λc=>by rw[a]at c;cases c⟩;unfold jX il at h;rcases hw with⟨c,e⟩|⟨c,e⟩
 rw[aph c,aph c,e,i]at h;rw[c,e];exact h;rw[ape (by rw[c];exact f),ape (by rw[c];exact f),c,i]at h;rw[c,e];exact h.symm
def ai1{c b o:aw}(hw:((fc d j c).a=b/\(fc d j c).b=o)\/((fc d j c).a=o/\(fc d j c).b=b))(e:o≠b)(f:(fc d j c).kind=0)
  (h:vV ι s (dt k b) k.t (n8 (jX d j c b))=vV ι s (dt k o) k.t (n8 (jX d j c o))):JtV ι s d k (fc d j c):=by
 refine⟨λ_=>?_,λa=>by rw[f]at a;cases a⟩;unfold jX at h;rcases hw with⟨a,g⟩|⟨a,g⟩
 rw[aph a,ape (by rw[a];exact aqZ e)]at h;rw[a,g];exact h;rw[ape (by rw[a];exact e),aph a]at h;rw[a,g];exact h.symm
def af0{b:As}(hu:Up k.t b.t){j:Jt}(c:Cj (yD k.t) (dt k j.a))(sb:Cj (yD k.t) (dt k j.b))(a:dt b j.a=dt k j.a)(eb:dt b j.b=dt k j.b)(h:JtV ι s d k j):JtV ι s d b j:=by unfold JtV;rw[a,eb,hu.at ι s c,hu.at ι s sb,hu.at ι s sb];exact h
end
variable {O:Pl} {k:As} {u:cA} {w:aM}
def Ag{b:aw}{T:aM}(c:b<yD k.bs)(i:aw):dt (k.BK b g T u) i=if i=b then g else dt k i:=by show(k.bs.set b g).getD i _=_;rw[apf,asP];by_cases h:b=i;subst h;simp[c];rw[ape h,ape (λe=>h e.symm)];rfl
def GX{b c:aw}{T:aM}(f:b<yD k.bs)(d:c<yD k.bs)(i:aw):dt (k.xC b c g O T u) i=if i=c then O else if i=b then g else dt k i:=by show((k.bs.set b g).set c O).getD i _=_;rw[apf,asP];by_cases h:c=i;subst h;simp[d];rw[ape h,ape (λe=>h e.symm)];have:=Ag (g:=g) (T:=T) (u:=u) f i;unfold dt As.BK at this;rw[apf]at this;exact this
def agt(x:Tn):x.cos*x.cos+x.sin*x.sin=1:=by
 have a:=x.Ff;unfold Tn.cos Tn.sin;cases c:x.half with
 |true=>
  simp only[gn];decide+kernel
 |false=>
  simp only[cy,jv];have e:x.den=((1:cA):cl)+x.t*x.t:=rfl;generalize x.den=d at a e;have b:((1:cA):cl)=1:=rfl;rw[b]at e⊢;generalize x.t=y at e
  grind
def z5.shB{n:aw}(h:z5 n w g):Cj (yD w) g:=⟨gP.sh h _ zb,gP.sh h _ zb,gP.sh h _ zb,gP.sh h _ zb⟩
def JtH(l:Lk)(a:As)(j:Jt):Prop:=∀(K:Type)[dH K](ι:pD cl K)(s:aw->K),Model ι s a.t (yD a.t)->JtV ι s l a j
def TnH(t:aM)(b:Pl)(x:Tn):Prop:=∀(K:Type)[dH K](ι:pD cl K)(s:aw->K),Model ι s t (yD t)->vl ι s t b.c=ι.φ x.cos/\vl ι s t b.s=ι.φ x.sin
def aeg(l:Lk)(s:Fn):Prop:=∀d<yD l.ds,yI s.nR (yI l.ds d bc).body aj=bj
def akY(l:Lk):Prop:=∀i j,i<yD l.ds->j<yD l.ds->(yI l.ds i bc).body=(yI l.ds j bc).body->i=j
def LU{l:Lk}(b:g7 l):∀n≤yD l.ds,∀d<n,(A0 l n).getD (yI l.ds d bc).body aj=bj
 |0,_,d,c=>by omega
 |n+1,e,d,c=>by
  rw[LS l za,CO,Ji];by_cases h:d<n;have:=LU b n za d h;rw[this];simp;obtain rfl:d=n:=za
  rw[aph ⟨rfl,b.body _ (aA za _)⟩]
def HN{l:Lk}{gs:ai Gp}:∀k≤yD gs,(Gn l gs k).nR=A0 l (yD l.ds)
 |0,_=>by rw[Gn,aqY];rfl
 |k+1,h=>by rw[vX za];exact HN k za
def aeO{l:Lk}(b:g7 l){gs:ai Gp}{k:aw}(h:k<=yD gs):aeg l (Gn l gs k):=λd c=>by rw[HN k h];exact LU b _ (apc _) d c
def zz{s:Fn}{i:aw}(h:r6 s i=bj):yI s.nR i aj=aj:=by unfold r6 at h;rw[dT]at h;simpa using h.2
structure VSt(l:Lk)(xs:ai Tn)(s:Fn)(a:As):Prop where
 sh:∀i,Cj a.t.length (dt a i)
 un:∀i,s.known.getD i aj=bj->JO a.t (dt a i)
 jo:∀j<l.js.length,s.used.getD j aj=bj->JtH l a (l.js.getD j bc)
 dv:∀d<l.ds.length,s.known.getD (l.ds.getD d bc).body aj=bj->TnH a.t (dt a (l.ds.getD d bc).body) (xs.getD d ⟨0,aj⟩)
 fr:dt a 0=⟨iq ((1:cA):cl),[],[],[]⟩
structure YJ(l:Lk)(xs:ai Tn)(s:Fn)(a a':As)(g:Gp):Prop where
 up:Up a.t a'.t
 FX:∀i,i∉g.bs->dt a' i=dt a i
 sh:∀i∈g.bs,Cj a'.t.length (dt a' i)
 un:∀i∈g.bs,JO a'.t (dt a' i)
 jo:∀j∈g.js,JtH l a' (l.js.getD j bc)
 dv:∀d<l.ds.length,(l.ds.getD d bc).body∈g.bs->TnH a'.t (dt a' (l.ds.getD d bc).body) (xs.getD d ⟨0,aj⟩)
def YJ.step{l:Lk}{xs:ai Tn}{s:Fn}{a q:As}{g:Gp}(w:g7 l)(u:qt l s)(hu:zV l s)(t:s.known.getD 0 aj=bj)(z:tC l s g)(st:VSt l xs s a)(n:YJ l xs s a q g):VSt l xs (s.add g) q:=by
 obtain⟨-,A⟩:=z.adF w;have c:∀i,s.known.getD i aj=bj->i∉g.bs:=λi b v=>by rw[(A i v).2]at b;cases b
 have o:∀i,(s.add g).known.getD i aj=bj->i∈g.bs\/s.known.getD i aj=bj:=λi b=>((m9 u g i).1 b).elim .inr λh=>.inl h.1
 refine⟨λi=>?_,λi b=>?_,λj y f=>?_,λd p x=>?_,?_⟩
 ·by_cases h:i∈g.bs
  ·exact n.sh i h
  ·rw[n.FX i h];exact(st.sh i).mono n.up.len.1
 ·obtain h|h:=o i b
  ·exact n.un i h
  ·rw[n.FX i (c i h)]
   intro K _ ι σ e;exact n.up.unit ι σ (st.sh i) (st.un i h K ι σ (n.up.model ι σ e))
 ·rcases(Di g.js s.used j).1 f with h|⟨h,-⟩
  ·obtain⟨m,k⟩:=hu j h
   intro K _ ι σ e;exact af0 ι σ n.up (st.sh _) (st.sh _) (n.FX _ (c _ m)) (n.FX _ (c _ k)) (st.jo j y h K ι σ (n.up.model ι σ e))
  ·exact n.jo j h
 ·obtain h|h:=o _ x
  ·exact n.dv d p h
  ·rw[n.FX _ (c _ h)]
   intro K _ ι σ e;obtain⟨m,k⟩:=st.dv d p h K ι σ (n.up.model ι σ e);exact⟨by rw[n.up.vl ι σ (st.sh _).c];exact m,by rw[n.up.vl ι σ (st.sh _).s];exact k⟩
 ·rw[n.FX 0 (c 0 t)];exact st.fr
section
variable {l:Lk} {xs:ai Tn} {s:Fn} {a:As} {r N D δ:aw}
def Pe(c:eJ (yD a.t) a.t)(st:VSt l xs s a){k b:aw}:fx (yD a.t) (il l j a k b):=by unfold il;split<;>exact JK c (st.sh _) _ _
def agn(A:j7 a.t)(V:g7 l)(lb:yD a.bs=yD l.bs)(Dx:akY l)(st:VSt l xs s a){d body o8:aw}(I:d<yD l.ds)(J:(yI l.ds d bc).body=body)(Q:yI s.known body aj=aj)(S:YM l s 0 body o8){ss:ai uU}(h:iX l a ⟨0,[body],[o8],d⟩ (rM xs ⟨0,[body],[o8],d⟩)=a6 ss):
  ∀z∈ss,YJ l xs s a (a.put ⟨0,[body],[o8],d⟩ z) ⟨0,[body],[o8],d⟩:=by
 have e:Kv l a ⟨0,[body],[o8],d⟩ body (yI xs d ⟨0,aj⟩)=a6 ss:=h;intro z F;simp only[Kv,eE]at e;subst e;rw[apg]at F;subst F;generalize R:yI xs d ⟨0,aj⟩=x;generalize H:(⟨0,[body],[o8],d⟩:Gp)=g;have v:g.bs=[body]:=by rw[<-H]
 have L:g.js=[o8]:=by rw[<-H]
 have Z:body<yD a.bs:=by rw[lb,<-J];exact V.body _ (aA I _)
 have X:a.put g ⟨a.t,[E9 l a g body x.cos x.sin],1⟩=a.BK body (E9 l a g body x.cos x.sin) a.t 1:=by unfold As.put;rw[v]
 rw[X];have pt:fx (yD a.t) (il l g a 0 body):=Pe A.sh st;have E:V2.sq ⟨((1:cA):cl),0⟩=1:=zy
 have P:V2.sq ⟨((1:cA):cl),0⟩≠0:=by rw[E];decide
 have q:=Ag (g:=E9 l a g body x.cos x.sin) (T:=a.t) (u:=1) Z;have Y:Cj (yD a.t) (E9 l a g body x.cos x.sin):=N6 A.sh (fx.of _ _ _) pt;obtain⟨Xw,t,o,U,O⟩:=S;have B:o≠body:=λe=>by rw[e,Q]at O;cases O
 have bv:∀(K:Type)[dH K](ι:pD cl K)(σ:aw->K),Model ι σ a.t (yD a.t)->vB ι σ a.t (E9 l a g body x.cos x.sin) ⟨((1:cA):cl),0⟩ (ι.φ x.cos) (ι.φ x.sin) (n8 (jX l g 0 body)) (vl ι σ a.t (il l g a 0 body).1) (vl ι σ a.t (il l g a 0 body).2):=λK _ ι σ c=>by
  have:=tx ι σ A.sh c (U:=⟨((1:cA):cl),0⟩) (X:=n8 (jX l g 0 body)) (l:=yC x.cos x.sin) (fx.of _ _ _) pt P;simp only[yC,gV]at this;exact this
 have i1:∀(K:Type)[dH K](ι:pD cl K),ι.φ ((1:cA):cl)=1:=λK _ ι=>ι.one
 have cs:∀(K:Type)[dH K](ι:pD cl K)(σ:aw->K),Model ι σ a.t (yD a.t)->vl ι σ a.t (E9 l a g body x.cos x.sin).c=ι.φ x.cos/\vl ι σ a.t (E9 l a g body x.cos x.sin).s=ι.φ x.sin:=λK _ ι σ c=>by
  have h:=bv K ι σ c;have k:=h.hc;have f:=h.hs;rw[E,ι.one,pU]at k f;simp only at k f;rw[i1,ι.zero]at k f;refine⟨k.trans ?_,f.trans ?_⟩
  ·generalize ι.φ x.cos=y
   generalize ι.φ x.sin=z;exact rg [y,z]
  ·generalize ι.φ x.cos=y
   generalize ι.φ x.sin=z;exact rg [y,z]
 refine⟨z1 rfl,λi b=>?_,λi b=>?_,λi b=>?_,λj G=>?_,λM Ax C=>?_⟩
 ·rw[v,apg]at b
  rw[q,ape b]
 ·rw[v,apg]at b
  rw[q,aph b];exact Y
 ·rw[v,apg]at b
  rw[q,aph b];intro K _ ι σ c;obtain⟨k,f⟩:=cs K ι σ c;show vl ι σ a.t _*vl ι σ a.t _+vl ι σ a.t _*vl ι σ a.t _=1;rw[k,f,<-ι.mul,<-ι.mul,<-ι.add,agt,ι.one]
 ·rw[L,apg]at G
  subst G;intro K _ ι σ c;have W:yI l.js j bc=fc l g 0:=by unfold fc;rw[L];rfl
  have hw:=mZ U B;rw[W]at hw t⊢;refine MT (k:=a) ι σ hw B t ?_ λm=>?_
  ·rw[q,aph rfl]
   exact(bv K ι σ c).o8 ι σ
  ·rw[q,ape B]
   exact Up.place ι σ (z1 rfl) A.sh c (st.sh o) (n8 (dQ l o m))
 ·rw[v,apg]at C
  have:M=d:=Dx M d Ax I (C.trans J.symm);subst this;rw[q,aph C,R];exact cs
end
section
variable {l:Lk} {xs:ai Tn} {s:Fn} {a:As} {r N D δ:aw}
def aaR(R:j7 a.t)(lb:yD a.bs=yD l.bs)(Q:aeg l s)(st:VSt l xs s a){i j y w u:aw}(pC:i<j)(hj:j<yD l.bs)(fi:r6 s i=bj)(fj:r6 s j=bj)(ha:YM l s 0 i y)(hb:YM l s 0 j w)(Y:(yI l.js u bc).kind=0)(oc:ud (yI l.js u bc) i=a6 j){x:Tn}{ss:ai uU}(h:iX l a ⟨1,[i,j],[y,w,u],0⟩ x=a6 ss):
  ∀z∈ss,Q7 N D a.t z->(∃b c,z.ps=[b,c])/\YJ l xs s a (a.put ⟨1,[i,j],[y,w,u],0⟩ z) ⟨1,[i,j],[y,w,u],0⟩:=by
 intro z hz V;have e:yB a.t (AX l ⟨1,[i,j],[y,w,u],0⟩ a 0 i) (AX l ⟨1,[i,j],[y,w,u],0⟩ a 1 j)=a6 ss:=h;clear h;generalize Z:(⟨1,[i,j],[y,w,u],0⟩:Gp)=g at e⊢;have I:g.bs=[i,j]:=by rw[<-Z]
 have L:g.js=[y,w,u]:=by rw[<-Z]
 have pt:∀k b,fx (yD a.t) (il l g a k b):=λk b=>Pe R.sh st
 have X:∀(K:Type)[dH K](ι:pD cl K)(σ:aw->K),Model ι σ z.T (yD z.T)->ah0 ι σ z.T (AX l g a 0 i) (AX l g a 1 j) z.ps:=λK _ ι σ t=>aly ι σ R.sh (pt 0 i) (pt 1 j) e z hz t
 obtain⟨K0,_,ι0,σ0,S⟩:=V.ok.model (yD z.T) (apc _);obtain⟨b,c,U,⟨sb,sc⟩,-⟩:=X K0 ι0 σ0 S;refine⟨⟨b,c,U⟩,?_⟩;have ea:a.put g z=a.xC i j b c z.T z.mode:=by unfold As.put;rw[I,U]
 rw[ea];have ki:=fQ fi;have kj:=fQ fj;have v:=GX (g:=b) (O:=c) (T:=z.T) (u:=z.mode) (k:=a) (b:=i) (c:=j) (by rw[lb];omega) (by rw[lb];exact hj)
 have B:i≠j:=za
 have O:dt (a.xC i j b c z.T z.mode) i=b:=by rw[v,ape B,aph rfl]
 have M:dt (a.xC i j b c z.T z.mode) j=c:=by rw[v,aph rfl]
 have A:∀(K:Type)[dH K](ι:pD cl K)(σ:aw->K),Model ι σ z.T (yD z.T)->(zW ι σ z.T b/\zW ι σ z.T c)/\vV ι σ b z.T (n8 (jX l g 0 i))=Ia ι σ z.T (il l g a 0 i)/\vV ι σ c z.T (n8 (jX l g 1 j))=Ia ι σ z.T (il l g a 1 j)/\vV ι σ b z.T (n8 (jX l g 2 i))=vV ι σ c z.T (n8 (jX l g 2 j)):=λK _ ι σ t=>by
  obtain⟨b',c',W,-,k2,k3,k4,k5⟩:=X K ι σ t;rw[U]at W;simp only[en,and_true]at W;obtain⟨rfl,rfl⟩:=W;exact⟨k2,k3,k4,k5⟩
 have F:∀{o:aw},yI s.known o aj=bj->o≠i/\o≠j:=λf=>⟨λe=>(by rw[e,ki]at f;cases f),λe=>(by rw[e,kj]at f;cases f)⟩
 have FX:∀o,yI s.known o aj=bj->dt (a.xC i j b c z.T z.mode) o=dt a o:=λo f=>by
  rw[v,ape (F f).2,ape (F f).1]
 have G:∀(K:Type)[dH K](ι:pD cl K)(σ:aw->K),Model ι σ z.T (yD z.T)->∀o,yI s.known o aj=bj->∀m,Ia ι σ z.T (kS l a o m)=vV ι σ (dt (a.xC i j b c z.T z.mode) o) z.T (n8 (dQ l o m)):=λK _ ι σ t o f m=>by
  rw[FX o f];exact Up.place ι σ V.tow R.sh t (st.sh o) (n8 (dQ l o m))
 refine⟨V.tow,λk f=>?_,λk f=>?_,λk f=>?_,λk f=>?_,λd hd C=>?_⟩
 ·rw[I]at f
  simp only[b4,bI,or_false,not_or]at f;rw[v,ape f.2,ape f.1]
 ·rw[I]at f
  simp only[b4,bI,or_false]at f;obtain rfl|rfl:=f
  ·rw[O];exact sb
  ·rw[M];exact sc
 ·rw[I]at f
  simp only[b4,bI,or_false]at f;obtain rfl|rfl:=f
  ·rw[O];exact λK _ ι σ t=>(A K ι σ t).1.1
  ·rw[M];exact λK _ ι σ t=>(A K ι σ t).1.2
 ·rw[L]at f
  simp only[b4,bI,or_false]at f;intro K _ ι σ t;obtain⟨-,k3,k4,k5⟩:=A K ι σ t;obtain rfl|rfl|rfl:=f
  ·obtain⟨h1,H,o,P,E⟩:=ha
   have J:yI l.js k bc=fc l g 0:=by unfold fc;rw[L];rfl
   have hw:=mZ P (F E).1;rw[J]at hw H⊢;exact MT (k:=a) ι σ hw (F E).1 H (by rw[O];exact k3) (G K ι σ t o E)
  ·obtain⟨h1,H,o,P,E⟩:=hb
   have J:yI l.js k bc=fc l g 1:=by unfold fc;rw[L];rfl
   have hw:=mZ P (F E).2;rw[J]at hw H⊢;exact MT (k:=a) ι σ hw (F E).2 H (by rw[M];exact k4) (G K ι σ t o E)
  ·have J:yI l.js k bc=fc l g 2:=by unfold fc;rw[L];rfl
   have hw:=mZ oc (aqZ B);rw[J]at hw Y⊢;exact ai1 ι σ hw (aqZ B) Y (by rw[O,M];exact k5)
 ·exfalso
  rw[I]at C;simp only[b4,bI,or_false]at C;have:=Q d hd;obtain C|C:=C
  ·rw[C,zz fi]at this;cases this
  ·rw[C,zz fj]at this;cases this
def RG(hT:dn δ a.t)(hl:g7 l)(hB:LkB r l)(pl:∀i,z5 n a.t (dt a i))(lb:yD a.bs=yD l.bs)(Q:aeg l s)(st:VSt l xs s a){i F c:aw}(hi:i<yD l.bs)(fi:r6 s i=bj)(ha:YM l s 0 i F)(hb:YM l s 1 i c){x:Tn}{ss:ai uU}(h:iX l a ⟨eO l i c,[i],[F,c],0⟩ x=a6 ss):
    ∀z∈ss,Q7 N D a.t z->(∃b,z.ps=[b])/\YJ l xs s a (a.put ⟨eO l i c,[i],[F,c],0⟩ z) ⟨eO l i c,[i],[F,c],0⟩:=by
  intro z hz P5;have j:=hT.b.ok;have ki:=fQ fi;have E:∀{o:aw},yI s.known o aj=bj->o≠i:=λf e=>by rw[e,ki]at f;cases f
  obtain⟨TD,w,p,hp,y⟩:=hb;have L:=mZ hp (E y);obtain⟨q1,q2,q3,q4,P⟩:=hl.at TD;have P:=P w;have jm:=aA TD (bc:Jt);have Y:=hl.ne _ jm w;generalize M:(⟨eO l i c,[i],[F,c],0⟩:Gp)=g at h⊢;have I:g.bs=[i]:=by rw[<-M]
  have gj:g.js=[F,c]:=by rw[<-M]
  have pt:∀k b,fx (yD a.t) (il l g a k b):=λk b=>Pe j.sh st
  have H:∃C:V2,True/\∀(K:Type)[dH K](ι:pD cl K)(σ:aw->K),Model ι σ z.T (yD z.T)->∃b,z.ps=[b]/\Cj (yD z.T) b/\zW ι σ z.T b/\vV ι σ b z.T (n8 (jX l g 0 i))=Ia ι σ z.T (il l g a 0 i)/\
      (((yI l.js c bc).a=i/\OnV (Ia ι σ z.T (kS l a (yI l.js c bc).b (yI l.js c bc).on)) (Ia ι σ z.T (kS l a (yI l.js c bc).b (yI l.js c bc).to)) (vV ι σ b z.T (n8 (dQ l i (yI l.js c bc).p))))\/
       ((yI l.js c bc).a≠i/\OnV (vV ι σ b z.T (n8 (dQ l i (yI l.js c bc).on))) (vV ι σ b z.T (n8 (dQ l i (yI l.js c bc).to))) (Ia ι σ z.T (kS l a (yI l.js c bc).a (yI l.js c bc).p)))):=by
    refine⟨⟨0,0⟩,trivial,λK _ ι σ q=>?_⟩
    by_cases f:(yI l.js c bc).a=i
    · have W:eO l i c=2:=by unfold eO;rw[aph f]
      have u:(yI l.js c bc).b=p:=(L.resolve_right λh=>(E y) (h.1.symm.trans f)).2
      have e:MR a.t (Ku l a (i:=i) g (yI l.js c bc)) (kS l a (yI l.js c bc).b (yI l.js c bc).on) (kS l a (yI l.js c bc).b (yI l.js c bc).to)=a6 ss:=by
        rw[<-M]at h⊢;rw[W]at h⊢;exact h
      have un:JO a.t (dt a (yI l.js c bc).b):=by rw[u];exact st.un _ y
      have ll:=IM hT hB pl q4 P un Y;obtain⟨b,v,G,V,U,S⟩:=anL ι σ j.sh (S:=Ku l a (i:=i) g (yI l.js c bc)) (pt 0 i) (JK j.sh (st.sh _) _ _) (JK j.sh (st.sh _) _ _) (λe0=>api (ll.symm.trans e0) zt) e z hz q
      exact⟨b,v,G,V,U,z1 ⟨f,S⟩⟩
    · have W:eO l i c=3:=by unfold eO;rw[ape f]
      have hw:=L.resolve_left λh=>f h.1
      have e:MI a.t (H0 l g a i (yI l.js c bc))=a6 ss:=by
        rw[<-M]at h⊢;rw[W]at h⊢;exact h
      rw[hw.2]at Y;have nz:(H0 l g a i (yI l.js c bc)).v.sq≠0:=V2.RD Y;obtain⟨b,v,G,V,U,S⟩:=anJ ι σ j.sh (x:=H0 l g a i (yI l.js c bc)) ⟨pt 0 i,JK j.sh (st.sh _) _ _⟩ nz e z hz q;exact⟨b,v,G,V,U,z2 ⟨f,S (n8 (dQ l i (yI l.js c bc).to)) rfl⟩⟩
  obtain⟨-,-,H⟩:=H;obtain⟨K0,_,ι0,σ0,R⟩:=P5.ok.model (yD z.T) (apc _);obtain⟨b,O,sb,-⟩:=H K0 ι0 σ0 R;refine⟨⟨b,O⟩,?_⟩;have ea:a.put g z=a.BK i b z.T z.mode:=by unfold As.put;rw[I,O]
  rw[ea];have X:=Ag (g:=b) (T:=z.T) (u:=z.mode) (k:=a) (b:=i) (by rw[lb];exact hi)
  have J:dt (a.BK i b z.T z.mode) i=b:=by rw[X,aph rfl]
  have FX:∀o,yI s.known o aj=bj->dt (a.BK i b z.T z.mode) o=dt a o:=λo f=>by rw[X,ape (E f)]
  have t:∀(K:Type)[dH K](ι:pD cl K)(σ:aw->K),Model ι σ z.T (yD z.T)->∀o,yI s.known o aj=bj->∀m,Ia ι σ z.T (kS l a o m)=vV ι σ (dt (a.BK i b z.T z.mode) o) z.T (n8 (dQ l o m)):=λK _ ι σ q o f m=>by
    rw[FX o f];exact Up.place ι σ P5.tow j.sh q (st.sh o) (n8 (dQ l o m))
  refine⟨P5.tow,λk f=>?_,λk f=>?_,λk f=>?_,λk f=>?_,λd hd hm=>?_⟩
  · rw[I,apg]at f
    rw[X,ape f]
  · rw[I,apg]at f
    subst f;rw[J];exact sb
  · rw[I,apg]at f
    subst f;rw[J];intro K _ ι σ q;obtain⟨b',B,-,k2,-⟩:=H K ι σ q;rw[O]at B;simp only[en,and_true]at B;subst B;exact k2
  · rw[gj]at f
    simp only[b4,bI,or_false]at f;intro K _ ι σ q;obtain⟨b',B,-,-,k3,k4⟩:=H K ι σ q;rw[O]at B;simp only[en,and_true]at B;subst B;obtain rfl|rfl:=f
    · obtain⟨v,G,o,ho,Z⟩:=ha
      have ej:yI l.js k bc=fc l g 0:=by unfold fc;rw[gj];rfl
      have hw:=mZ ho (E Z);rw[ej]at hw G⊢;exact MT (k:=a) ι σ hw (E Z) G (by rw[J];exact k3) (t K ι σ q o Z)
    · refine⟨λv=>(by rw[w]at v;cases v),λ_=>?_⟩
      rcases k4 with⟨f,k4⟩|⟨f,k4⟩
      · have u:(yI l.js k bc).b=p:=(L.resolve_right λh=>(E y) (h.1.symm.trans f)).2
        rw[u]at k4⊢;rw[t K ι σ q p y,t K ι σ q p y]at k4;rw[f,J];exact k4
      · have hw:=L.resolve_left λh=>f h.1
        rw[hw.1]at k4⊢;rw[t K ι σ q p y]at k4;rw[hw.2,J];exact k4
  · exfalso
    rw[I,apg]at hm;have:=Q d hd;rw[hm,zz fi]at this;cases this
end
structure Chn(gs:ai Gp)(nn ee up:aw->aw)(rr:b5):Prop where
 c0:1<=nn 0/\1<=ee 0
 top:∀k≤gs.length,nn (mS gs k)+783*Cv gs k<=up (mS gs k)
 nd:∀k≤gs.length,mS gs k<=4
 st:∀k<gs.length,(gs.getD k bc).kind≠0->mS gs k<=3/\up (mS gs k)<=nn (mS gs k+1)/\ee (mS gs k)<=ee (mS gs k+1)/\∀j≤mS gs k,ig 64 (up (mS gs k)) (ee (mS gs k)) j (nn (mS gs k+1)) (ee (mS gs k+1)) rr
 r3:∀k<gs.length,(gs.getD k bc).kind=1->rr=bj
 dr:∀k<gs.length,(gs.getD k bc).kind=0->nn (mS gs k)+783*Cv gs k+783<=MB
 tw:∀k≤gs.length,∀j≤mS gs k,JP (ee (mS gs k)) j/\JZ (up (mS gs k)) (ee (mS gs k)) j
def adt(g:g7 d)(P:Path d b)(u:yD d.js<=8)(x:yD d.ds<=2):∃nn o up f,Chn b nn o up f:=by
 obtain⟨r,q,p⟩:=P.counts g;have c:∀{k},k<=yD b->mS b k<=mS b (yD b):=λh=>abn h
 have md:∀{k},k<=yD b->Cv b k<=Cv b (yD b):=λh=>ac1 h
 have mp:∀{k},k<=yD b->prN b k<=prN b (yD b):=λh=>aay h
 by_cases w:mS b (yD b)<=3
 ·refine⟨nA,eA,λm=>nA m+1566,bj,?_⟩
  refine⟨⟨by decide,by decide⟩,λk a=>?_,λk a=>?_,λk a gs=>?_,λ_ _ _=>rfl,λk a e=>?_,λk a j l=>?_⟩
  ·have:=md a
   show _<=nA (mS b k)+1566;omega
  ·have:=c a;omega
  ·have h:=(FA a).1
   rw[ape gs]at h;have:=c (k:=k+1) za
   have hm:mS b k<3:=za
   exact⟨by omega,(ag_ _ hm).1,(ag_ _ hm).2,λj l=>aov _ j hm l⟩
  ·have h:=(FA a).2.1
   rw[aph e]at h;have:=md (k:=k+1) za
   have i:=aoD (mS b k) (by have:=c (k:=k) za;omega) (Cv b k) za
   refine apm (Nat.le_of_eq ?_) i;rw[asq,arf]
  ·have hm:mS b k<=3:=by have:=c a;omega
   exact⟨ann _ hm j l,aoB _ hm j l⟩
 ·have t:Cv b (yD b)=0:=za
  have s:prN b (yD b)=0:=za
  have v:mS b (yD b)<=4:=za
  refine⟨nS,eS,nS,aj,?_⟩;refine⟨⟨by decide,by decide⟩,λk a=>?_,λk a=>?_,λk a gs=>?_,λk a n=>?_,λk a e=>?_,λk a j l=>?_⟩
  ·have:=md a;omega
  ·have:=c a;omega
  ·have h:=(FA a).1
   rw[ape gs]at h;have:=c (k:=k+1) za
   have hm:mS b k<4:=za
   exact⟨by omega,(ag9 _ hm).1,(ag9 _ hm).2,λj l=>aou _ j hm l⟩
  ·have h:=(FA a).2.2
   rw[aph n]at h;have:=mp (k:=k+1) za
   omega
  ·have h:=(FA a).2.1
   rw[aph e]at h;have:=md (k:=k+1) za
   omega
  ·have hm:mS b k<=4:=by have:=c a;omega
   exact⟨anm _ hm j l,aoA _ hm j l⟩
structure Rl(l:Lk)(xs:ai Tn):Prop where
 ok:g7 l
 sz:LkB 64 l
 b6:l.bs.length<=6
 j8:l.js.length<=8
 d2:l.ds.length<=2
 nd:akY l
 len:xs.length=l.ds.length
 tr:∀x∈xs,iC 64 x.t/\(x.half=bj->x.t=0)
def Rl.V5{l:Lk}{xs:ai Tn}(h:Rl l xs)(i:aw):iC 64 (yI xs i ⟨0,aj⟩).t/\((yI xs i ⟨0,aj⟩).half=bj->(yI xs i ⟨0,aj⟩).t=0):=by
 obtain b|b:=apy i (yD xs)
 exact h.tr _ (aA b _);rw[apf,apL b];exact⟨iC.zero 64,λh=>by cases h⟩
def Rl.rM{l:Lk}{xs:ai Tn}(h:Rl l xs)(g:Gp):iC 64 (rM xs g).t/\((rM xs g).half=bj->(rM xs g).t=0):=by unfold Tw.rM;split;exact h.V5 _;exact⟨iC.zero 64,λh=>by cases h⟩
structure Hl(l:Lk)(xs:ai Tn)(gs:ai Gp)(nn ee:aw->aw)(k:aw)(a:As):Prop where
 hk:k<=gs.length
 ms:a.ms.length=k
 lb:a.bs.length=l.bs.length
 tl:a.t.length<=mS gs k
 ok:j7 a.t
 bt:yx (ee (mS gs k)) a.t
 pl:∀i,z5 (nn (mS gs k)+783*Cv gs k) a.t (dt a i)
 v:VSt l xs (Gn l gs k) a
section
variable {l:Lk} {xs:ai Tn} {gs:ai Gp} {nn ee up:aw->aw} {rr:b5} {k:aw} {a:As}
def Hl.tow(c:Chn gs nn ee up rr)(w:Hl l xs gs nn ee k a):dn (ee (mS gs k)) a.t:=by obtain⟨⟨d,b,-,-⟩,-⟩:=c.tw k w.hk (yD a.t) w.tl;exact⟨⟨w.ok,w.bt,d⟩,b⟩
def aha(l:Lk)(gs:ai Gp):Gn l gs 0=vU l:=by rw[Gn,aqY];rfl
def E2{l:Lk}{i:aw}:(vU l).known.getD i aj=bj↔i=0/\0<yD l.bs:=by
 show((cd (yD l.bs) aj).set 0 bj).getD i aj=bj↔_;rw[CO,aqb];have:(cd (yD l.bs) aj).getD i aj=aj:=by rw[apf,aqy];split<;>rfl
 rw[this];by_cases h:0=i/\0<yD l.bs;rw[aph h];exact⟨λ_=>⟨h.1.symm,h.2⟩,λ_=>rfl⟩;rw[ape h];exact⟨λe=>(by cases e),λe=>api ⟨e.1.symm,e.2⟩ h⟩
def abQ{l:Lk}(b:g7 l){gs:ai Gp}:∀k≤yD gs,(Gn l gs k).known.getD 0 aj=bj
 |0,_=>by rw[aha];exact E2.2 ⟨rfl,b.b0⟩
 |k+1,h=>by rw[vX za];exact(m9 (yM l gs k za) _ 0).2 (z1 (abQ b k za))
def HM(n i:aw):dt (iT n) i=if i=0 then⟨iq ((1:cA):cl),[],[],[]⟩else pl0:=by
 cases i with
 |zero=>rfl
 |succ i=>
  rw[ape za];show((_::cd (n-1) pl0).getD (i+1) pl0)=_;rw[aru,apf,aqy];split<;>rfl
def Hl.start(c:Chn gs nn ee up rr)(S:Rl l xs):Hl l xs gs nn ee 0 (iT (yD l.bs)):=by
 have r:mS gs 0=0:=by unfold mS;rw[aqY];rfl
 have d0:Cv gs 0=0:=by unfold Cv;rw[aqY];rfl
 have z:∀n,z5 n [] pl0:=λn=>⟨λx b=>by
  simp only[pl0,b4,bI,or_false,or_self]at b;subst b;exact .nil _,1,1,by omega,ase,ase,λx b=>by
  simp only[pl0,b4,bI,or_false,or_self]at b;subst b;obtain⟨D,B,h,g,u,t⟩:=Bt.nil 0;exact Ms.nil _ _⟩
 have f:z5 1 [] ⟨iq ((1:cA):cl),[],[],[]⟩:=by
  have h:=gP.one (iC.num (iC.int (m:=0) 1 zt) [])
  have g:=gP.both h (z 1);exact gP.sub g λx b=>by
   simp only[b4,bI,or_false]at b;simp only[pl0,p5,b4,bI,or_false];obtain rfl|rfl|rfl|rfl:=b
   ·exact z1 rfl
   ·exact z2 (z1 rfl)
   ·exact z2 (z1 rfl)
   ·exact z2 (z1 rfl)
 have pl:∀i,z5 1 [] (dt (iT (yD l.bs)) i):=λi=>by
  rw[HM];split
  ·exact f
  ·exact z 1
 have v:=S.ok.b0;refine⟨apJ _,rfl,?_,apJ _,⟨apJ _,λj e=>by simp[iT]at e,λj e=>by simp[iT]at e⟩,⟨1,1,by omega,ase,ase,λj=>by
  show Ms 1 1 (([]:ai (ai cl)).getD j []);rw[List.getD_nil];exact Ms.nil _ _⟩,λi=>?_,?_⟩
 ·show(_::cd _ _).length=_
  rw[aqO,aqb];omega
 ·rw[r,d0]
  exact z5.mono (pl i) (by have:=c.c0.1;omega)
 ·rw[aha]
  refine⟨λi=>(pl i).shB,λi p=>?_,λj e hu=>?_,λd q o=>?_,rfl⟩
  ·obtain⟨rfl,-⟩:=E2.1 p
   intro K _ ι σ s;rw[HM,aph rfl];change vl ι σ ([]:aM) (iq ((1:cA):cl))*vl ι σ ([]:aM) (iq ((1:cA):cl))+vl ι σ ([]:aM) ([]:ai cl)*vl ι σ ([]:aM) ([]:ai cl)=1;rw[gV,Ht,show ι.φ ((1:cA):cl)=1 from ι.one,zY.pU,zY.bB,zY.add_zero']
  ·have:=Qr l j hu
   have g:(vU l).used.getD j aj=aj:=by
    show(cd (yD l.js) aj).getD j aj=aj;rw[apf,aqy];split<;>rfl
   rw[g]at hu;cases hu
  ·exact api (E2.1 o).1 (S.ok.amZ _ (aA q _))
end
variable {S:Hd}
def afc{B:Hd}{ss:ai uU}(h:yB w S B=a6 ss):yD ss<=2:=by
 unfold yB at h
 repeat' split at h
 all_goals first
  |cases h;done
  |(simp only[zIq]at h;subst h;simp only[ey,fl];omega)
def aiN{q:Pt}{ss:ai uU}(h:MR w S m q=a6 ss):yD ss<=2:=by
 unfold MR at h
 repeat' split at h
 all_goals first
  |cases h;done
  |(simp only[zIq]at h;subst h;simp only[ey,fl];omega)
def afe{x:Rp}{ss:ai uU}(h:MI w x=a6 ss):yD ss<=2:=by
 unfold MI at h
 repeat' split at h
 all_goals first
  |cases h;done
  |(simp only[zIq]at h;subst h;simp only[ey,fl];omega)
def aj4{l:Lk}{a:As}{g:Gp}{x:Tn}{ss:ai uU}(h:iX l a g x=a6 ss):yD ss<=2:=by unfold iX at h;split at h;simp only[Kv,zIq]at h;subst h;simp;exact afc h;exact aiN h;exact afe h;cases h
def D8(a:As)(g:Gp)(z:uU):Prop:=(∃b p,g.bs=[b]/\z.ps=[p]/\b<yD a.bs)\/∃b c p q,g.bs=[b,c]/\z.ps=[p,q]/\b<yD a.bs/\c<yD a.bs
def MN{a:As}{g:Gp}{z:uU}(h:D8 a g z):(∀i,i∉g.bs->dt (a.put g z) i=dt a i)/\(∀i∈g.bs,dt (a.put g z) i∈z.ps)/\(a.put g z).t=z.T/\(a.put g z).ms=a.ms++[z.mode]/\(a.put g z).bs.length=yD a.bs:=by
 rcases h with⟨b,p,j,f,o⟩|⟨b,c,p,q,j,f,o,t⟩
 ·have e:a.put g z=a.BK b p z.T z.mode:=by unfold As.put;rw[j,f]
  have r:=Ag (g:=p) (T:=z.T) (u:=z.mode) o;rw[e,j,f];refine⟨λi d=>?_,λi d=>?_,rfl,rfl,by simp[As.BK]⟩
  ·rw[apg]at d;rw[r,ape d]
  ·rw[apg]at d;rw[r,aph d];simp
 ·have e:a.put g z=a.xC b c p q z.T z.mode:=by unfold As.put;rw[j,f]
  have n:=GX (g:=p) (O:=q) (T:=z.T) (u:=z.mode) o t;rw[e,j,f];refine⟨λi d=>?_,λi d=>?_,rfl,rfl,by simp[As.xC]⟩
  ·simp only[b4,bI,or_false,not_or]at d
   rw[n,ape d.2,ape d.1]
  ·rw[n]
   split
   ·simp
   ·rename_i s
    simp only[b4,bI,or_false]at d;rw[aph (d.resolve_right s)];simp
def TG(n:aa G){a:As}{g:Gp}{z:uU}(h:D8 a g z)(s:2<=yD a.bs)(o:yD a.bs<=6)(r:yD a.ms<=4):Spec zZq G 85 [qx a,GpD g,Q6 z] (qx (a.put g z)):=by
 obtain⟨v,t,w,d⟩:=g;obtain⟨T,j,m⟩:=z;rcases h with⟨b,p,f,e,i⟩|⟨b,c,p,q,f,e,i,u⟩
 have f:t=[b]:=f;have e:j=[p]:=e;subst f e;exact Yt n s o r i;have f:t=[b,c]:=f;have e:j=[p,q]:=e;subst f e;exact Ys n s o r i u
section
variable {l:Lk} {xs:ai Tn} {gs:ai Gp} {nn ee up:aw->aw} {rr:b5} {k:aw} {a:As}
def Hl.put(S:Rl l xs)(P:Path l gs)(w:Hl l xs gs nn ee k a)(f:k<yD gs){z:uU}{N D:aw}(c:Q7 N D a.t z)(t:D8 a (yI gs k bc) z)(p:YJ l xs (Gn l gs k) a (a.put (yI gs k bc) z) (yI gs k bc))(r:yD z.T<=mS gs (k+1))(h:nn (mS gs k)+783*Cv gs k<=nn (mS gs (k+1))+783*Cv gs (k+1))(v:N<=nn (mS gs (k+1))+783*Cv gs (k+1))(u:D<=ee (mS gs (k+1))):Hl l xs gs nn ee (k+1) (a.put (yI gs k bc) z):=by
 have s:=P.step k f;have q:=yM l gs k za;obtain⟨o,n,b,m,j⟩:=MN t;refine⟨f,by rw[m,ap4,w.ms];rfl,by rw[j,w.lb],by rw[b];exact r,by rw[b];exact c.ok,by rw[b];exact yx.mono c.bt u,λi=>?_,?_⟩;rw[b];by_cases g:i∈(yI gs k bc).bs;exact z5.mono (c.ps _ (n i g)) v;rw[o i g];obtain e|⟨d,e⟩:=c.tow
 rw[e];exact z5.mono (w.pl i) h;rw[e];exact z5.mono ((w.pl i).up d) h;rw[vX f];exact p.step S.ok q (P.used S.ok k za) (abQ S.ok k za) s w.v
def Hl.solve(hG:aa G)(c:Chn gs nn ee up rr)(S:Rl l xs)(P:Path l gs)(HP:Spec zZq G 47 [lM l] (.aP [aQ kg gs,zT .nilIface]))(ck:Spec zZq G 37 [lM l] (zT .nilIface))(w:Hl l xs gs nn ee k a)(p:k<yD gs):
  Spec zZq G 83 [lM l,nat k,J5 (rM xs (yI gs k bc)),qx a] (J_ (iX l a (yI gs k bc) (rM xs (yI gs k bc))))/\
   ∀ss,iX l a (yI gs k bc) (rM xs (yI gs k bc))=a6 ss->∀z∈ss,D8 a (yI gs k bc) z/\Hl l xs gs nn ee (k+1) (a.put (yI gs k bc) z):=by
 have K:=P.step k p;have hs:=yM l gs k za
 have X:=w.tow c;have T:=S.rM (yI gs k bc);have nd4:=c.nd k za
 have top:=c.top k za
 obtain⟨⟨-,-,t3,t4⟩,e1,-,-⟩:=c.tw k za (yD a.t) w.tl
 have C:=w.tl;obtain⟨s1,s2,-⟩:=FA p;have B:=aeO S.ok (gs:=gs) (k:=k) za
 have op:Fx G l a gs k (yI gs k bc) (ee (mS gs k)):=⟨HP,ck,p,rfl,X,w.lb,λi=>(w.pl i).ok za⟩
 have gb:=K.adF S.ok;have run:∀(n N D:aw),nn (mS gs k)+783*Cv gs k<=n->n<=up (mS gs k)->((yI gs k bc).kind≠0->ig 64 n (ee (mS gs k)) (yD a.t) N D rr)->((yI gs k bc).kind=0->aeh 64 n (ee (mS gs k)) (yD a.t) N/\ee (mS gs k)<=D)->_:=
  λn N D J Y1 F Fd=>acp hG S.ok S.sz op hs K ⟨λi=>z5.mono (w.pl i) J,w.v.un⟩ (by
   by_cases Y:(yI gs k bc).kind=0
   ·exact z2 Y
   ·exact z1 (apm C (c.st k p Y).1)) za za F (c.r3 k p) Fd T.1 T.2
 generalize o:yI gs k bc=g at*;cases K with
 |sO d body o8 W v kb hp=>
  have L:=c.dr k p (by rw[o])
  obtain⟨y,x⟩:=run (nn (mS gs k)+783*Cv gs k) (nn (mS gs k)+783*Cv gs k+783) (ee (mS gs k)) (apc _) top (λh=>api rfl h) λ_=>⟨⟨t3,t4,by omega,L⟩,apc _⟩
  refine⟨y,λss f z q=>?_⟩
  have r:=x ss f z q;have A:=agn w.ok S.ok w.lb S.nd w.v W v kb hp f z q;have Z:z=⟨a.t,[E9 l a ⟨0,[body],[o8],d⟩ body (yI xs d ⟨0,aj⟩).cos (yI xs d ⟨0,aj⟩).sin],1⟩:=by
   have e:Kv l a ⟨0,[body],[o8],d⟩ body (yI xs d ⟨0,aj⟩)=a6 ss:=f;simp only[Kv,zIq]at e;subst e
   rwa [apg]at q
  have t:D8 a ⟨0,[body],[o8],d⟩ z:=z1 ⟨body,_,rfl,by rw[Z],by rw[w.lb,<-v];exact S.ok.body _ (aA W _)⟩
  refine⟨t,?_⟩;have m:mS gs (k+1)=mS gs k:=s1;have u:Cv gs (k+1)=Cv gs k+1:=s2;have:=Hl.put S P w p r (by rw[o];exact t) (by rw[o];exact A) (by rw[m,Z];exact C) (by rw[m,u];omega) (by rw[m,u];omega) (by rw[m];exact apc _)
  rw[o]at this;exact this
 |pair i j H s jc pC U O fj M v hc kc oc=>
  obtain⟨r1,r2,r3,I⟩:=c.st k p (by rw[o];intro e;cases e)
  obtain⟨y,x⟩:=run (up (mS gs k)) (nn (mS gs k+1)) (ee (mS gs k+1)) top (apc _) (λ_=>I _ C) λh=>by cases h
  refine⟨y,λss f z q=>?_⟩
  have r:=x ss f z q;obtain⟨⟨Q,c1,R⟩,A⟩:=aaR w.ok w.lb B w.v pC U O fj M v kc oc f z q r;have t:D8 a ⟨1,[i,j],[H,s,jc],0⟩ z:=z2 ⟨i,j,Q,c1,rfl,R,by rw[w.lb];omega,by rw[w.lb];exact U⟩
  refine⟨t,?_⟩;have m:mS gs (k+1)=mS gs k+1:=s1;have u:Cv gs (k+1)=Cv gs k:=s2;have lT:yD z.T<=yD a.t+1:=(Up.len r.tow).2;have:=Hl.put S P w p r (by rw[o];exact t) (by rw[o];exact A) (by rw[m];omega) (by rw[m,u];omega) (by rw[m,u];omega) (by rw[m];exact apc _)
  rw[o]at this;exact this
 |single i H s V O M v=>
  have E:(⟨eO l i s,[i],[H,s],0⟩:Gp).kind≠0:=λh=>by
   have h:eO l i s=0:=h;rcases Uq (d:=l) (c:=i) (e:=s)with h'|h'<;>omega
  obtain⟨r1,r2,r3,I⟩:=c.st k p (by rw[o];exact E)
  obtain⟨y,x⟩:=run (up (mS gs k)) (nn (mS gs k+1)) (ee (mS gs k+1)) top (apc _) (λ_=>I _ C) λh=>api h E
  refine⟨y,λss f z q=>?_⟩
  have r:=x ss f z q;obtain⟨⟨Q,R⟩,A⟩:=RG X S.ok S.sz w.pl w.lb B w.v V O M v f z q r;have t:D8 a ⟨eO l i s,[i],[H,s],0⟩ z:=z1 ⟨i,Q,rfl,R,by rw[w.lb];exact V⟩
  refine⟨t,?_⟩;have m:mS gs (k+1)=mS gs k+1:=by rw[s1,ape E]
  have u:Cv gs (k+1)=Cv gs k:=by rw[s2,ape E];rfl
  have lT:yD z.T<=yD a.t+1:=(Up.len r.tow).2;have:=Hl.put S P w p r (by rw[o];exact t) (by rw[o];exact A) (by rw[m];omega) (by rw[m,u];omega) (by rw[m,u];omega) (by rw[m];exact apc _)
  rw[o]at this;exact this
end
def Wj{l:Lk}{g:Gp}{x:Tn}{ss:ai uU}(h:iX l k g x=a6 ss):(ss.map (·.mode)).Nodup:=by
 have r:∀{t A B ss},yB t A B=a6 ss->(ss.map (·.mode)).Nodup:=λ{t A B ss} h=>by
  unfold yB at h
  repeat' split at h
  all_goals first
   |cases h;done
   |(simp only[zIq]at h;subst h;simp)
 have p:∀{t A q b ss},MR t A q b=a6 ss->(ss.map (·.mode)).Nodup:=λ{t A q b ss} h=>by
  unfold MR at h
  repeat' split at h
  all_goals first
   |cases h;done
   |(simp only[zIq]at h;subst h;simp)
 have q:∀{t x ss},MI t x=a6 ss->(ss.map (·.mode)).Nodup:=λ{t x ss} h=>by
  unfold MI at h
  repeat' split at h
  all_goals first
   |cases h;done
   |(simp only[zIq]at h;subst h;simp)
 unfold iX at h;split at h;simp only[Kv,zIq]at h;subst h;simp;exact r h;exact p h;exact q h;cases h
structure Found(Q:As->Prop)(pre:ai cA)(new:ai As):Prop where
 q:∀x∈new,Q x
 pre:∀x∈new,pre<+:x.ms
 ne:new.Pairwise λx y=>x.ms≠y.ms
def Found.nil{Q:As->Prop}{pre:ai cA}:Found Q pre []:=⟨λ_ h=>(by cases h),λ_ h=>(by cases h),.nil⟩
def aiL{pre:ai cA}{n:cA}{m v:ai cA}(a:u≠n)(c:pre++[u]<+:m)(b:pre++[n]<+:v):m≠v:=by obtain⟨f,rfl⟩:=c;obtain⟨d,rfl⟩:=b;intro e;simp only[ra,List.append_cancel_left_eq,pa,en]at e;exact a e.1
def FJ{f:As->ai As->ai As×b5}{a:As}{g:Gp}{Q:As->Prop}:∀{ss:ai uU}{o:ai As},(ss.map (·.mode)).Nodup->(∀s∈ss,∀o,∃new,(f (a.put g s) o).1=o++new/\Found Q (a.ms++[s.mode]) new)->∃new,(qv f a g ss o).1=o++new/\(∀x∈new,∃s∈ss,(a.ms++[s.mode])<+:x.ms)/\Found Q a.ms new
 |[],o,_,_=>⟨[],by simp[qv],λ_ h=>(by cases h),.nil⟩
 |s::ss,o,q,h=>by
  obtain⟨k,r,d⟩:=h s (apw ..) o;have pr1:∀x∈k,a.ms<+:x.ms:=λx c=>(List.prefix_append _ _).trans (d.pre x c)
  rw[are,List.nodup_cons]at q;simp only[qv];cases A:f (a.put g s) o with
  |mk o1 b=>
   rw[A]at r;simp only at r;subst r;cases b with
   |false=>exact⟨k,rfl,λx c=>⟨s,apw ..,d.pre x c⟩,⟨d.q,pr1,d.ne⟩⟩
   |true=>
    obtain⟨v,B,u,t⟩:=FJ (ss:=ss) (o:=o++k) q.2 λj z=>h j (apX _ z)
    simp only;refine⟨k++v,by rw[B,aqV],λx c=>?_,⟨λx c=>?_,λx c=>?_,List.pairwise_append.2 ⟨d.ne,t.ne,λx c y w=>?_⟩⟩⟩;obtain c|c:=aps.1 c
    exact⟨s,apw ..,d.pre x c⟩;obtain⟨j,i,p⟩:=u x c;exact⟨j,apX _ i,p⟩;exact(aps.1 c).elim (d.q x) (t.q x);exact(aps.1 c).elim (pr1 x) (t.pre x);obtain⟨j,i,p⟩:=u y w;exact aiL (u:=s.mode) (n:=j.mode) (λe=>q.1 (by rw[e];exact ard i)) (d.pre x c) p
section
variable {l:Lk} {xs:ai Tn} {gs:ai Gp} {nn ee up:aw->aw} {rr:b5}
def Hl.clone(c:Chn gs nn ee up rr)(S:Rl l xs)(P:Path l gs)(w:Hl l xs gs nn ee (yD gs) k):Spec zZq G 82 [qx k] (qx k):=by
 have top:=c.top (yD gs) (apc _);obtain⟨⟨t1,-,-,-⟩,J,-,-⟩:=c.tw (yD gs) (apc _) (yD k.t) w.tl;have B:MB<=NB:=z8;have F:=w.tl;have t4:=c.nd (yD gs) (apc _);have A:∀i,CnP G (dt k i):=λi=>by
  have y:=w.pl i;have h:∀x∈[(dt k i).c,(dt k i).s,(dt k i).x,(dt k i).y],Cn G x:=λx u=>ai' a w.ok (gP.num y u) za
  exact⟨h _ zb,h _ zb,h _ zb,h _ zb⟩
 have d:∀b∈k.bs,CnP G b:=λb m=>by
  obtain⟨i,z,e⟩:=apF.1 m;have:=A i;unfold dt at this;rw[apf,apj z]at this;rw[<-e];exact this
 have v:∀r∈k.t,Cn G r:=λr g=>by
  obtain⟨j,p,e⟩:=apF.1 g;have q:=yx.root w.bt j;have f:=w.ok.sh j p;rw[apf,apj p,uS,e]at q f;have C:ee (mS gs (yD gs))<=NB:=apm (sV _ _ _) t1;refine Jn a ?_ (q.fit C);rw[f];have:2^j<=2^4:=apI za za
  omega
 have K:=S.b6;have I:=(P.counts S.ok).2.2;have o:yD k.ms<=1000:=by rw[w.ms];omega
 by_cases f:2<=yD k.bs
 ·exact agw a f (by rw[w.lb];exact S.b6) za o v d
 ·rw[w.lb]at f
  have D:yD gs=0:=za
  have L:=S.ok.b0;have H:mS gs (yD gs)=0:=by rw[D];unfold mS;rw[aqY];rfl
  have lt:k.t=[]:=ap8 za
  have s:yD k.bs=1:=by rw[w.lb];omega
  obtain⟨b,n⟩:=ap_.1 s;obtain⟨t,E,ms⟩:=k;have lt:t=[]:=lt;have n:E=[b]:=n;subst lt n;exact Yb a o (d b zb)
def anK(f:aa G)(c:Chn gs nn ee up rr)(S:Rl l xs)(P:Path l gs)(p:Spec zZq G 47 [lM l] (.aP [aQ kg gs,zT .nilIface]))(ck:Spec zZq G 37 [lM l] (zT .nilIface)):Road G l xs gs (Hl l xs gs nn ee)where
 len k a w:=⟨w.ms,w.hk⟩
 leaf a w:=w.clone f c S P
 dr k e j:=by
  have o:=P.step k e;rw[S.len];generalize yI gs k bc=g at o j;cases o with
  |sO d body o8 r s y B=>exact r
  |pair=>cases j
  |single i A n C F D s=>
   have j:eO l i n=0:=j;rcases Uq (d:=l) (c:=i) (e:=n)with v|v<;>omega
 sol k a w e:=(w.solve f c S P p ck e).1
 two k a w e m h:=aj4 h
 next k a w e m h z q:=by obtain⟨u,t⟩:=(w.solve f c S P p ck e).2 m h z q;have E:=(P.counts S.ok).2.2;have x:=S.b6;exact⟨TG f u (by rw[w.lb];omega) (by rw[w.lb];exact x) (by rw[w.ms];omega),t⟩
def Hs{Q:aw->As->Prop}(R:Road G l xs gs Q)(c:∀k a,Q k a->k<yD gs->∀ss,iX l a (yI gs k bc) (rM xs (yI gs k bc))=a6 ss->∀s∈ss,(a.put (yI gs k bc) s).ms=a.ms++[s.mode]):∀(n k:aw)(a:As),Q k a->yD gs-k=n->∀o:ai As,∃new,(pG l xs (gs.drop k) a o).1=o++new/\Found (Q (yD gs)) a.ms new
 |0,k,a,q,r,o=>by
  obtain⟨-,d⟩:=R.len k a q;obtain rfl:k=yD gs:=za
  rw[ar1];refine⟨[a],rfl,⟨λx b=>?_,λx b=>?_,List.pairwise_singleton _ _⟩⟩;rw[apg]at b;rw[b];exact q;rw[apg]at b;rw[b];exact asY _
 |n+1,k,a,q,r,o=>by
  have i:k<yD gs:=za
  have t:gs.drop k=yI gs k bc::gs.drop (k+1):=AI i bc;have e:=R.next k a q i
  rw[t];simp only[pG];cases h:iX l a (yI gs k bc) (rM xs (yI gs k bc))with
  |none=>exact⟨[],by simp,.nil⟩
  |some ss=>
   have e:=e ss h;obtain⟨new,j,-,d⟩:=FJ (f:=pG l xs (gs.drop (k+1))) (a:=a) (g:=yI gs k bc) (Q:=Q (yD gs)) (o:=o) (Wj h) λs m o=>by have p:=(e s m).2;obtain⟨new,j,d⟩:=Hs R c n (k+1) _ p za o;have em:(a.put (yI gs k bc) s).ms=a.ms++[s.mode]:=c k a q i ss h s m;rw[em]at d;exact⟨new,j,d⟩
   exact⟨new,j,d⟩
noncomputable def YA(l:Lk)(xs:ai Tn)(gs:ai Gp):ai As×b5:=pG l xs gs (iT (yD l.bs)) []
def Ma(d:aa G)(c:Chn gs nn ee up rr)(S:Rl l xs)(P:Path l gs)(i:∀x∈xs,TnC G x)(e:Spec zZq G 47 [lM l] (.aP [aQ kg gs,zT .nilIface]))(ck:Spec zZq G 37 [lM l] (zT .nilIface)):
  Spec zZq G 9 [lM l,aQ Y9 xs] (adW (YA l xs gs))/\(YA l xs gs).1.length<=100/\Found (Hl l xs gs nn ee (yD gs)) [] (YA l xs gs).1:=by
 have R:=anK d c S P e ck;have st:=Hl.start (gs:=gs) c S;have r:=(P.counts S.ok).2.2;have s:=S.b6;have o:2^(yD gs-0)<=2^5:=apI za za;obtain⟨W,b⟩:=Ox d R (yD gs-0) 0 _ st rfl [] (by simp only[fl];omega);rw[aqD]at W b;obtain⟨new,f,n⟩:=Hs R (λk a q m g j z h=>(MN ((q.solve d c S P e ck m).2 g j z h).1).2.2.2.1) (yD gs-0) 0 _ st rfl [];rw[aqD,aq0]at f;refine⟨am2 d e S.len (by have:=S.len;have:=S.d2;omega) i S.ok.b0 S.b6 W,?_,?_⟩;have p:(YA l xs gs).1.length<=0+2^(yD gs-0):=b;omega;show Found _ [] (pG l xs gs (iT (yD l.bs)) []).1;rw[f];exact n
end
variable {t:aM} {δ:aw}
def at5[dH h](ι:pD cl h)(s:aw->h)(b:Sh (yD t) l.1)(a:Sh (yD t) m.1):vl ι s t (fS l m).1=vl ι s t l.1-vl ι s t m.1:=dU ι s b a
def at4[dH h](ι:pD cl h)(s:aw->h)(b:Sh (yD t) l.2)(a:Sh (yD t) m.2):vl ι s t (fS l m).2=vl ι s t l.2-vl ι s t m.2:=dU ι s b a
def zB{m:aw}(E:JZ n δ (yD t))(f:m<=8*n+2*tb δ (yD t)+1500){a b:ai cl}(d:aH m t a)(c:aH m t b):apd δ t a b:=by
 obtain⟨-,e,-⟩:=E;exact⟨m,m,d,c,apm (pJ δ _ za) e⟩
def u8(n:aw):D:=zT (.int .u8 (zNq n))
def xw(s:cB):D:=zT (.string s)
def pV(n:aw):b5:=(decide (65<=n)&&decide (n<=90))||(decide (97<=n)&&decide (n<=122))
def yE(n:aw):b5:=decide (48<=n)&&decide (n<=57)
def ve(n:aw):b5:=pV n||yE n||decide (n=95)
def B9(h:e<=c):decide (zNq c>=zNq e)=bj:=zu
def Ny(h:¬e<=c):decide (zNq c>=zNq e)=aj:=zu
def Nj(h:c<=e):decide (zNq c<=zNq e)=bj:=zu
def Kh(h:¬c<=e):decide (zNq c<=zNq e)=aj:=zu
def B1(n:aw):Spec zZq G 184 [u8 n] (bool (pV n)):=by
 by_cases b:65<=n
 ·by_cases d:n<=90
  ·have e:pV n=bj:=by simp[pV,b,d]
   rw[e];exact Spec.r a func184 [] [.eb 4 (B9 b),.eb 7 (Nj d)]
  ·by_cases c:97<=n
   ·by_cases f:n<=122
    ·have e:pV n=bj:=by simp[pV,c,f]
     rw[e];exact Spec.r a func184 [] [.eb 4 (B9 b),.eb 7 (Kh d),.eb 11 (B9 c),.eb 14 (Nj f)]
    ·have e:pV n=aj:=by simp[pV];omega
     rw[e];exact Spec.r a func184 [] [.eb 4 (B9 b),.eb 7 (Kh d),.eb 11 (B9 c),.eb 14 (Kh f)]
   ·have e:pV n=aj:=by simp[pV];omega
    rw[e];exact Spec.r a func184 [] [.eb 4 (B9 b),.eb 7 (Kh d),.eb 11 (Ny c)]
 ·have c:¬97<=n:=za
  have e:pV n=aj:=by simp[pV];omega
  rw[e];exact Spec.r a func184 [] [.eb 4 (Ny b),.eb 11 (Ny c)]
def PS(n:aw):Spec zZq G 214 [u8 n] (bool (pV n)):=by
 by_cases b:97<=n
 ·by_cases f:n<=122
  ·have e:pV n=bj:=by simp[pV,b,f]
   rw[e];exact Spec.r a func214 [] [.eb 4 (B9 b),.eb 7 (Nj f)]
  ·have c:65<=n:=za
   have d:¬n<=90:=za
   have e:pV n=aj:=by simp[pV];omega
   rw[e];exact Spec.r a func214 [] [.eb 4 (B9 b),.eb 7 (Kh f),.eb 11 (B9 c),.eb 14 (Kh d)]
 ·by_cases c:65<=n
  ·by_cases d:n<=90
   ·have e:pV n=bj:=by simp[pV,c,d]
    rw[e];exact Spec.r a func214 [] [.eb 4 (Ny b),.eb 11 (B9 c),.eb 14 (Nj d)]
   ·have e:pV n=aj:=by simp[pV];omega
    rw[e];exact Spec.r a func214 [] [.eb 4 (Ny b),.eb 11 (B9 c),.eb 14 (Kh d)]
  ·have e:pV n=aj:=by simp[pV];omega
   rw[e];exact Spec.r a func214 [] [.eb 4 (Ny b),.eb 11 (Ny c)]
def LA(n:aw):Spec zZq G 186 [u8 n] (bool (yE n)):=by
 by_cases b:48<=n
 ·by_cases c:n<=57
  ·have e:yE n=bj:=by simp[yE,b,c]
   rw[e];exact Spec.r a func186 [] [.eb 4 (B9 b),.eb 7 (Nj c)]
  ·have e:yE n=aj:=by simp[yE];omega
   rw[e];exact Spec.r a func186 [] [.eb 4 (B9 b),.eb 7 (Kh c)]
 ·have e:yE n=aj:=by simp[yE];omega
  rw[e];exact Spec.r a func186 [] [.eb 4 (Ny b)]
def agq(n:aw):Spec zZq G 285 [u8 n] (bool (yE n)):=by
 by_cases b:48<=n
 ·by_cases c:n<=57
  ·have e:yE n=bj:=by simp[yE,b,c]
   rw[e];exact Spec.r a func285 [] [.eb 4 (B9 b),.eb 7 (Nj c)]
  ·have e:yE n=aj:=by simp[yE];omega
   rw[e];exact Spec.r a func285 [] [.eb 4 (B9 b),.eb 7 (Kh c)]
 ·have e:yE n=aj:=by simp[yE];omega
  rw[e];exact Spec.r a func285 [] [.eb 4 (Ny b)]
def aaQ(n:aw):Spec zZq G 215 [u8 n] (bool (ve n)):=by have b:=PS a n;have c:=agq a n;unfold ve;generalize pV n=x at b;generalize yE n=y at c;cases x;cases y;by_cases h:n=95;rw[apE h];exact Spec.r a func215 [] [zC b,zC c,.eb 11 (gI h)];rw[apG h];exact Spec.r a func215 [] [zC b,zC c,.eb 11 (fh h)];exact Spec.r a func215 [] [zC b,zC c];exact Spec.r a func215 [] [zC b]
def Bp(s:cB)(i:aw):aw:=((s[i]?).getD 0).toNat
def akD(s:cB)(i:aw):Spec zZq G 185 [xw s,nat i] (u8 (Bp s i)):=by
 by_cases h:i<s.size
 ·have p:(0:cA)<=zNq i/\(zNq i).toNat<s.size:=⟨by simp,h⟩
  exact Spec.r a func185 [] [.eb 8 (ah h),zD p]
 ·have e:Bp s i=0:=by
   unfold Bp;have:s[i]? =bk:=zu
   rw[this];rfl
  rw[e];exact Spec.r a func185 [] [.eb 8 (c9 (a:=i) (N:=s.size) za)]
def qa(s:cB):aw:=(ch s.size).findIdx λi=>!ve (Bp s i)
def Mn(s:cB):qa s<=s.size:=by
 have:=aqu (xs:=ch s.size) (p:=λi=>!ve (Bp s i))
 rwa [aqL]at this
def T2{s:cB}{i:aw}(h:i<qa s):ve (Bp s i)=bj:=by have a:i<s.size:=apV h (Mn s);have:=(qX (p:=λi=>!ve (Bp s i)) (l:=ch s.size) 0 h).2;rw[mL a]at this;simpa using this
def agL(h:i.size<=c):Bp i c=0:=by
 unfold Bp;have:i[c]? =bk:=zu
 rw[this];rfl
def T3(s:cB):ve (Bp s (qa s))=aj:=by
 obtain h|h:=apy (qa s) s.size
 ·have b:(ch s.size).findIdx (λi=>!ve (Bp s i))<(ch s.size).length:=by rw[aqL];exact h
  have:=lS (p:=λi=>!ve (Bp s i)) 0 b
  have a:(ch s.size).findIdx (λi=>!ve (Bp s i))<s.size:=h
  rw[mL a]at this;show ve (Bp s ((ch s.size).findIdx λi=>!ve (Bp s i)))=aj
  simpa using this
 ·rw[agL h];decide
def wiS(s:cB)(i:aw):St:=lay 30 [(0,xw s),(1,nat i)] []
def Zj(f:c<qa i)(g:i.size<=1000000000):af zZq G 0 (ae f138 0) (wiS i c) z3 (wiS i (c+1)):=by
 have h:=T2 f;have s:=apV f (Mn i);have c0:=akD a i c;have b:=B1 a (Bp i c);have e:=LA a (Bp i c);unfold ve at h;generalize pV (Bp i c)=x at h b;generalize yE (Bp i c)=y at h e;cases x
 ·cases y
  ·have d:Bp i c=95:=by simpa using h
   exact af.r a [zC c0,zC b,zC c0,zC e,zC c0,.eb 25 (gI d),.eq 28 (bL (cI s za))]
  ·exact af.r a [zC c0,zC b,zC c0,zC e,.eq 28 (bL (cI s za))]
 ·exact af.r a [zC c0,zC b,.eq 28 (bL (cI s za))]
def aep(s:cB):af zZq G 0 (ae f138 0) (wiS s (qa s)) (yu 0) (wiS s (qa s)):=by
 have h:=T3 s;have c0:=akD a s (qa s);have d:=B1 a (Bp s (qa s));have c:=LA a (Bp s (qa s));unfold ve at h;generalize pV (Bp s (qa s))=x at h d;generalize yE (Bp s (qa s))=y at h c;cases x;cases y;have b:Bp s (qa s)≠95:=by simpa using h
 exact af.r a [zC c0,zC d,zC c0,zC c,zC c0,.eb 25 (fh b)];cases h;cases h
def Hr(s:cB):aw:=if pV (Bp s 0)then qa s else 0
def VZ(a:aa G){s:cB}(d:s.size<=1000000000):Spec zZq G 138 [xw s,nat 0] (nat (Hr s)):=by
 have c0:=akD a s 0;have b:=B1 a (Bp s 0);have c:=aI.z zZq G (ae f138 0) (.exit 0) (wiS s (qa s)) (λi=>wiS s i) (qa s) (λi e=>Zj a e d) (aep a s)
 unfold Hr;generalize pV (Bp s 0)=x at b;cases x
 ·exact Spec.r a func138 [] [.call c0,.call b]
 ·exact Spec.r a func138 [] [.call c0,.call b,.code c]
def n7(s:cB):b5:=decide (0<s.size)&&(decide (s.size<=24)&&decide (Hr s=s.size))
def uC(h:e<c):decide (zNq c>zNq e)=bj:=zu
def fu(h:¬e<c):decide (zNq c>zNq e)=aj:=zu
def Fz(f:i.size<=1000000000):Spec zZq G 74 [xw i] (bool (n7 i)):=by
 have c:=VZ a f;unfold n7;by_cases d:0<i.size
 ·by_cases b:i.size<=24
  ·by_cases e:Hr i=i.size
   ·rw[apE d,apE b,apE e]
    exact Spec.r a func74 [] [.eb 5 (uC d),.eb 9 (Nj b),zC c,.eb 16 (gI e)]
   ·rw[apE d,apE b,apG e]
    exact Spec.r a func74 [] [.eb 5 (uC d),.eb 9 (Nj b),zC c,.eb 16 (fh e)]
  ·rw[apE d,apG b]
   exact Spec.r a func74 [] [.eb 5 (uC d),.eb 9 (Kh b)]
 ·rw[apG d]
  exact Spec.r a func74 [] [.eb 5 (fu d)]
def twS(s:cB)(i:aw):St:=lay 25 [(0,xw s),(3,nat i)] []
def Zt(b:c<qa i)(e:i.size<=1000000000):af zZq G 0 (ae f154 0) (twS i c) z3 (twS i (c+1)):=by
 have h:=T2 b;have s:=apV b (Mn i);have p:(0:cA)<=zNq c/\(zNq c).toNat<i.size:=⟨by simp,s⟩
 have d:=aaQ a (Bp i c);rw[h]at d;exact af.r a [.eb 15 (ah s),zD p,zC d,.eq 23 (bL (cI s za))]
def aev(s:cB):af zZq G 0 (ae f154 0) (twS s (qa s)) (yu 0) (twS s (qa s)):=by
 obtain h|h:=apy (qa s) s.size
 ·have b:=aaQ a (Bp s (qa s))
  rw[T3]at b;have p:(0:cA)<=zNq (qa s)/\(zNq (qa s)).toNat<s.size:=⟨by simp,h⟩
  exact af.r a [.eb 15 (ah h),zD p,zC b]
 ·exact af.r a [.eb 15 (c9 h)]
def Wg(h:0<i.size):(i.toList==(ByteArray.mk #[]).toList)=aj:=by
 rw[Go.ByteArray.toList_eq,Go.ByteArray.toList_eq,c4];intro e;have c:yD i.data.toList=0:=by rw[e];rfl
 have b:yD i.data.toList=i.data.size:=aqT;have a:i.data.size=i.size:=rfl;omega
def ah9(a:aa G){s:cB}(d:0<s.size)(g:s.size<=1000000000)(hw:Hr s=s.size):Spec zZq G 154 [xw s] (nat s.size):=by
 have c:pV (Bp s 0)=bj:=by
  unfold Hr at hw;split at hw
  ·assumption
  ·omega
 have f:qa s=s.size:=by
  unfold Hr at hw;rw[aph c]at hw;exact hw
 have e:=PS a (Bp s 0);rw[c]at e;have p:(0:cA)<=zNq 0/\(zNq 0).toNat<s.size:=⟨by simp,d⟩
 have b:=aI.z zZq G (ae f154 0) (.exit 0) (twS s (qa s)) (λi=>twS s (i+1)) (qa s-1) (λi h=>Zt a za g) (by rw[show qa s-1+1=qa s by omega];exact aev a s)
 rw[f]at b;exact Spec.r a func154 [] [.eb 5 (Wg d),.prop p,.call e,.code b]
def D7(h:n7 i=bj):Spec zZq G 87 [xw i] (bool bj):=by unfold n7 at h;rw[dT,dT,cm,cm,cm]at h;obtain⟨b,e,d⟩:=h;have c:=ah9 a b za d;exact Spec.r a func87 [] [zC c,.eb 7 (uC b),.eb 12 (gI (rfl:i.size=i.size)),.eb 16 (Nj e)]
structure Cm where
 nm:cB
 x:Raw
 y:Raw
instance:ka Cm:=⟨⟨.empty,⟨aj,[],[]⟩,⟨aj,[],[]⟩⟩⟩
def qO(r:Raw):ai D:=[bool r.s,ak r.n,ak r.d]
def qp(m:Cm):ai D:=xw m.nm::(qO m.x++qO m.y)
structure xd where
 nm:cB
 aC:ai Cm
instance:ka xd:=⟨⟨.empty,[]⟩⟩
def tv(b:xd):ai D:=[xw b.nm,aQ qp b.aC]
def bb(m:Cm):(qp m).length=7:=rfl
def a8(b:xd):(tv b).length=2:=rfl
def gr(a b:cB):b5:=a.toList==b.toList
def E8(l:ai cB)(i:aw):b5:=(ch i).any λj=>gr (yI l j .empty) (yI l i .empty)
def jY(f:aw->aw)(n:aw):aw:=((ch n).map f).find? (·≠0)|>.getD 0
structure Cm.Ok(m:Cm):Prop where
 nm:m.nm.size<=1000000000
 x:∃k,m.x.ok k/\2*k<KB
 y:∃k,m.y.ok k/\2*k<KB
def R_(a:ai Cm)(k:aw):aw:=
 if n7 (yI a k bc).nm=aj then 5
 else if E8 (a.map (·.nm)) k=bj then 6
 else if(yI a k bc).x.valid=aj\/(yI a k bc).y.valid=aj then 3 else 0
def R8(a:ai Cm):aw:=if 8<yD a then 4 else jY (R_ a) (yD a)
def dg(f:aw->aw)(n:aw):(jY f n=0/\∀i<n,f i=0)\/∃i,i<n/\f i≠0/\jY f n=f i/\∀j<i,f j=0:=by
 induction n with
 |zero=>exact z1 ⟨rfl,λi h=>by omega⟩
 |succ n g=>
  have e:jY f (n+1)=if jY f n≠0 then jY f n else f n:=by
   unfold jY;rw[aq1,aqp,List.find?_append];cases h:((ch n).map f).find? (·≠0)with
   |none=>
    simp only[Option.none_or,Option.getD_none,eZ,fB];by_cases c:f n=0
    ·simp[c]
    ·simp[c]
   |some x=>
    have:=aro h;have k:x≠0:=by simpa using this
    simp[k]
  rcases g with⟨d,a⟩|⟨i,d,a,m,l⟩
  ·rw[d]at e
   by_cases b:f n=0
   ·exact z1 ⟨by rw[e];simp[b],λi o=>by
     obtain h|h:=apy i n
     ·exact a i h
     ·rw[show i=n by omega];exact b⟩
   ·exact z2 ⟨n,by omega,b,by rw[e];simp,a⟩
  ·refine z2 ⟨i,by omega,a,?_,l⟩
   rw[e,m,aph a]
def YY(b:xd)(k j:aw):St:=lay 50 [(1,.aJ (tv b)),(3,nat k),(4,z0 0 0),(5,nat j)] [(0,qp (yI b.aC k bc))]
def ppS(b:xd)(k:aw):St:=lay 50 [(1,.aJ (tv b)),(3,nat k)] []
def ptR(n:aw):St:=lay 50 [(2,nat n)] []
variable {A:xd} {Y:b5}
def oC{b:cB}(h:gr i b=Y):D.lit (.bool (i.toList==b.toList))=zT (.bool Y):=by rw[<-h];rfl
def Ik(j:e<c)(g:c<yD A.aC)(m:yD A.aC<=8)(h:gr (yI A.aC e bc).nm (yI A.aC c bc).nm=aj):
  af zZq G 0 (ae f139 1) (YY A c e) z3 (YY A c (e+1)):=by
 have d:=cE bb za (i:=e) (l:=A.aC) za
 have f:=bA bb (i:=e) (l:=A.aC) za 0 za
 have k:=j5 bb (i:=e) (l:=A.aC) za bc 0 za
 have n:D.lit (.string (yI A.aC e bc).nm)=xw (yI A.aC e bc).nm:=rfl;exact af.r a [.eb 28 (ah j),.er 33 (nat e),zD d,zD f,.eq 36 k,.eq 39 (oC h),.eq 30 (bL (cI j za))]
def aaO:af zZq G 0 (ae f139 1) (YY A c c) (yu 2) (YY A c c):=
 af.r a [.eb 28 (c9 (apc c))]
def aiU(d:e<c)(g:c<yD A.aC)(h:gr (yI A.aC e bc).nm (yI A.aC c bc).nm=bj):
  af zZq G 0 (ae f139 1) (YY A c e) .ret (ptR 6):=by
 have f:=cE bb za (i:=e) (l:=A.aC) za
 have j:=bA bb (i:=e) (l:=A.aC) za 0 za
 have k:=j5 bb (i:=e) (l:=A.aC) za bc 0 za
 exact af.r a [.eb 28 (ah d),.er 33 (nat e),zD f,zD j,.eq 36 k,.eq 39 (oC h)]
def rU{β:Type}(f:h->β){l:ai h}(α:c<yD l)(d:h)(d':β):(l.map f).getD c d'=f (yI l c d):=by rw[apf,apf,aqz,apj α];rfl
def ni(nm:h->cB)(d:h){l:ai h}(m:c<yD l):(E8 (l.map nm) c=aj/\∀j<c,gr (nm (yI l j d)) (nm (yI l c d))=aj)\/(E8 (l.map nm) c=bj/\∃j,j<c/\gr (nm (yI l j d)) (nm (yI l c d))=bj/\∀i<j,gr (nm (yI l i d)) (nm (yI l c d))=aj):=by
 have ev:∀j<c,gr ((l.map nm).getD j .empty) ((l.map nm).getD c .empty)=gr (nm (yI l j d)) (nm (yI l c d)):=λj a=>by rw[rU nm za d,rU nm m d]
 rcases dg (λj=>if gr (nm (yI l j d)) (nm (yI l c d))=bj then 1 else 0) c with⟨-,k⟩|⟨i,α,f,-,n⟩
 have g:∀j<c,gr (nm (yI l j d)) (nm (yI l c d))=aj:=λj a=>by have:=k j a;split at this;cases this;rename_i b;simpa using b
 refine z1 ⟨?_,g⟩;unfold E8;rw[arS];intro j a;rw[arb]at a;rw[ev j a,g j a];simp;have e:gr (nm (yI l i d)) (nm (yI l c d))=bj:=by split at f;assumption;exact api rfl f
 refine z2 ⟨?_,i,α,e,λj a=>?_⟩;unfold E8;rw[arj];exact⟨i,arb.2 α,by rw[ev i α];exact e⟩;have:=n j a;split at this;cases this;rename_i b;simpa using b
def aho(b:c<yD A.aC)(C:yD A.aC<=8)(ok:∀m∈A.aC,m.Ok)(h:R_ A.aC c=0):
  af zZq G 0 (ae f139 0) (ppS A c) z3 (ppS A (c+1)):=by
 have k:=cE bb za b
 have z:=aq bb za b
 have e:=fO bb b bc;have l:=ok _ (aA b bc);have w:=ni Cm.nm bc b;have D:(A.aC.map λm=>m.nm)=A.aC.map Cm.nm:=rfl
 unfold R_ at h;rw[D]at h;have r:=Fz a l.nm;obtain⟨I,y,F⟩:=l.x;obtain⟨H,x,E⟩:=l.y;have q:=lK a y za
 have p:=lK a x za
 have i:∀j,(YY A c j).tmps.length=50:=λj=>aB ..
 split at h
 ·cases h
 ·rename_i g
  split at h
  ·cases h
  ·rename_i f
   split at h
   ·cases h
   ·rename_i o
    have g:n7 (yI A.aC c bc).nm=bj:=by simpa using g
    have f:E8 (A.aC.map Cm.nm) c=aj:=by simpa using f
    have t:(yI A.aC c bc).x.valid=bj:=by
     cases n:(yI A.aC c bc).x.valid with
     |true=>rfl
     |false=>exact api (z1 n) o
    have s:(yI A.aC c bc).y.valid=bj:=by
     cases n:(yI A.aC c bc).y.valid with
     |true=>rfl
     |false=>exact api (z2 n) o
    rw[g]at r;rw[t]at q;rw[s]at p;have v:∀j<c,gr (yI A.aC j bc).nm (yI A.aC c bc).nm=aj:=by
     rcases w with⟨-,d⟩|⟨d,-⟩
     ·exact d
     ·rw[f]at d;cases d
    have B:=aI.count (P:=zZq) (Good:=G) (a:=0) (q:=ae f139 1) (v:=yu 2) (j:=YY A c c) (λj=>YY A c j) c i zx (λj u=>Ik a u b C (v j u)) (aaO a)
    clear w h g f o v t s;exact af.r a [.eb 14 (ah b),.er 19 (nat c),zD k,zD z,.eq 21 e,zC r,.code B,zC q,zC p,.eq 16 (bL (cI b za))]
def aiS(b:c<yD A.aC)(z:yD A.aC<=8)(ok:∀m∈A.aC,m.Ok)(h:R_ A.aC c≠0):
  af zZq G 0 (ae f139 0) (ppS A c) .ret (ptR (R_ A.aC c)):=by
 have r:=cE bb za b
 have q:=aq bb za b
 have e:=fO bb b bc;have t:=ok _ (aA b bc);have o:=ni Cm.nm bc b;have F:(A.aC.map λm=>m.nm)=A.aC.map Cm.nm:=rfl
 unfold R_ at h⊢;rw[F]at h⊢;have f:=Fz a t.nm;obtain⟨L,C,J⟩:=t.x;obtain⟨K,B,I⟩:=t.y;have p:=lK a C za
 have w:=lK a B za
 have n:∀j,(YY A c j).tmps.length=50:=λj=>aB ..
 split
 ·rename_i l
  rw[l]at f;clear o h;exact af.r a [.eb 14 (ah b),.er 19 (nat c),zD r,zD q,.eq 21 e,zC f]
 ·rename_i l
  have H:n7 (yI A.aC c bc).nm=bj:=by simpa using l
  rw[ape l]at h;rw[H]at f;split
  ·rename_i g
   obtain⟨j,d1,d2,d3⟩:∃j,j<c/\gr (yI A.aC j bc).nm (yI A.aC c bc).nm=bj/\∀i<j,gr (yI A.aC i bc).nm (yI A.aC c bc).nm=aj:=by
    rcases o with⟨d,-⟩|⟨-,d⟩
    ·rw[g]at d;cases d
    ·exact d
   have s:=aI.count (P:=zZq) (Good:=G) (a:=0) (q:=ae f139 1) (v:=.ret) (j:=ptR 6) (λj=>YY A c j) j n zx (λi E=>Ik a za b z (d3 i E)) (aiU a d1 b d2)
   clear o h l g;exact af.r a [.eb 14 (ah b),.er 19 (nat c),zD r,zD q,.eq 21 e,zC f,.code s]
  ·rename_i g
   rw[ape g]at h;have k:E8 (A.aC.map Cm.nm) c=aj:=by simpa using g
   have y:∀j<c,gr (yI A.aC j bc).nm (yI A.aC c bc).nm=aj:=by
    rcases o with⟨-,d⟩|⟨d,-⟩
    ·exact d
    ·rw[k]at d;cases d
   have s:=aI.count (P:=zZq) (Good:=G) (a:=0) (q:=ae f139 1) (v:=yu 2) (j:=YY A c c) (λj=>YY A c j) c n zx (λj x=>Ik a x b z (y j x)) (aaO a)
   split
   ·rename_i v
    clear o h l g y k;cases u:(yI A.aC c bc).x.valid with
    |false=>
     rw[u]at p;exact af.r a [.eb 14 (ah b),.er 19 (nat c),zD r,zD q,.eq 21 e,zC f,.code s,zC p]
    |true=>
     have D:(yI A.aC c bc).y.valid=aj:=v.resolve_left (by rw[u];simp)
     rw[u]at p;rw[D]at w;exact af.r a [.eb 14 (ah b),.er 19 (nat c),zD r,zD q,.eq 21 e,zC f,.code s,zC p,zC w]
   ·rename_i v
    rw[ape v]at h;exact api rfl h
def aiR:af zZq G 0 (ae f139 0) (ppS A (yD A.aC)) (yu 0) (ppS A (yD A.aC)):=
 af.r a [.eb 14 (c9 (apc (yD A.aC)))]
def aaz(ok:∀m∈A.aC,m.Ok):Spec zZq G 139 [z4 (tv A)] (nat (R8 A.aC)):=by
 unfold R8;by_cases d:8<yD A.aC;rw[aph d];exact Spec.r a func139 [1] [.eb 9 (uC d)];rw[ape d];have c:yD A.aC<=8:=za
 rcases dg (R_ A.aC) (yD A.aC) with⟨h,g⟩|⟨i,h,g,l,j⟩
 have f:=aI.z zZq G (ae f139 0) (yu 0) (ppS A (yD A.aC)) (λk=>ppS A k) (yD A.aC) (λk e=>aho a e c ok (g k e)) (aiR a);rw[h];exact Spec.r a func139 [1] [.eb 9 (fu d),.code f];have f:=aI.z zZq G (ae f139 0) .ret (ptR (R_ A.aC i)) (λk=>ppS A k) i (λk e=>aho a za c ok (j k e)) (aiS a h c ok g);rw[l];exact Spec.r a func139 [1] [.eb 9 (fu d),.code f]
structure Q_ where
 nm:cB
 kind:cA
 a:cA
 p:cA
 b:cA
 on:cA
 to:cA
instance:ka Q_:=⟨⟨.empty,0,0,0,0,0,0⟩⟩
def Fk(j:Q_):ai D:=[xw j.nm,int j.kind,int j.a,int j.p,int j.b,int j.on,int j.to]
structure VQ where
 nm:cB
 body:cA
instance:ka VQ:=⟨⟨.empty,0⟩⟩
def A3(d:VQ):ai D:=[xw d.nm,int d.body]
structure pB where
 nm:cB
 bs:ai xd
 js:ai Q_
 ds:ai VQ
def uI(l:pB):ai D:=[xw l.nm,aQ tv l.bs,aQ Fk l.js,aQ A3 l.ds]
def Co(l:pB):D:=z4 (uI l)
def kJ(j:Q_):(Fk j).length=7:=rfl
def fZ(d:VQ):(A3 d).length=2:=rfl
structure xd.Ok(b:xd):Prop where
 nm:b.nm.size<=1000000000
 aC:∀m∈b.aC,m.Ok
structure pB.Ok(l:pB):Prop where
 nm:l.nm.size<=1000000000
 bs:∀b∈l.bs,b.Ok
 js:∀j∈l.js,j.nm.size<=1000000000
 ds:∀d∈l.ds,d.nm.size<=1000000000
def Yu(bs:ai xd)(i:aw):aw:=
 if n7 (yI bs i bc).nm=aj then 5
 else if E8 (bs.map xd.nm) i=bj then 6
 else R8 (yI bs i bc).aC
def bdS(l:pB)(i j:aw):St:=lay 48 [(1,.aJ (uI l)),(3,nat i),(4,nat j)] []
def bbS(l:pB)(i:aw):St:=lay 48 [(1,.aJ (uI l)),(3,nat i)] []
def bdR(n:aw):St:=lay 48 [(2,nat n)] []
section
variable {l:pB} {i j:aw}
def zS(a:i<yD l.bs):((0:cA)<=zNq i/\zNq i<(yD l.bs:cA))/\(zNq i).toNat*2<(l.bs.flatMap tv).length:=cE a8 za a
def QY(b:j<i)(k:i<yD l.bs)(n:yD l.bs<=1000)(h:gr (yI l.bs j bc).nm (yI l.bs i bc).nm=aj):
  af zZq G 0 (ae f75 1) (bdS l i j) z3 (bdS l i (j+1)):=by
 have g:=zS (l:=l) (i:=j) za
 have f:=bA a8 (i:=j) (l:=l.bs) za 0 za
 have e:=j5 a8 (i:=j) (l:=l.bs) za bc 0 za
 have d:=zS k;have c:=bA a8 k 0 za
 have m:=j5 a8 k bc 0 za
 exact af.r a [.eb 23 (ah b),.er 28 (nat j),zD g,zD f,.eq 31 e,.er 34 (nat i),zD d,zD c,.eq 37 m,.eq 38 (oC h),.eq 25 (bL (cI b za))]
def aky:af zZq G 0 (ae f75 1) (bdS l i i) (yu 2) (bdS l i i):=
 af.r a [.eb 23 (c9 (apc i))]
def akz(g:j<i)(k:i<yD l.bs)(h:gr (yI l.bs j bc).nm (yI l.bs i bc).nm=bj):
  af zZq G 0 (ae f75 1) (bdS l i j) .ret (bdR 6):=by
 have f:=zS (l:=l) (i:=j) za;have d:=bA a8 (i:=j) (l:=l.bs) za 0 za;have e:=j5 a8 (i:=j) (l:=l.bs) za bc 0 za;have c:=zS k;have b:=bA a8 k 0 za;have m:=j5 a8 k bc 0 za;exact af.r a [.eb 23 (ah g),.er 28 (nat j),zD f,zD d,.eq 31 e,.er 34 (nat i),zD c,zD b,.eq 37 m,.eq 38 (oC h)]
def GY{a b:aw}(h:a≠b):(zNq a !=zNq b)=bj:=by have:=fh h;unfold bne;rw[this];rfl
def TI(c:i<yD l.bs)(u:yD l.bs<=1000)(ok:l.Ok):(Yu l.bs i=0->af zZq G 0 (ae f75 0) (bbS l i) z3 (bbS l (i+1)))/\(Yu l.bs i≠0->af zZq G 0 (ae f75 0) (bbS l i) .ret (bdR (Yu l.bs i))):=by
 have f:=zS c;have m:=bA a8 c 0 za
 have p:=j5 a8 c bc 0 za
 have s:=aq a8 za c
 have v:=fO a8 c bc;have t:=ok.bs _ (aA c bc);have g:=Fz a t.nm;have w:=ni xd.nm bc c;have pm:=aaz a t.aC;have bl:∀j,(bdS l i j).tmps.length=48:=λj=>aB ..
 unfold Yu;split
 ·rename_i r
  rw[r]at g;refine⟨λh=>(by cases h),λ_=>?_⟩
  exact af.r a [.eb 10 (ah c),.er 15 (nat i),zD f,zD m,.eq 18 p,zC g]
 ·rename_i r
  have A:n7 (yI l.bs i bc).nm=bj:=by simpa using r
  rw[A]at g;split
  ·rename_i q
   obtain⟨j,d1,d2,d3⟩:∃j,j<i/\gr (yI l.bs j bc).nm (yI l.bs i bc).nm=bj/\∀k<j,gr (yI l.bs k bc).nm (yI l.bs i bc).nm=aj:=by
    rcases w with⟨d,-⟩|⟨-,d⟩
    ·rw[q]at d;cases d
    ·exact d
   have n:=aI.count (P:=zZq) (Good:=G) (a:=0) (q:=ae f75 1) (v:=.ret) (j:=bdR 6) (λj=>bdS l i j) j bl zx (λk o=>QY a za c u (d3 k o)) (akz a d1 c d2)
   refine⟨λh=>(by cases h),λ_=>?_⟩
   exact af.r a [.eb 10 (ah c),.er 15 (nat i),zD f,zD m,.eq 18 p,zC g,.code n]
  ·rename_i q
   have y:E8 (l.bs.map xd.nm) i=aj:=by simpa using q
   have x:∀j<i,gr (yI l.bs j bc).nm (yI l.bs i bc).nm=aj:=by
    rcases w with⟨-,d⟩|⟨d,-⟩
    ·exact d
    ·rw[y]at d;cases d
   have n:=aI.count (P:=zZq) (Good:=G) (a:=0) (q:=ae f75 1) (v:=yu 2) (j:=bdS l i i) (λj=>bdS l i j) i bl zx (λk o=>QY a o c u (x k o)) (aky a)
   refine⟨λh=>?_,λh=>?_⟩
   ·rw[h]at pm
    exact af.r a [.eb 10 (ah c),.er 15 (nat i),zD f,zD m,.eq 18 p,zC g,.code n,.er 41 (nat i),zD f,zD s,.eq 43 v,zC pm,.eq 12 (bL (cI c za))]
   ·generalize R8 (yI l.bs i bc).aC=z at pm h
    exact af.r a [.eb 10 (ah c),.er 15 (nat i),zD f,zD m,.eq 18 p,zC g,.code n,.er 41 (nat i),zD f,zD s,.eq 43 v,zC pm,.eb 46 (GY (b:=0) h)]
def akB:af zZq G 0 (ae f75 0) (bbS l (yD l.bs)) (yu 0) (bbS l (yD l.bs)):=
 af.r a [.eb 10 (c9 (apc (yD l.bs)))]
def Kz(bs:ai xd):aw:=jY (Yu bs) (yD bs)
def adE(d:yD l.bs<=1000)(ok:l.Ok):Spec zZq G 75 [Co l] (nat (Kz l.bs)):=by
 unfold Kz;rcases dg (Yu l.bs) (yD l.bs) with⟨f,e⟩|⟨i,f,e,h,g⟩
 have c:=aI.z zZq G (ae f75 0) (yu 0) (bbS l (yD l.bs)) (λk=>bbS l k) (yD l.bs) (λk b=>(TI a b d ok).1 (e k b)) (akB a);rw[f];exact Spec.r a func75 [1] [.code c];have c:=aI.z zZq G (ae f75 0) .ret (bdR (Yu l.bs i)) (λk=>bbS l k) i (λk b=>(TI a za d ok).1 (g k b)) ((TI a f d ok).2 e);rw[h];exact Spec.r a func75 [1] [.code c]
end
end Tw
end Lw
