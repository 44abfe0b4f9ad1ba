/- Part 17. -/
import Derived.Test.YtmcpfihkambgnaaGreatLw16
namespace Lw
namespace Tw
open fL zY fw
set_option synthInstance.maxSize 100000
set_option synthInstance.maxHeartbeats 2000000
def j_(k:Nat)(p:Pt):Prop:=Sh k p.1∧Sh k p.2
theorem j_.mono{k m:Nat}{p:Pt}(h:j_ k p)(a:k≤m):j_ m p:=⟨h.1.mono a,h.2.mono a⟩
theorem j_.sub{k:Nat}{p q:Pt}(h:j_ k p)(a:j_ k q):j_ k (fD p q):=⟨h.1.sub a.1,h.2.sub a.2⟩
theorem j_.of(k:Nat)(x y:Rat):j_ k (xE x y):=⟨Sh.mJ _ _,Sh.mJ _ _⟩
theorem j_.along{t:aS}(c:iU t.length t){p v:Pt}{a:List Rat}(h:j_ t.length p)(b:Sh t.length a)(d:j_ t.length v):j_ t.length (dR t p a v):=⟨h.1.add (Sh.mul c b d.1),h.2.add (Sh.mul c b d.2)⟩
section
variable {K:Type} [fw K] (ι:r7 Rat K) (s:Nat→K) {t:aS}
theorem Cv(c:iU t.length t)(d:Model ι s t t.length){p q:Pt}(b:j_ t.length p)(a:j_ t.length q):vl ι s t (ta t p q)=vl ι s t p.1*vl ι s t q.1+vl ι s t p.2*vl ι s t q.2:=by
 unfold ta;rw[r_ ι s (Sh.mul c b.1 a.1) (Sh.mul c b.2 a.2),dW ι s c d b.1 a.1,dW ι s c d b.2 a.2]
theorem Fk(c:iU t.length t)(d:Model ι s t t.length){p q:Pt}(b:j_ t.length p)(a:j_ t.length q):vl ι s t (kX t p q)=vl ι s t p.1*vl ι s t q.2-vl ι s t p.2*vl ι s t q.1:=by
 unfold kX;rw[gP ι s (Sh.mul c b.1 a.2) (Sh.mul c b.2 a.1),dW ι s c d b.1 a.2,dW ι s c d b.2 a.1]
theorem Sh.dot(c:iU t.length t){p q:Pt}(b:j_ t.length p)(a:j_ t.length q):Sh t.length (ta t p q):=Sh.add (Sh.mul c b.1 a.1) (Sh.mul c b.2 a.2)
theorem Sh.t_(c:iU t.length t){p q:Pt}(b:j_ t.length p)(a:j_ t.length q):Sh t.length (kX t p q):=Sh.sub (Sh.mul c b.1 a.2) (Sh.mul c b.2 a.1)
theorem uM(c:iU t.length t)(f:Model ι s t t.length){p v:Pt}{a:List Rat}(h:j_ t.length p)(b:Sh t.length a)(d:j_ t.length v):vl ι s t (dR t p a v).1=vl ι s t p.1+vl ι s t a*vl ι s t v.1:=by
 have e:(dR t p a v).1=o9 p.1 (mulL t a v.1):=by simp only[dR]
 rw[e,r_ ι s h.1 (Sh.mul c b d.1),dW ι s c f b d.1]
theorem uL(c:iU t.length t)(f:Model ι s t t.length){p v:Pt}{a:List Rat}(h:j_ t.length p)(b:Sh t.length a)(d:j_ t.length v):vl ι s t (dR t p a v).2=vl ι s t p.2+vl ι s t a*vl ι s t v.2:=by
 have e:(dR t p a v).2=o9 p.2 (mulL t a v.2):=by simp only[dR]
 rw[e,r_ ι s h.2 (Sh.mul c b d.2),dW ι s c f b d.2]
theorem YU{q:Rat}(h:q≠0):ι.φ q≠0:=fun e=>by
 have:=KW ι h;rw[e,cO]at this;exact uq jM this.symm
theorem YT(u:V2):ι.φ u.sq=ι.φ u.x*ι.φ u.x+ι.φ u.y*ι.φ u.y:=by
 unfold V2.sq;rw[ι.add,ι.mul,ι.mul]
structure Ei(t:aS)(b:Pl)(u:V2)(w1 w2:K)(p:V2)(o1 o2:K):Prop where
 hc:vl ι s t b.c*ι.φ u.sq=ι.φ u.x*w1+ι.φ u.y*w2
 hs:vl ι s t b.s*ι.φ u.sq=ι.φ u.x*w2-ι.φ u.y*w1
 hx:vl ι s t b.x=o1-(vl ι s t b.c*ι.φ p.x-vl ι s t b.s*ι.φ p.y)
 hy:vl ι s t b.y=o2-(vl ι s t b.s*ι.φ p.x+vl ι s t b.c*ι.φ p.y)
structure HP(k:Nat)(b:Pl):Prop where
 c:Sh k b.c
 s:Sh k b.s
 x:Sh k b.x
 y:Sh k b.y
theorem LD(a:iU t.length t){u p:V2}{w o:Pt}(hw:j_ t.length w)(c:j_ t.length o):HP t.length (rj t u w p o):=by
 have b:Sh t.length (Cd t u w):=Sh.div a (Sh.dot a (j_.of _ _ _) hw) (Sh.mJ _ _);have s1:Sh t.length (Cc t u w):=Sh.div a (Sh.t_ a (j_.of _ _ _) hw) (Sh.mJ _ _);exact⟨b,s1,c.1.sub ((Sh.mul a b (Sh.mJ _ _)).sub (Sh.mul a s1 (Sh.mJ _ _))),c.2.sub ((Sh.mul a s1 (Sh.mJ _ _)).add (Sh.mul a b (Sh.mJ _ _)))⟩
theorem LB(a:iU t.length t)(b:Model ι s t t.length){u p:V2}{w o:Pt}(hw:j_ t.length w)(e:j_ t.length o)(hu:u.sq≠0):Ei ι s t (rj t u w p o) u (vl ι s t w.1) (vl ι s t w.2) p (vl ι s t o.1) (vl ι s t o.2):=by
 have d1:Sh t.length (ta t (l_ u) w):=Sh.dot a (j_.of _ _ _) hw;have d2:Sh t.length (kX t (l_ u) w):=Sh.t_ a (j_.of _ _ _) hw;have c:Sh t.length (Cd t u w):=Sh.div a d1 (Sh.mJ _ _);have s1:Sh t.length (Cc t u w):=Sh.div a d2 (Sh.mJ _ _);have d:vl ι s t (iF u.sq)≠0:=by rw[jP];exact YU ι hu
 refine⟨?_,?_,?_,?_⟩
 ·have:=vA ι s a b d1 (Sh.mJ t.length u.sq) d
  rw[Cv ι s a b (p:=l_ u) (j_.of _ _ _) hw,jP]at this;simp only[l_,xE,jP]at this;exact this
 ·have:=vA ι s a b d2 (Sh.mJ t.length u.sq) d
  rw[Fk ι s a b (p:=l_ u) (j_.of _ _ _) hw,jP]at this;simp only[l_,xE,jP]at this;exact this
 ·show vl ι s t (jg o.1 (jg (mulL t (Cd t u w) (iF p.x)) (mulL t (Cc t u w) (iF p.y))))=_
  rw[gP ι s e.1 ((Sh.mul a c (Sh.mJ _ _)).sub (Sh.mul a s1 (Sh.mJ _ _))),gP ι s (Sh.mul a c (Sh.mJ _ _)) (Sh.mul a s1 (Sh.mJ _ _)),dW ι s a b c (Sh.mJ _ _),dW ι s a b s1 (Sh.mJ _ _),jP,jP];rfl
 ·show vl ι s t (jg o.2 (o9 (mulL t (Cc t u w) (iF p.x)) (mulL t (Cd t u w) (iF p.y))))=_
  rw[gP ι s e.2 ((Sh.mul a s1 (Sh.mJ _ _)).add (Sh.mul a c (Sh.mJ _ _))),r_ ι s (Sh.mul a s1 (Sh.mJ _ _)) (Sh.mul a c (Sh.mJ _ _)),dW ι s a b c (Sh.mJ _ _),dW ι s a b s1 (Sh.mJ _ _),jP,jP];rfl
def uK(b:Pl)(t:aS)(m:V2):K×K:=(vl ι s t b.c*ι.φ m.x-vl ι s t b.s*ι.φ m.y+vl ι s t b.x,vl ι s t b.s*ι.φ m.x+vl ι s t b.c*ι.φ m.y+vl ι s t b.y)
theorem afs(a:iU t.length t)(c:Model ι s t t.length){b:Pl}(h:HP t.length b)(m:V2):(vl ι s t (JT t b m.x m.y).1,vl ι s t (JT t b m.x m.y).2)=uK ι s b t m:=by
 unfold uK;rw[Xy ι s a c h.c h.s h.x,Xx ι s a c h.c h.s h.y]
theorem Ei.unit{b:Pl}{u p:V2}{c a o1 o2:K}(h:Ei ι s t b u c a p o1 o2)(hu:u.sq≠0)(hw:c*c+a*a=ι.φ u.sq):vl ι s t b.c*vl ι s t b.c+vl ι s t b.s*vl ι s t b.s=1∧vl ι s t b.c*ι.φ u.x-vl ι s t b.s*ι.φ u.y=c∧vl ι s t b.s*ι.φ u.x+vl ι s t b.c*ι.φ u.y=a:=
 af_ (YT ι u) (YU ι hu) h.hc h.hs hw
theorem Ei.qO{b:Pl}{u p:V2}{d a o1 o2:K}(h:Ei ι s t b u d a p o1 o2):uK ι s b t p=(o1,o2):=by
 unfold uK;rw[h.hx,h.hy];generalize vl ι s t b.c=c;generalize vl ι s t b.s=σ;generalize ι.φ p.x=x;generalize ι.φ p.y=y;exact Prod.ext (rg [c,σ,x,y,o1]) (rg [c,σ,x,y,o2])
theorem Ei.far{b:Pl}{u p q:V2}{d a o1 o2:K}(h:Ei ι s t b u d a p o1 o2)(hu:u.sq≠0)(hw:d*d+a*a=ι.φ u.sq)(j:u=q.sub p):uK ι s b t q=(o1+d,o2+a):=by
 obtain⟨-,f,e⟩:=h.unit ι s hu hw;subst j;unfold uK;rw[h.hx,h.hy];simp only[V2.sub]at f e;rw[ι.sub,ι.sub]at f e;rw[←f,←e];generalize vl ι s t b.c=c;generalize vl ι s t b.s=σ;generalize ι.φ p.x=x;generalize ι.φ p.y=y;generalize ι.φ q.x=i;generalize ι.φ q.y=g;exact Prod.ext (rg [c,σ,x,y,i,g,o1]) (rg [c,σ,x,y,i,g,o2])
theorem Model.base{d:List Rat}(a:Model ι s (tN t d) (tN t d).length):Model ι s t t.length∧s t.length*s t.length=vl ι s t d:=by
 have c:(tN t d).length=t.length+1:=gF d;rw[c]at a;refine⟨⟨fun k b=>a.nn k (by omega),fun k b=>?_⟩,?_⟩
 ·have:=a.sq k (by omega)
  rw[tN,alD,amp b,←alD]at this;exact this
 ·have:=a.sq t.length (by omega)
  rw[tN,alD,aml (alE _),Nat.sub_self]at this;rw[this];show lv ι s t.length (bA d (2^t.length))=_;rw[BB];rfl
theorem J8(d:List Rat):vl ι s (tN t d) (eM t.length)=s t.length:=by
 unfold vl eM;rw[gF,Jj ι s (fe [] _),BB,Al,g8];have e:lv ι s t.length ((1:Rat)::bA [] (2^t.length-1))=1:=by
  have:lv ι s t.length ((1:Rat)::bA [] (2^t.length-1))=lv ι s t.length [1]:=ae_ ι s fun i=>by
   cases i with
   |zero=>rfl
   |succ i=>
    rw[amP,ke];simp
  rw[this];have a:=jP ι s (t:=t) 1;unfold vl iF at a;rw[mQ ι s (Sh.single 0 1)]at a;rw[a,ι.one]
 rw[e,Bm]
theorem n_(d:List Rat){a:List Rat}(h:Sh t.length a):vl ι s (tN t d) a=vl ι s t a:=acg ι s h
theorem FN(b:iU t.length t)(d:List Rat):iU (tN t d).length (tN t d):=fun j a=>by
 rw[gF]at a;rcases alU j t.length with h|h
 ·rw[tN,alD,amp h,←alD]
  exact b j h
 ·obtain rfl:j=t.length:=by omega
  rw[tN,alD,aml h,Nat.sub_self];show(bA d (2^t.length)).length=_;rw[fe]
end
end Tw
end Lw
namespace Lw
namespace Tw
open fL zY fw
set_option synthInstance.maxSize 100000
set_option synthInstance.maxHeartbeats 2000000
structure PC(k:Nat)(c:Cr):Prop where
 o:j_ k c.o
 r:Sh k c.r
section
variable {K:Type} [fw K] (ι:r7 Rat K) (s:Nat→K) {t:aS}
theorem YW:ι.φ 4=1+1+1+1:=by
 have e:(4:Rat)=1+1+1+1:=by decide+kernel
 rw[e,ι.add,ι.add,ι.add,ι.one]
theorem YX:ι.φ 2=1+1:=by
 have e:(2:Rat)=1+1:=by decide+kernel
 rw[e,ι.add,ι.one]
theorem YV:ι.φ (-1)= -1:=by rw[ι.neg,ι.one]
def J1(T:aS)(c:Cr)(P:Pt):Prop:=(vl ι s T P.1-vl ι s T c.o.1)*(vl ι s T P.1-vl ι s T c.o.1)+(vl ι s T P.2-vl ι s T c.o.2)*(vl ι s T P.2-vl ι s T c.o.2)=vl ι s T c.r
theorem J1.up{d:List Rat}{c:Cr}{P:Pt}(a:PC t.length c)(h:(vl ι s (tN t d) P.1-vl ι s t c.o.1)*(vl ι s (tN t d) P.1-vl ι s t c.o.1)+(vl ι s (tN t d) P.2-vl ι s t c.o.2)*(vl ι s (tN t d) P.2-vl ι s t c.o.2)=vl ι s t c.r):J1 ι s (tN t d) c P:=by
 unfold J1;rw[n_ ι s d a.o.1,n_ ι s d a.o.2,n_ ι s d a.r];exact h
structure aj'(t:aS)(a b:Cr)(v1 v2:K):Prop where
 h1:v1=vl ι s t b.o.1-vl ι s t a.o.1
 h2:v2=vl ι s t b.o.2-vl ι s t a.o.2
 hd:vl ι s t (cD t a b)=v1*v1+v2*v2
 hS:vl ι s t (cS t a b)=vl ι s t a.r+vl ι s t (cD t a b)-vl ι s t b.r
 hW:vl ι s t (Ec t a b)=vl ι s t (cD t a b)+vl ι s t (cD t a b)
 hX:vl ι s t (cX t a b)=(1+1+1+1)*(vl ι s t a.r*vl ι s t (cD t a b))-vl ι s t (cS t a b)*vl ι s t (cS t a b)
structure aka(t:aS)(a b:Cr):Prop where
 hv:j_ t.length (cV a b)
 hd:Sh t.length (cD t a b)
 hS:Sh t.length (cS t a b)
 hW:Sh t.length (Ec t a b)
 hX:Sh t.length (cX t a b)
 hG:Sh t.length (cG t a b)
 hF:j_ t.length (HN t a b)
theorem B9(c:iU t.length t){a b:Cr}(e:PC t.length a)(f:PC t.length b):aka t a b:=by
 have v:j_ t.length (cV a b):=f.o.sub e.o;have d:Sh t.length (cD t a b):=Sh.dot c v v;have S:Sh t.length (cS t a b):=(e.r.add d).sub f.r;have W:Sh t.length (Ec t a b):=Sh.mul c (Sh.mJ _ _) d;have X:Sh t.length (cX t a b):=(Sh.mul c (Sh.mJ _ _) (Sh.mul c e.r d)).sub (Sh.mul c S S);have g:Sh t.length (cG t a b):=Sh.div c S W;exact⟨v,d,S,W,X,g,e.o.along c g v⟩
theorem Lr(c:iU t.length t)(f:Model ι s t t.length){a b:Cr}(e:PC t.length a)(h:PC t.length b):aj' ι s t a b (vl ι s t (cV a b).1) (vl ι s t (cV a b).2):=by
 obtain⟨v,d,S,W,X,g,-⟩:=B9 c e h;have j:(cV a b).1=jg b.o.1 a.o.1:=rfl;have i:(cV a b).2=jg b.o.2 a.o.2:=rfl;refine⟨?_,?_,?_,?_,?_,?_⟩
 ·rw[j,gP ι s h.o.1 e.o.1]
 ·rw[i,gP ι s h.o.2 e.o.2]
 ·exact Cv ι s c f v v
 ·show vl ι s t (jg (o9 a.r (cD t a b)) b.r)=_
  rw[gP ι s (e.r.add d) h.r,r_ ι s e.r d]
 ·show vl ι s t (mulL t (iF 2) (cD t a b))=_
  rw[dW ι s c f (Sh.mJ _ _) d,jP,YX];generalize vl ι s t (cD t a b)=x;exact rg [x]
 ·show vl ι s t (jg (mulL t (iF 4) (mulL t a.r (cD t a b))) (mulL t (cS t a b) (cS t a b)))=_
  rw[gP ι s (Sh.mul c (Sh.mJ _ _) (Sh.mul c e.r d)) (Sh.mul c S S),dW ι s c f (Sh.mJ _ _) (Sh.mul c e.r d),dW ι s c f e.r d,dW ι s c f S S,jP,YW]
theorem abo(d:iU t.length t)(g:Model ι s t t.length){a b:Cr}(f:PC t.length a)(e:PC t.length b)(d0:vl ι s t (cD t a b)≠0):vl ι s t (cG t a b)*vl ι s t (Ec t a b)=vl ι s t (cS t a b):=by
 have c:=B9 d f e;exact vA ι s d g c.hS c.hW (by rw[(Lr ι s d g f e).hW];exact RI d0)
theorem RO(e:iU t.length t)(f:Model ι s t t.length){a b:Cr}(d:PC t.length a)(h:PC t.length b)(d0:vl ι s t (cD t a b)≠0)(x0:vl ι s t (cX t a b)=0):J1 ι s t a (HN t a b)∧J1 ι s t b (HN t a b):=by
 have c:=B9 e d h;have v:=Lr ι s e f d h;have g:=abo ι s e f d h d0;have p:=TJ (H:=(0:K)) (r:=0) v.hd v.hS v.hW d0 g (i_ _) (by rw[i_,←v.hX,x0])
 have f1:=uM ι s e f d.o c.hG c.hv;have f2:=uL ι s e f d.o c.hG c.hv;have m:=v.h1;have l:=v.h2;unfold J1;rw[show HN t a b=dR t a.o (cG t a b) (cV a b)from rfl,f1,f2,←p.1,←p.2,m,l]
 generalize vl ι s t (cG t a b)=γ;generalize vl ι s t a.o.1=a1;generalize vl ι s t a.o.2=k;generalize vl ι s t b.o.1=j;generalize vl ι s t b.o.2=i;exact⟨rg [γ,a1,k,j,i],rg [γ,a1,k,j,i]⟩
theorem RN(i:iU t.length t){a b:Cr}(j:Model ι s (cT t a b) (cT t a b).length)(f:PC t.length a)(l:PC t.length b)(d0:vl ι s t (cD t a b)≠0):
  (J1 ι s (cT t a b) a (cP1 t a b)∧J1 ι s (cT t a b) b (cP1 t a b))∧(J1 ι s (cT t a b) a (cP2 t a b)∧J1 ι s (cT t a b) b (cP2 t a b)):=by
 have c:=B9 i f l;have e:cT t a b=tN t (cX t a b):=rfl;have d:iU (cT t a b).length (cT t a b):=FN i _;have le:t.length≤(cT t a b).length:=by rw[e,gF];omega
 obtain⟨k,D⟩:=Model.base ι s j;have v:=Lr ι s i k f l;have g:=abo ι s i k f l d0;have E:Sh (cT t a b).length (eM t.length):=(qi (t:=t) (cX t a b)).sh;have u:Sh (cT t a b).length (cH t a b):=Sh.div d E (c.hW.mono le);have I:vl ι s (cT t a b) (Ec t a b)≠0:=by rw[e,n_ ι s _ c.hW,v.hW];exact RI d0
 have C:vl ι s (cT t a b) (cH t a b)*vl ι s t (Ec t a b)=s t.length:=by
  have:=vA ι s d j E (c.hW.mono le) I;rw[e,n_ ι s _ c.hW,J8]at this;exact this
 have m:=c.hv.mono le;have o:Sh (cT t a b).length (mulL (cT t a b) (iF (-1)) (cV a b).2):=Sh.mul d (Sh.mJ _ _) m.2;have F:j_ (cT t a b).length (cN t a b):=⟨o,m.1⟩;have M:vl ι s (cT t a b) (cN t a b).1= -1*vl ι s t (cV a b).2:=by
  show vl ι s (cT t a b) (mulL (cT t a b) (iF (-1)) (cV a b).2)=_;rw[dW ι s d j (Sh.mJ _ _) m.2,jP,YV,e,n_ ι s _ c.hv.2]
 have L:vl ι s (cT t a b) (cN t a b).2=vl ι s t (cV a b).1:=by
  show vl ι s (cT t a b) (cV a b).1=_;rw[e,n_ ι s _ c.hv.1]
 have q:Sh (cT t a b).length (cH' t a b):=Sh.mul d (Sh.mJ _ _) u;have n:vl ι s (cT t a b) (cH' t a b)= -1*vl ι s (cT t a b) (cH t a b):=by
  show vl ι s (cT t a b) (mulL (cT t a b) (iF (-1)) (cH t a b))=_;rw[dW ι s d j (Sh.mJ _ _) u,jP,YV]
 have f1:=uM ι s i k f.o c.hG c.hv;have f2:=uL ι s i k f.o c.hG c.hv;have S:vl ι s (cT t a b) (HN t a b).1=vl ι s t a.o.1+vl ι s t (cG t a b)*vl ι s t (cV a b).1:=by rw[e,n_ ι s _ c.hF.1];exact f1
 have R:vl ι s (cT t a b) (HN t a b).2=vl ι s t a.o.2+vl ι s t (cG t a b)*vl ι s t (cV a b).2:=by rw[e,n_ ι s _ c.hF.2];exact f2
 have key:∀(H:List Rat)(h r:K),Sh (cT t a b).length H→vl ι s (cT t a b) H=h→h*vl ι s t (Ec t a b)=r→r*r=vl ι s t (cX t a b)→J1 ι s (cT t a b) a (dR (cT t a b) (HN t a b) H (cN t a b))∧J1 ι s (cT t a b) b (dR (cT t a b) (HN t a b) H (cN t a b)):=by
  intro H h r B G qr J;have p:=TJ (H:=h) (r:=r) v.hd v.hS v.hW d0 g qr (by rw[J,v.hX])
  have z:=uM ι s d j (c.hF.mono le) B F;have y:=uL ι s d j (c.hF.mono le) B F;rw[S,G,M]at z;rw[R,G,L]at y;have O:=v.h1;have N:=v.h2;constructor
  ·refine J1.up ι s f ?_
   show(vl ι s (cT t a b) _-_)*(vl ι s (cT t a b) _-_)+(vl ι s (cT t a b) _-_)*(vl ι s (cT t a b) _-_)=_;rw[z,y,←p.1];generalize vl ι s t (cG t a b)=γ;generalize vl ι s t a.o.1=a1;generalize vl ι s t a.o.2=A;generalize vl ι s t (cV a b).1=v1;generalize vl ι s t (cV a b).2=v2;exact rg [γ,a1,A,v1,v2,h]
  ·refine J1.up ι s l ?_
   show(vl ι s (cT t a b) _-_)*(vl ι s (cT t a b) _-_)+(vl ι s (cT t a b) _-_)*(vl ι s (cT t a b) _-_)=_;rw[z,y,←p.2,O,N];generalize vl ι s t (cG t a b)=γ;generalize vl ι s t a.o.1=a1;generalize vl ι s t a.o.2=A;generalize vl ι s t b.o.1=Q;generalize vl ι s t b.o.2=P;exact rg [γ,a1,A,Q,P,h]
 refine⟨key _ _ _ u rfl C D,key _ _ (-1*s t.length) q n ?_ ?_⟩
 ·rw[←C]
  generalize vl ι s (cT t a b) (cH t a b)=h;generalize vl ι s t (Ec t a b)=w;exact rg [h,w]
 ·rw[←D]
  generalize s t.length=x;exact rg [x]
end
end Tw
end Lw
namespace Lw
namespace Tw
open fL zY fw
set_option synthInstance.maxSize 100000
set_option synthInstance.maxHeartbeats 2000000
section
variable {K:Type} [fw K] (ι:r7 Rat K) (s:Nat→K) {t:aS}
def OnL(T:aS)(p q P:Pt):Prop:=(vl ι s T q.1-vl ι s T p.1)*(vl ι s T P.2-vl ι s T p.2)-(vl ι s T q.2-vl ι s T p.2)*(vl ι s T P.1-vl ι s T p.1)=0
structure aj9(t:aS)(c:Cr)(p q:Pt):Prop where
 hv:j_ t.length (lV p q)
 hw:j_ t.length (lW c p)
 hQ:Sh t.length (lQ t p q)
 hE:Sh t.length (lE t c p q)
 hC:Sh t.length (lC t c p q)
 hX:Sh t.length (lX t c p q)
theorem BC(a:iU t.length t){c:Cr}{p q:Pt}(d:PC t.length c)(b:j_ t.length p)(e:j_ t.length q):aj9 t c p q:=by
 have v:j_ t.length (lV p q):=e.sub b;have w:j_ t.length (lW c p):=d.o.sub b;have Q:Sh t.length (lQ t p q):=Sh.dot a v v;have E:Sh t.length (lE t c p q):=Sh.dot a v w;have C:Sh t.length (lC t c p q):=Sh.t_ a v w;exact⟨v,w,Q,E,C,(Sh.mul a Q d.r).sub (Sh.mul a C C)⟩
theorem ag1(a:iU t.length t)(d:Model ι s t t.length){c:Cr}{p q:Pt}(b:PC t.length c)(f:j_ t.length p)(e:j_ t.length q):vl ι s t (lX t c p q)=vl ι s t (lQ t p q)*vl ι s t c.r-vl ι s t (lC t c p q)*vl ι s t (lC t c p q):=by
 have h:=BC a b f e;show vl ι s t (jg (mulL t (lQ t p q) c.r) (mulL t (lC t c p q) (lC t c p q)))=_;rw[gP ι s (Sh.mul a h.hQ b.r) (Sh.mul a h.hC h.hC),dW ι s a d h.hQ b.r,dW ι s a d h.hC h.hC]
theorem Nv(b:iU t.length t)(j:Model ι s t t.length){c:Cr}{p q:Pt}(i:PC t.length c)(a:j_ t.length p)(f:j_ t.length q)(D:vl ι s t (lQ t p q)≠0){g r e d:K}(x:g*vl ι s t (lQ t p q)=vl ι s t (lE t c p q)+r)(w:r*r=vl ι s t (lX t c p q))
  (z:e=vl ι s t p.1+g*vl ι s t (lV p q).1) (y:d=vl ι s t p.2+g*vl ι s t (lV p q).2):
  (e-vl ι s t c.o.1)*(e-vl ι s t c.o.1)+(d-vl ι s t c.o.2)*(d-vl ι s t c.o.2)=vl ι s t c.r∧(vl ι s t q.1-vl ι s t p.1)*(d-vl ι s t p.2)-(vl ι s t q.2-vl ι s t p.2)*(e-vl ι s t p.1)=0:=by
 have h:=BC b i a f;have A:vl ι s t (lQ t p q)=vl ι s t (lV p q).1*vl ι s t (lV p q).1+vl ι s t (lV p q).2*vl ι s t (lV p q).2:=Cv ι s b j h.hv h.hv;have B:vl ι s t (lE t c p q)=vl ι s t (lV p q).1*vl ι s t (lW c p).1+vl ι s t (lV p q).2*vl ι s t (lW c p).2:=Cv ι s b j h.hv h.hw;have C:vl ι s t (lC t c p q)=vl ι s t (lV p q).1*vl ι s t (lW c p).2-vl ι s t (lV p q).2*vl ι s t (lW c p).1:=Fk ι s b j h.hv h.hw;have k:=adG A D B C x (by rw[w,ag1 ι s b j i a f])
 have m:vl ι s t (lW c p).1=vl ι s t c.o.1-vl ι s t p.1:=gP ι s i.o.1 a.1;have l:vl ι s t (lW c p).2=vl ι s t c.o.2-vl ι s t p.2:=gP ι s i.o.2 a.2;have v1:vl ι s t (lV p q).1=vl ι s t q.1-vl ι s t p.1:=gP ι s f.1 a.1;have v2:vl ι s t (lV p q).2=vl ι s t q.2-vl ι s t p.2:=gP ι s f.2 a.2;rw[←k,z,y,m,l,v1,v2];clear k z y m l v1 v2 C B A x w D;generalize vl ι s t q.1=o;generalize vl ι s t q.2=n;generalize vl ι s t p.1=v;generalize vl ι s t p.2=u;generalize vl ι s t c.o.1=o1;generalize vl ι s t c.o.2=o2;exact⟨rg [g,o,n,v,u,o1,o2],rg [g,o,n,v,u]⟩
theorem Q3(a:iU t.length t)(d:Model ι s t t.length){c:Cr}{p q:Pt}(i:PC t.length c)(b:j_ t.length p)(f:j_ t.length q)(j:vl ι s t (lQ t p q)≠0)(x0:vl ι s t (lX t c p q)=0):J1 ι s t c (dR t p (lF t c p q) (lV p q))∧OnL ι s t p q (dR t p (lF t c p q) (lV p q)):=by
 have h:=BC a i b f;have e:Sh t.length (lF t c p q):=Sh.div a h.hE h.hQ;have g:vl ι s t (lF t c p q)*vl ι s t (lQ t p q)=vl ι s t (lE t c p q)+0:=by
  rw[add_zero'];exact vA ι s a d h.hE h.hQ j
 exact Nv ι s a d i b f j g (by rw[x0,cO]) (uM ι s a d b e h.hv) (uL ι s a d b e h.hv)
theorem Q2(k:iU t.length t){c:Cr}{p q:Pt}(d:Model ι s (lT t c p q) (lT t c p q).length)(j:PC t.length c)(b:j_ t.length p)(f:j_ t.length q)(y:vl ι s t (lQ t p q)≠0):
  (J1 ι s (lT t c p q) c (dR (lT t c p q) p (lG t c p q) (lV p q))∧OnL ι s (lT t c p q) p q (dR (lT t c p q) p (lG t c p q) (lV p q)))∧(J1 ι s (lT t c p q) c (dR (lT t c p q) p (lH t c p q) (lV p q))∧OnL ι s (lT t c p q) p q (dR (lT t c p q) p (lH t c p q) (lV p q))):=by
 have h:=BC k j b f;have I:lT t c p q=tN t (lX t c p q):=rfl;have a:iU (lT t c p q).length (lT t c p q):=FN k _;have le:t.length≤(lT t c p q).length:=by rw[I,gF];omega
 obtain⟨D,n⟩:=Model.base ι s d;have i:Sh (lT t c p q).length (eM t.length):=(qi (t:=t) (lX t c p q)).sh;have v:vl ι s (lT t c p q) (eM t.length)=s t.length:=J8 ι s _;have u:Sh (lT t c p q).length (lA t c p q):=(h.hE.mono le).add i;have o:Sh (lT t c p q).length (lB t c p q):=(h.hE.mono le).sub i;have F:Sh (lT t c p q).length (lG t c p q):=Sh.div a u (h.hQ.mono le);have E:Sh (lT t c p q).length (lH t c p q):=Sh.div a o (h.hQ.mono le);have m:vl ι s (lT t c p q) (lQ t p q)=vl ι s t (lQ t p q):=n_ ι s _ h.hQ;have B:vl ι s (lT t c p q) (lE t c p q)=vl ι s t (lE t c p q):=n_ ι s _ h.hE;have e:vl ι s (lT t c p q) (lQ t p q)≠0:=by rw[m];exact y
 have H:vl ι s (lT t c p q) (lG t c p q)*vl ι s t (lQ t p q)=vl ι s t (lE t c p q)+s t.length:=by
  have:=vA ι s a d u (h.hQ.mono le) e;rw[m]at this;refine this.trans ?_;show vl ι s (lT t c p q) (o9 (lE t c p q) (eM t.length))=_;rw[r_ ι s (h.hE.mono le) i,v,B]
 have G:vl ι s (lT t c p q) (lH t c p q)*vl ι s t (lQ t p q)=vl ι s t (lE t c p q)+ -s t.length:=by
  have:=vA ι s a d o (h.hQ.mono le) e;rw[m]at this;refine this.trans ?_;show vl ι s (lT t c p q) (jg (lE t c p q) (eM t.length))=_;rw[gP ι s (h.hE.mono le) i,v,B,sub_def']
 have key:∀(g:List Rat)(r:K),Sh (lT t c p q).length g→vl ι s (lT t c p q) g*vl ι s t (lQ t p q)=vl ι s t (lE t c p q)+r→r*r=vl ι s t (lX t c p q)→J1 ι s (lT t c p q) c (dR (lT t c p q) p g (lV p q))∧OnL ι s (lT t c p q) p q (dR (lT t c p q) p g (lV p q)):=by
  intro g r sg C qr;have a1:=uM ι s a d (b.mono le) sg (h.hv.mono le);have w:=uL ι s a d (b.mono le) sg (h.hv.mono le);have A:vl ι s (lT t c p q) p.1=vl ι s t p.1:=n_ ι s _ b.1;have z:vl ι s (lT t c p q) p.2=vl ι s t p.2:=n_ ι s _ b.2;have J:vl ι s (lT t c p q) (lV p q).1=vl ι s t (lV p q).1:=n_ ι s _ h.hv.1;have l:vl ι s (lT t c p q) (lV p q).2=vl ι s t (lV p q).2:=n_ ι s _ h.hv.2;rw[A,J]at a1;rw[z,l]at w;obtain⟨k1,k2⟩:=Nv ι s k D j b f y C qr a1 w;refine⟨J1.up ι s j k1,?_⟩;unfold OnL;rw[A,z,show vl ι s (lT t c p q) q.1=vl ι s t q.1 from n_ ι s _ f.1,show vl ι s (lT t c p q) q.2=vl ι s t q.2 from n_ ι s _ f.2]
  exact k2
 refine⟨key _ _ F H n,key _ _ E G ?_⟩;rw[←n];generalize s t.length=x;exact rg [x]
structure ShR(k:Nat)(x:Rp):Prop where
 o:j_ k x.o
 q:j_ k x.q
structure RpS(t:aS)(x:Rp):Prop where
 hy:j_ t.length x.qD
 hd:Sh t.length (x.d t)
 hh:Sh t.length x.h
 hr:Sh t.length (x.r t)
theorem SI(b:iU t.length t){x:Rp}(h:ShR t.length x):RpS t x:=by
 have y:j_ t.length x.qD:=h.q.sub h.o;have d:Sh t.length (x.d t):=Sh.dot b y y;have a:Sh t.length x.h:=Sh.mJ _ _;exact⟨y,d,a,(Sh.mul b (Sh.mJ _ _) d).sub (Sh.mul b a a)⟩
theorem aiD(a:iU t.length t)(b:Model ι s t t.length){x:Rp}(h:ShR t.length x):vl ι s t (x.r t)=ι.φ x.v.sq*vl ι s t (x.d t)-vl ι s t x.h*vl ι s t x.h:=by
 have S:=SI a h;show vl ι s t (jg (mulL t (iF x.v.sq) (x.d t)) (mulL t x.h x.h))=_;rw[gP ι s (Sh.mul a (Sh.mJ _ _) S.hd) (Sh.mul a S.hh S.hh),dW ι s a b (Sh.mJ _ _) S.hd,dW ι s a b S.hh S.hh,jP]
theorem aiE(x:Rp):vl ι s t x.h=ι.φ x.v.x*ι.φ x.u.y-ι.φ x.v.y*ι.φ x.u.x:=by
 show vl ι s t (iF (x.v.t_ x.u))=_;rw[jP];unfold V2.t_;rw[ι.sub,ι.mul,ι.mul]
theorem akp{T:aS}(n:iU t.length t)(p:Model ι s t t.length)(c:iU T.length T)(b:Model ι s T T.length)(le:t.length≤T.length)(up:∀{a:List Rat},Sh t.length a→vl ι s T a=vl ι s t a){x:Rp}(h:ShR t.length x)(d0:vl ι s t (x.d t)≠0){root:List Rat}(l:Sh T.length root)(w:vl ι s T root*vl ι s T root=vl ι s t (x.r t)):
  j_ T.length (x.z t T root)∧vl ι s T (x.z t T root).1*vl ι s T (x.z t T root).1+vl ι s T (x.z t T root).2*vl ι s T (x.z t T root).2=ι.φ x.v.sq∧vl ι s T (x.z t T root).1*vl ι s t x.qD.2-vl ι s T (x.z t T root).2*vl ι s t x.qD.1=vl ι s t x.h:=by
 have S:=SI n h;have d:=S.hy.mono le;have o:Sh T.length (xI x.qD.2):=d.2.neg;have f:Sh T.length (mulL T x.h (xI x.qD.2)):=Sh.mul c (S.hh.mono le) o;have e:Sh T.length (mulL T x.h x.qD.1):=Sh.mul c (S.hh.mono le) d.1;have i:Sh T.length (mulL T root x.qD.1):=Sh.mul c l d.1;have g:Sh T.length (mulL T root x.qD.2):=Sh.mul c l d.2;have r:Sh T.length (x.w T root).1:=i.sub f;have q:Sh T.length (x.w T root).2:=g.sub e;have m:Sh T.length (x.d t):=S.hd.mono le;have j:vl ι s T (x.d t)≠0:=by rw[up S.hd];exact d0
 have v:vl ι s T (x.z t T root).1*vl ι s t (x.d t)=vl ι s T root*vl ι s t x.qD.1-vl ι s t x.h* -vl ι s t x.qD.2:=by
  have:=vA ι s c b r m j;rw[up S.hd]at this;refine this.trans ?_;show vl ι s T (jg (mulL T root x.qD.1) (mulL T x.h (xI x.qD.2)))=_;rw[gP ι s i f,dW ι s c b l d.1,dW ι s c b (S.hh.mono le) o,Xw ι s d.2,up S.hh,up S.hy.1,up S.hy.2]
 have u:vl ι s T (x.z t T root).2*vl ι s t (x.d t)=vl ι s T root*vl ι s t x.qD.2-vl ι s t x.h*vl ι s t x.qD.1:=by
  have:=vA ι s c b q m j;rw[up S.hd]at this;refine this.trans ?_;show vl ι s T (jg (mulL T root x.qD.2) (mulL T x.h x.qD.1))=_;rw[gP ι s g e,dW ι s c b l d.2,dW ι s c b (S.hh.mono le) d.1,up S.hh,up S.hy.1,up S.hy.2]
 have y:vl ι s t (x.d t)=vl ι s t x.qD.1*vl ι s t x.qD.1+vl ι s t x.qD.2*vl ι s t x.qD.2:=Cv ι s n p S.hy S.hy;have k:=acv (YT ι x.v) y d0 (aiE ι s (t:=t) x) (by rw[w,aiD ι s n p h]) v u
 exact⟨⟨Sh.div c r m,Sh.div c q m⟩,k⟩
end
end Tw
end Lw
namespace Lw
namespace Tw
open fL zY fw
set_option synthInstance.maxSize 100000
set_option synthInstance.maxHeartbeats 2000000
section
variable {K:Type} [fw K] (ι:r7 Rat K) (s:Nat→K) {t T:aS}
def FZ(T:aS)(P:Pt):K×K:=(vl ι s T P.1,vl ι s T P.2)
def yk(T:aS)(b:Pl):Prop:=vl ι s T b.c*vl ι s T b.c+vl ι s T b.s*vl ι s T b.s=1
def OnV(q r p:K×K):Prop:=(r.1-q.1)*(p.2-q.2)-(r.2-q.2)*(p.1-q.1)=0
theorem Bg(g:iU T.length T)(h:Model ι s T T.length){A:Hd}{c:Pt}(a:j_ T.length A.o)(d:j_ T.length c)(b:A.v.sq≠0)(on:J1 ι s T A.cr c):
  HP T.length (sJ T c A)∧yk ι s T (sJ T c A)∧uK ι s (sJ T c A) T A.p=FZ ι s T A.o∧uK ι s (sJ T c A) T A.c=FZ ι s T c:=by
 have w:j_ T.length (fD c A.o):=d.sub a;have f:vl ι s T (fD c A.o).1=vl ι s T c.1-vl ι s T A.o.1:=gP ι s d.1 a.1;have e:vl ι s T (fD c A.o).2=vl ι s T c.2-vl ι s T A.o.2:=gP ι s d.2 a.2;have bv:=LB ι s g h (u:=A.v) (p:=A.p) w a b;have hw:vl ι s T (fD c A.o).1*vl ι s T (fD c A.o).1+vl ι s T (fD c A.o).2*vl ι s T (fD c A.o).2=ι.φ A.v.sq:=by
  rw[f,e];have:_=vl ι s T (iF A.v.sq):=on;rw[jP]at this;exact this
 refine⟨LD g w a,(bv.unit ι s b hw).1,bv.qO ι s,?_⟩;refine(bv.far ι s b hw rfl).trans ?_;rw[f,e];unfold FZ;generalize vl ι s T c.1=j;generalize vl ι s T c.2=i;generalize vl ι s T A.o.1=o1;generalize vl ι s T A.o.2=o2;exact Prod.ext (rg [j,o1]) (rg [i,o2])
theorem EN{a:List Rat}(c:iU t.length t)(d:Model ι s t t.length)(b:Sh t.length a)(h:a7 t a≠0):vl ι s t a≠0:=fun e=>h (by rw[lN ι s c d b,e,iE])
theorem Kh{a:List Rat}(c:iU t.length t)(d:Model ι s t t.length)(b:Sh t.length a)(h:a7 t a=0):vl ι s t a=0:=ny.1 (by rw[←lN ι s c d b];exact h)
def afA(T:aS)(A B:Hd)(a:List Pl):Prop:=∃b c,a=[b,c]∧(HP T.length b∧HP T.length c)∧(yk ι s T b∧yk ι s T c)∧uK ι s b T A.p=FZ ι s T A.o∧uK ι s c T B.p=FZ ι s T B.o∧uK ι s b T A.c=uK ι s c T B.c
theorem abd{k:Nat}{A:Hd}(h:j_ k A.o):PC k A.cr:=⟨h,Sh.mJ _ _⟩
theorem aiB(c:iU t.length t){A B:Hd}(p:j_ t.length A.o)(o:j_ t.length B.o){ss:List wK}(h:FO t A B=some ss):∀z∈ss,Model ι s z.T z.T.length→afA ι s z.T A B z.ps:=by
 intro z d a;have ca:=abd p;have cb:=abd o;have C:=B9 c ca cb;unfold FO at h;split at h
 ·cases h
 ·rename_i u
  have nA:A.v.sq≠0:=fun e=>u (.inl e)
  have q:B.v.sq≠0:=fun e=>u (.inr e)
  split at h
  ·split at h
   ·cases h
   ·cases h;cases d
  ·rename_i v
   split at h
   ·rename_i w
    cases h;have le:t.length≤(cT t A.cr B.cr).length:=by show t.length≤(tN t (cX t A.cr B.cr)).length;rw[gF];omega
    have b:iU (cT t A.cr B.cr).length (cT t A.cr B.cr):=FN c _;have D:z.T=cT t A.cr B.cr:=by
     simp only[List.mem_cons,List.not_mem_nil,or_false]at d;rcases d with rfl|rfl<;>rfl
    rw[D]at a⊢;obtain⟨E,-⟩:=Model.base ι s a;have two:=RN ι s c a ca cb (EN ι s c E C.hd v);have F:Sh (cT t A.cr B.cr).length (eM t.length):=(qi (t:=t) (cX t A.cr B.cr)).sh;have y:Sh (cT t A.cr B.cr).length (cH t A.cr B.cr):=Sh.div b F (C.hW.mono le);have r:Sh (cT t A.cr B.cr).length (cH' t A.cr B.cr):=Sh.mul b (Sh.mJ _ _) y;have x:j_ (cT t A.cr B.cr).length (cN t A.cr B.cr):=⟨Sh.mul b (Sh.mJ _ _) (C.hv.mono le).2,(C.hv.mono le).1⟩;have s1:j_ (cT t A.cr B.cr).length (cP1 t A.cr B.cr):=(C.hF.mono le).along b y x;have s2:j_ (cT t A.cr B.cr).length (cP2 t A.cr B.cr):=(C.hF.mono le).along b r x;simp only[List.mem_cons,List.not_mem_nil,or_false]at d;rcases d with rfl|rfl
    ·obtain⟨n,m,l,k⟩:=Bg ι s b a (p.mono le) s1 nA two.1.1
     obtain⟨j,i,g,f⟩:=Bg ι s b a (o.mono le) s1 q two.1.2;exact⟨_,_,rfl,⟨n,j⟩,⟨m,i⟩,l,g,by rw[k,f]⟩
    ·obtain⟨n,m,l,k⟩:=Bg ι s b a (p.mono le) s2 nA two.2.1
     obtain⟨j,i,g,f⟩:=Bg ι s b a (o.mono le) s2 q two.2.2;exact⟨_,_,rfl,⟨n,j⟩,⟨m,i⟩,l,g,by rw[k,f]⟩
   ·split at h
    ·rename_i w
     cases h;simp only[List.mem_cons,List.not_mem_nil,or_false]at d;subst d;have one:=RO ι s c a ca cb (EN ι s c a C.hd v) (Kh ι s c a C.hX w);obtain⟨n,m,l,k⟩:=Bg ι s c a p C.hF nA one.1;obtain⟨j,i,g,f⟩:=Bg ι s c a o C.hF q one.2;exact⟨_,_,rfl,⟨n,j⟩,⟨m,i⟩,l,g,by rw[k,f]⟩
    ·cases h;cases d
def ah1(T:aS)(A:Hd)(p q:Pt)(a:List Pl):Prop:=∃b,a=[b]∧HP T.length b∧yk ι s T b∧uK ι s b T A.p=FZ ι s T A.o∧OnV (FZ ι s T p) (FZ ι s T q) (uK ι s b T A.c)
theorem aks(a:iU t.length t){A:Hd}{p q:Pt}(k:j_ t.length A.o)(e:j_ t.length p)(l:j_ t.length q)(n:a7 t (lQ t p q)≠0){ss:List wK}(h:Xf t A p q=some ss):∀z∈ss,Model ι s z.T z.T.length→ah1 ι s z.T A p q z.ps:=by
 intro z c b;have ca:=abd k;have L:=BC a ca e l;unfold Xf at h;split at h
 ·cases h
 ·rename_i nA
  split at h
  ·cases h
   have le:t.length≤(lT t A.cr p q).length:=by show t.length≤(tN t (lX t A.cr p q)).length;rw[gF];omega
   have d:iU (lT t A.cr p q).length (lT t A.cr p q):=FN a _;have o:z.T=lT t A.cr p q:=by
    simp only[List.mem_cons,List.not_mem_nil,or_false]at c;rcases c with rfl|rfl<;>rfl
   rw[o]at b⊢;obtain⟨u,-⟩:=Model.base ι s b;have two:=Q2 ι s a b ca e l (EN ι s a u L.hQ n);have m:Sh (lT t A.cr p q).length (eM t.length):=(qi (t:=t) (lX t A.cr p q)).sh;have x:Sh (lT t A.cr p q).length (lG t A.cr p q):=Sh.div d ((L.hE.mono le).add m) (L.hQ.mono le);have w:Sh (lT t A.cr p q).length (lH t A.cr p q):=Sh.div d ((L.hE.mono le).sub m) (L.hQ.mono le);have s1:=(e.mono le).along d x (L.hv.mono le);have s2:=(e.mono le).along d w (L.hv.mono le);simp only[List.mem_cons,List.not_mem_nil,or_false]at c;rcases c with rfl|rfl
   ·obtain⟨j,i,g,f⟩:=Bg ι s d b (k.mono le) s1 nA two.1.1
    exact⟨_,rfl,j,i,g,by rw[f];exact two.1.2⟩
   ·obtain⟨j,i,g,f⟩:=Bg ι s d b (k.mono le) s2 nA two.2.1
    exact⟨_,rfl,j,i,g,by rw[f];exact two.2.2⟩
  ·split at h
   ·rename_i v
    cases h;simp only[List.mem_cons,List.not_mem_nil,or_false]at c;subst c;have one:=Q3 ι s a b ca e l (EN ι s a b L.hQ n) (Kh ι s a b L.hX v);have r:Sh t.length (lF t A.cr p q):=Sh.div a L.hE L.hQ;obtain⟨j,i,g,f⟩:=Bg ι s a b k (e.along a r L.hv) nA one.1;exact⟨_,rfl,j,i,g,by rw[f];exact one.2⟩
   ·cases h;cases c
def afw(T:aS)(x:Rp)(a:List Pl):Prop:=∃b,a=[b]∧HP T.length b∧yk ι s T b∧uK ι s b T x.p=FZ ι s T x.o∧∀g:V2,x.v=g.sub x.f→OnV (uK ι s b T x.f) (uK ι s b T g) (FZ ι s T x.q)
theorem PW{T:aS}(z:iU t.length t)(M:Model ι s t t.length)(i:iU T.length T)(e:Model ι s T T.length)(le:t.length≤T.length)(up:∀{a:List Rat},Sh t.length a→vl ι s T a=vl ι s t a){x:Rp}(h:ShR t.length x)(d0:vl ι s t (x.d t)≠0){root:List Rat}(L:Sh T.length root)(J:vl ι s T root*vl ι s T root=vl ι s t (x.r t))(q:x.v.sq≠0):afw ι s T x [x.pl t T root]:=by
 obtain⟨j,C,b⟩:=akp ι s z M i e le up h d0 L J;have o:=h.o.mono le;have bv:=LB ι s i e (u:=x.v) (p:=x.p) j o q;obtain⟨f,l,k⟩:=bv.unit ι s q C;refine⟨_,rfl,LD i j o,f,bv.qO ι s,fun g y=>?_⟩
 have v:=bv.hx;have r:=bv.hy;have S:=SI z h;have E:vl ι s t x.qD.1=vl ι s t x.q.1-vl ι s t x.o.1:=gP ι s h.q.1 h.o.1;have D:vl ι s t x.qD.2=vl ι s t x.q.2-vl ι s t x.o.2:=gP ι s h.q.2 h.o.2;have w:=aiE ι s (t:=t) x;rw[w,E,D]at b;rw[←l,←k]at b;show OnV _ _ _;unfold OnV FZ uK;rw[show x.pl t T root=rj T x.v (x.z t T root) x.p x.o from rfl,v,r,up h.q.1,up h.q.2,up h.o.1,up h.o.2]
 have O:ι.φ x.v.x=ι.φ g.x-ι.φ x.f.x:=by rw[y];exact ι.sub _ _
 have N:ι.φ x.v.y=ι.φ g.y-ι.φ x.f.y:=by rw[y];exact ι.sub _ _
 have G:ι.φ x.u.x=ι.φ x.f.x-ι.φ x.p.x:=ι.sub _ _;have F:ι.φ x.u.y=ι.φ x.f.y-ι.φ x.p.y:=ι.sub _ _;rw[O,N,G,F]at b;have d:vl ι s T (rj T x.v (x.z t T root) x.p x.o).c*vl ι s T (rj T x.v (x.z t T root) x.p x.o).c+vl ι s T (rj T x.v (x.z t T root) x.p x.o).s*vl ι s T (rj T x.v (x.z t T root) x.p x.o).s=1:=f;simp only;clear f l k v r bv w;generalize vl ι s T (rj T x.v (x.z t T root) x.p x.o).c=c at b d⊢;generalize vl ι s T (rj T x.v (x.z t T root) x.p x.o).s=σ at b d⊢;generalize ι.φ g.x=B at b⊢;generalize ι.φ g.y=A at b⊢;generalize ι.φ x.f.x=f1 at b⊢;generalize ι.φ x.f.y=f2 at b⊢;generalize ι.φ x.p.x=n at b⊢;generalize ι.φ x.p.y=m at b⊢;generalize vl ι s t x.q.1=I at b⊢;generalize vl ι s t x.q.2=H at b⊢;generalize vl ι s t x.o.1=o1 at b⊢;generalize vl ι s t x.o.2=o2 at b⊢;exact rg2 [c,σ,B,A,f1,f2,n,m,I,H,o1,o2] (-((B-f1)*(f2-m)-(A-f2)*(f1-n))) 1 d b
theorem akq(a:iU t.length t){x:Rp}(f:ShR t.length x)(j:x.v.sq≠0){ss:List wK}(h:Xd t x=some ss):∀z∈ss,Model ι s z.T z.T.length→afw ι s z.T x z.ps:=by
 intro z d c;have S:=SI a f;unfold Xd at h;split at h
 ·cases h
 ·rename_i q
  have d0:Model ι s t t.length→fw.nn (vl ι s t (x.r t))→vl ι s t (x.d t)≠0:=fun b i e=>by
   have g:=aiD ι s a b f;rw[e,cO]at g;have r:vl ι s t x.h*vl ι s t x.h=0:=S4 (qX _) (by
    have u: -(vl ι s t x.h*vl ι s t x.h)=vl ι s t (x.r t):=by
     rw[g];generalize vl ι s t x.h=y;exact rg [y]
    rw[u];exact i)
   refine q ⟨?_,?_⟩
   ·rw[lN ι s a b S.hd,e,iE]
   ·rw[lN ι s a b S.hh,sE r,iE]
  split at h
  ·rename_i k
   cases h;have le:t.length≤(x.T t).length:=by show t.length≤(tN t (x.r t)).length;rw[gF];omega
   have n:iU (x.T t).length (x.T t):=FN a _;have p:z.T=x.T t:=by
    simp only[List.mem_cons,List.not_mem_nil,or_false]at d;rcases d with rfl|rfl<;>rfl
   rw[p]at c⊢;obtain⟨b,g⟩:=Model.base ι s c;have i:fw.nn (vl ι s t (x.r t)):=aeX.1 (by rw[←lN ι s a b S.hr,k];decide)
   have l:Sh (x.T t).length (eM t.length):=(qi (t:=t) (x.r t)).sh;have o:vl ι s (x.T t) (eM t.length)=s t.length:=J8 ι s _;simp only[List.mem_cons,List.not_mem_nil,or_false]at d;rcases d with rfl|rfl
   ·exact PW ι s a b n c le (fun h=>n_ ι s _ h) f (d0 b i) l (by rw[o];exact g) j
   ·refine PW ι s a b n c le (fun h=>n_ ι s _ h) f (d0 b i) l.neg ?_ j
    rw[Xw ι s l,o,←g];generalize s t.length=y;exact rg [y]
  ·split at h
   ·rename_i k
    cases h;simp only[List.mem_cons,List.not_mem_nil,or_false]at d;subst d;have m:=Kh ι s a c S.hr k;exact PW ι s a c a c (alE _) (fun h=>rfl) f (d0 c (by rw[m];exact ady)) (.nil _) (by rw[PO,m,cO]) j
   ·cases h;cases d
end
end Tw
end Lw
namespace Lw
namespace Tw
open fL zY fw
set_option synthInstance.maxSize 100000
set_option synthInstance.maxHeartbeats 2000000
section
variable {K:Type} [fw K] (ι:r7 Rat K) (s:Nat→K) {t T:aS}
theorem Pu(a:iU t.length t){b:Pl}(h:HP t.length b)(x y:Rat):j_ t.length (JT t b x y):=by
 have d:(JT t b x y).1=o9 (jg (mulL t b.c (iF x)) (mulL t b.s (iF y))) b.x:=by simp only[JT,zz,tI,xE]
 have c:(JT t b x y).2=o9 (o9 (mulL t b.s (iF x)) (mulL t b.c (iF y))) b.y:=by simp only[JT,zz,tI,xE]
 have f:=Sh.mul a h.c (Sh.mJ t.length x);have e:=Sh.mul a h.c (Sh.mJ t.length y);have s1:=Sh.mul a h.s (Sh.mJ t.length x);have s2:=Sh.mul a h.s (Sh.mJ t.length y);exact⟨by rw[d];exact(f.sub s2).add h.x,by rw[c];exact(s1.add e).add h.y⟩
def Up(t T:aS):Prop:=T=t∨∃d,T=tN t d
theorem Up.len(h:Up t T):t.length≤T.length∧T.length≤t.length+1:=by
 rcases h with rfl|⟨d,rfl⟩
 ·omega
 ·rw[gF];omega
theorem Up.model(h:Up t T)(a:Model ι s T T.length):Model ι s t t.length:=by
 rcases h with rfl|⟨d,rfl⟩
 ·exact a
 ·exact(Model.base ι s a).1
theorem Up.vl(h:Up t T){a:List Rat}(b:Sh t.length a):vl ι s T a=vl ι s t a:=by
 rcases h with rfl|⟨d,rfl⟩
 ·rfl
 ·exact n_ ι s d b
theorem Up.at(h:Up t T){b:Pl}(a:HP t.length b)(m:V2):uK ι s b T m=uK ι s b t m:=by
 unfold uK;rw[h.vl ι s a.c,h.vl ι s a.s,h.vl ι s a.x,h.vl ι s a.y]
theorem Up.place(h:Up t T)(d:iU t.length t)(e:Model ι s T T.length){b:Pl}(a:HP t.length b)(m:V2):FZ ι s T (JT t b m.x m.y)=uK ι s b T m:=by
 have c:=Pu d a m.x m.y;unfold FZ;rw[h.vl ι s c.1,h.vl ι s c.2,h.at ι s a];exact afs ι s d (h.model ι s e) a m
theorem HP.mono{k m:Nat}{b:Pl}(h:HP k b)(a:k≤m):HP m b:=⟨h.c.mono a,h.s.mono a,h.x.mono a,h.y.mono a⟩
theorem Up.unit(h:Up t T){b:Pl}(a:HP t.length b)(u:yk ι s t b):yk ι s T b:=by
 unfold yk;rw[h.vl ι s a.c,h.vl ι s a.s];exact u
def JtV(l:Lk)(a:As)(j:Jt):Prop:=
 (j.kind=0→uK ι s (dC a j.a) a.t (nE (dP l j.a j.p))=uK ι s (dC a j.b) a.t (nE (dP l j.b j.on)))∧
 (j.kind=1→OnV (uK ι s (dC a j.b) a.t (nE (dP l j.b j.on))) (uK ι s (dC a j.b) a.t (nE (dP l j.b j.to))) (uK ι s (dC a j.a) a.t (nE (dP l j.a j.p))))
theorem Kw{l:Lk}{a d:As}{g:Gp}{k b o:Nat}(hw:((fR l g k).a=b∧(fR l g k).b=o)∨((fR l g k).a=o∧(fR l g k).b=b))(i:o≠b)(j:(fR l g k).kind=0)
  (h:uK ι s (dC d b) d.t (nE (kE l g k b))=FZ ι s d.t (jG l g a k b)) (f:∀m,FZ ι s d.t (b9 l a o m)=uK ι s (dC d o) d.t (nE (dP l o m))):JtV ι s l d (fR l g k):=by
 refine⟨fun _=>?_,fun c=>by rw[j]at c;cases c⟩
 unfold kE jG at h;rcases hw with⟨c,e⟩|⟨c,e⟩
 ·rw[apB c,apB c,e,f]at h
  rw[c,e];exact h
 ·rw[apA (by rw[c];exact i),apA (by rw[c];exact i),c,f]at h
  rw[c,e];exact h.symm
theorem ago{l:Lk}{c:As}{g:Gp}{k b o:Nat}(hw:((fR l g k).a=b∧(fR l g k).b=o)∨((fR l g k).a=o∧(fR l g k).b=b))(e:o≠b)(f:(fR l g k).kind=0)
  (h:uK ι s (dC c b) c.t (nE (kE l g k b))=uK ι s (dC c o) c.t (nE (kE l g k o))):JtV ι s l c (fR l g k):=by
 refine⟨fun _=>?_,fun a=>by rw[f]at a;cases a⟩
 unfold kE at h;rcases hw with⟨a,d⟩|⟨a,d⟩
 ·rw[apB a,apA (by rw[a];exact anm e)]at h
  rw[a,d];exact h
 ·rw[apA (by rw[a];exact e),apB a]at h
  rw[a,d];exact h.symm
theorem adK{l:Lk}{a b:As}(hu:Up a.t b.t){j:Jt}(c:HP a.t.length (dC a j.a))(sb:HP a.t.length (dC a j.b))(d:dC b j.a=dC a j.a)(eb:dC b j.b=dC a j.b)(h:JtV ι s l a j):JtV ι s l b j:=by
 unfold JtV;rw[d,eb,hu.at ι s c,hu.at ι s sb,hu.at ι s sb];exact h
end
theorem ES{a:As}{b:Nat}{p:Pl}{T:aS}{m:Int}(c:b<a.bs.length)(i:Nat):dC (a.CF b p T m) i=if i=b then p else dC a i:=by
 show(a.bs.set b p).getD i _=_;rw[alD,aot];by_cases h:b=i
 ·subst h;simp[c]
 ·rw[apA h,apA (fun e=>h e.symm)];rfl
theorem SO{a:As}{b c:Nat}{p q:Pl}{T:aS}{m:Int}(f:b<a.bs.length)(d:c<a.bs.length)(i:Nat):dC (a.xz b c p q T m) i=if i=c then q else if i=b then p else dC a i:=by
 show((a.bs.set b p).set c q).getD i _=_;rw[alD,aot];by_cases h:c=i
 ·subst h;simp[d]
 ·rw[apA h,apA (fun e=>h e.symm)]
  have:=ES (p:=p) (T:=T) (m:=m) f i;unfold dC As.CF at this;rw[alD]at this;exact this
theorem aed(x:Tn):x.cos*x.cos+x.sin*x.sin=1:=by
 have a:=x.AG;unfold Tn.cos Tn.sin;cases c:x.half with
 |true=>
  simp only[if_true];decide+kernel
 |false=>
  simp only[Bool.false_eq_true,if_false];have e:x.den=((1:Int):Rat)+x.t*x.t:=rfl;generalize x.den=d at a e;have b:((1:Int):Rat)=1:=rfl;rw[b]at e⊢;generalize x.t=y at e
  grind
end Tw
end Lw
namespace Lw
namespace Tw
open fL zY fw
set_option synthInstance.maxSize 100000
set_option synthInstance.maxHeartbeats 2000000
theorem vr.shB{n:Nat}{t:aS}{b:Pl}(h:vr n t b):HP t.length b:=⟨fQ.sh h _ (by simp),fQ.sh h _ (by simp),fQ.sh h _ (by simp),fQ.sh h _ (by simp)⟩
def JtH(l:Lk)(a:As)(j:Jt):Prop:=∀(K:Type)[fw K](ι:r7 Rat K)(s:Nat→K),Model ι s a.t a.t.length→JtV ι s l a j
def TnH(t:aS)(b:Pl)(x:Tn):Prop:=∀(K:Type)[fw K](ι:r7 Rat K)(s:Nat→K),Model ι s t t.length→vl ι s t b.c=ι.φ x.cos∧vl ι s t b.s=ι.φ x.sin
def ab6(l:Lk)(s:Fn):Prop:=∀d,d<l.ds.length→s.mM.getD (l.ds.getD d default).body false=true
def aib(l:Lk):Prop:=∀i j,i<l.ds.length→j<l.ds.length→(l.ds.getD i default).body=(l.ds.getD j default).body→i=j
theorem JH{l:Lk}(b:gO l):∀n,n≤l.ds.length→∀d,d<n→(AF l n).getD (l.ds.getD d default).body false=true
 |0,_,d,c=>by omega
 |n+1,e,d,c=>by
  rw[JG l (by omega),A9,G0]
  by_cases h:d<n
  ·have:=JH b n (by omega) d h
   rw[this];simp
  ·obtain rfl:d=n:=by omega
   rw[apB ⟨rfl,b.body _ (aN (by omega) _)⟩]
theorem FD{l:Lk}{gs:List Gp}:∀k,k≤gs.length→(Ck l gs k).mM=AF l l.ds.length
 |0,_=>by rw[Ck,am'];rfl
 |k+1,h=>by rw[uO (by omega)];exact FD k (by omega)
theorem acG{l:Lk}(b:gO l){gs:List Gp}{k:Nat}(h:k≤gs.length):ab6 l (Ck l gs k):=fun d c=>by
 rw[FD k h];exact JH b _ (alE _) d c
theorem x5{s:Fn}{i:Nat}(h:qz s i=true):s.mM.getD i false=false:=by
 unfold qz at h;rw[Bool.and_eq_true]at h;simpa using h.2
structure VSt(l:Lk)(xs:List Tn)(s:Fn)(a:As):Prop where
 sh:∀i,HP a.t.length (dC a i)
 un:∀i,s.known.getD i false=true→Hy a.t (dC a i)
 jo:∀j,j<l.js.length→s.used.getD j false=true→JtH l a (l.js.getD j default)
 dv:∀d,d<l.ds.length→s.known.getD (l.ds.getD d default).body false=true→TnH a.t (dC a (l.ds.getD d default).body) (xs.getD d ⟨0,false⟩)
 fr:dC a 0=⟨iF ((1:Int):Rat),[],[],[]⟩
structure W5(l:Lk)(xs:List Tn)(s:Fn)(a a':As)(g:Gp):Prop where
 up:Up a.t a'.t
 PH:∀i,i∉g.bs→dC a' i=dC a i
 sh:∀i∈g.bs,HP a'.t.length (dC a' i)
 un:∀i∈g.bs,Hy a'.t (dC a' i)
 jo:∀j∈g.js,JtH l a' (l.js.getD j default)
 dv:∀d,d<l.ds.length→(l.ds.getD d default).body∈g.bs→TnH a'.t (dC a' (l.ds.getD d default).body) (xs.getD d ⟨0,false⟩)
theorem W5.step{l:Lk}{xs:List Tn}{s:Fn}{a q:As}{g:Gp}(w:gO l)(u:pT l s)(hu:yj l s)(t:s.known.getD 0 false=true)(z:rL l s g)(st:VSt l xs s a)(n:W5 l xs s a q g):VSt l xs (s.add g) q:=by
 obtain⟨-,A⟩:=z.abA w;have c:∀i,s.known.getD i false=true→i∉g.bs:=fun i b v=>by rw[(A i v).2]at b;cases b
 have o:∀i,(s.add g).known.getD i false=true→i∈g.bs∨s.known.getD i false=true:=fun i b=>((mr u g i).1 b).elim .inr fun h=>.inl h.1
 refine⟨fun i=>?_,fun i b=>?_,fun j y f=>?_,fun d p x=>?_,?_⟩
 ·by_cases h:i∈g.bs
  ·exact n.sh i h
  ·rw[n.PH i h];exact(st.sh i).mono n.up.len.1
 ·rcases o i b with h|h
  ·exact n.un i h
  ·rw[n.PH i (c i h)]
   intro K _ ι σ e;exact n.up.unit ι σ (st.sh i) (st.un i h K ι σ (n.up.model ι σ e))
 ·rcases(BA g.js s.used j).1 f with h|⟨h,-⟩
  ·obtain⟨m,k⟩:=hu j h
   intro K _ ι σ e;exact adK ι σ n.up (st.sh _) (st.sh _) (n.PH _ (c _ m)) (n.PH _ (c _ k)) (st.jo j y h K ι σ (n.up.model ι σ e))
  ·exact n.jo j h
 ·rcases o _ x with h|h
  ·exact n.dv d p h
  ·rw[n.PH _ (c _ h)]
   intro K _ ι σ e;obtain⟨m,k⟩:=st.dv d p h K ι σ (n.up.model ι σ e);exact⟨by rw[n.up.vl ι σ (st.sh _).c];exact m,by rw[n.up.vl ι σ (st.sh _).s];exact k⟩
 ·rw[n.PH 0 (c 0 t)];exact st.fr
section
variable {l:Lk} {xs:List Tn} {s:Fn} {a:As} {r n N D δ:Nat}
theorem YR(c:iU a.t.length a.t)(st:VSt l xs s a){g:Gp}{k b:Nat}:j_ a.t.length (jG l g a k b):=by
 unfold jG;split<;>exact Pu c (st.sh _) _ _
theorem ad9(A:me a.t)(W:gO l)(lb:a.bs.length=l.bs.length)(BR:aib l)(st:VSt l xs s a){d body qO:Nat}(I:d<l.ds.length)(J:(l.ds.getD d default).body=body)(R:s.known.getD body false=false)(U:W7 l s 0 body qO){ss:List wK}(h:ot l a ⟨0,[body],[qO],d⟩ (qJ xs ⟨0,[body],[qO],d⟩)=some ss):
  ∀z∈ss,W5 l xs s a (a.put ⟨0,[body],[qO],d⟩ z) ⟨0,[body],[qO],d⟩:=by
 have e:Lj l a ⟨0,[body],[qO],d⟩ body (xs.getD d ⟨0,false⟩)=some ss:=h;intro z F;simp only[Lj,Option.some.injEq]at e;subst e;rw[alI]at F;subst F;generalize S:xs.getD d ⟨0,false⟩=x;generalize H:(⟨0,[body],[qO],d⟩:Gp)=g;have v:g.bs=[body]:=by rw[←H]
 have L:g.js=[qO]:=by rw[←H]
 have Vv:body<a.bs.length:=by rw[lb,←J];exact W.body _ (aN I _)
 have Y:a.put g ⟨a.t,[G1 l a g body x.cos x.sin],1⟩=a.CF body (G1 l a g body x.cos x.sin) a.t 1:=by unfold As.put;rw[v]
 rw[Y];have pt:j_ a.t.length (jG l g a 0 body):=YR A.sh st;have E:V2.sq ⟨((1:Int):Rat),0⟩=1:=by decide+kernel
 have Q:V2.sq ⟨((1:Int):Rat),0⟩≠0:=by rw[E];decide
 have q:=ES (p:=G1 l a g body x.cos x.sin) (T:=a.t) (m:=1) Vv;have Z:HP a.t.length (G1 l a g body x.cos x.sin):=LD A.sh (j_.of _ _ _) pt;obtain⟨Vn,t,o,V,O⟩:=U;have C:o≠body:=fun e=>by rw[e,R]at O;cases O
 have bv:∀(K:Type)[fw K](ι:r7 Rat K)(σ:Nat→K),Model ι σ a.t a.t.length→Ei ι σ a.t (G1 l a g body x.cos x.sin) ⟨((1:Int):Rat),0⟩ (ι.φ x.cos) (ι.φ x.sin) (nE (kE l g 0 body)) (vl ι σ a.t (jG l g a 0 body).1) (vl ι σ a.t (jG l g a 0 body).2):=fun K _ ι σ c=>by
  have:=LB ι σ A.sh c (u:=⟨((1:Int):Rat),0⟩) (p:=nE (kE l g 0 body)) (w:=xE x.cos x.sin) (j_.of _ _ _) pt Q;simp only[xE,jP]at this;exact this
 have i1:∀(K:Type)[fw K](ι:r7 Rat K),ι.φ ((1:Int):Rat)=1:=fun K _ ι=>ι.one
 have cs:∀(K:Type)[fw K](ι:r7 Rat K)(σ:Nat→K),Model ι σ a.t a.t.length→vl ι σ a.t (G1 l a g body x.cos x.sin).c=ι.φ x.cos∧vl ι σ a.t (G1 l a g body x.cos x.sin).s=ι.φ x.sin:=fun K _ ι σ c=>by
  have h:=bv K ι σ c;have k:=h.hc;have f:=h.hs;rw[E,ι.one,oS]at k f;simp only at k f;rw[i1,ι.zero]at k f;refine⟨k.trans ?_,f.trans ?_⟩
  ·generalize ι.φ x.cos=y
   generalize ι.φ x.sin=z;exact rg [y,z]
  ·generalize ι.φ x.cos=y
   generalize ι.φ x.sin=z;exact rg [y,z]
 refine⟨.inl rfl,fun i b=>?_,fun i b=>?_,fun i b=>?_,fun j G=>?_,fun M P B=>?_⟩
 ·rw[v,alI]at b
  rw[q,apA b]
 ·rw[v,alI]at b
  rw[q,apB b];exact Z
 ·rw[v,alI]at b
  rw[q,apB b];intro K _ ι σ c;obtain⟨k,f⟩:=cs K ι σ c;show vl ι σ a.t _*vl ι σ a.t _+vl ι σ a.t _*vl ι σ a.t _=1;rw[k,f,←ι.mul,←ι.mul,←ι.add,aed,ι.one]
 ·rw[L,alI]at G
  subst G;intro K _ ι σ c;have X:l.js.getD j default=fR l g 0:=by unfold fR;rw[L];rfl
  have hw:=m8 V C;rw[X]at hw t⊢;refine Kw (a:=a) ι σ hw C t ?_ fun m=>?_
  ·rw[q,apB rfl]
   exact(bv K ι σ c).qO ι σ
  ·rw[q,apA C]
   exact Up.place ι σ (.inl rfl) A.sh c (st.sh o) (nE (dP l o m))
 ·rw[v,alI]at B
  have:M=d:=BR M d P I (B.trans J.symm);subst this;rw[q,apB B,S];exact cs
end
end Tw
end Lw
namespace Lw
namespace Tw
open fL zY fw
set_option synthInstance.maxSize 100000
set_option synthInstance.maxHeartbeats 2000000
section
variable {l:Lk} {xs:List Tn} {s:Fn} {a:As} {r n N D δ:Nat}
theorem Y1(R:me a.t)(lb:a.bs.length=l.bs.length)(Q:ab6 l s)(st:VSt l xs s a){i j y w u:Nat}(oZ:i<j)(hj:j<l.bs.length)(fi:qz s i=true)(fj:qz s j=true)(ha:W7 l s 0 i y)(hb:W7 l s 0 j w)(Y:(l.js.getD u default).kind=0)(oc:sK (l.js.getD u default) i=some j){x:Tn}{ss:List wK}(h:ot l a ⟨1,[i,j],[y,w,u],0⟩ x=some ss):
  ∀z∈ss,PB N D a.t z→(∃b c,z.ps=[b,c])∧W5 l xs s a (a.put ⟨1,[i,j],[y,w,u],0⟩ z) ⟨1,[i,j],[y,w,u],0⟩:=by
 intro z hz V;have e:FO a.t (NW l ⟨1,[i,j],[y,w,u],0⟩ a 0 i) (NW l ⟨1,[i,j],[y,w,u],0⟩ a 1 j)=some ss:=h;clear h;generalize Z:(⟨1,[i,j],[y,w,u],0⟩:Gp)=g at e⊢;have I:g.bs=[i,j]:=by rw[←Z]
 have L:g.js=[y,w,u]:=by rw[←Z]
 have pt:∀k b,j_ a.t.length (jG l g a k b):=fun k b=>YR R.sh st
 have X:∀(K:Type)[fw K](ι:r7 Rat K)(σ:Nat→K),Model ι σ z.T z.T.length→afA ι σ z.T (NW l g a 0 i) (NW l g a 1 j) z.ps:=fun K _ ι σ t=>aiB ι σ R.sh (pt 0 i) (pt 1 j) e z hz t
 obtain⟨K0,_,ι0,σ0,S⟩:=V.ok.model z.T.length (alE _);obtain⟨b,c,U,⟨sb,sc⟩,-⟩:=X K0 ι0 σ0 S;refine⟨⟨b,c,U⟩,?_⟩;have ea:a.put g z=a.xz i j b c z.T z.mode:=by unfold As.put;rw[I,U]
 rw[ea];have ki:=f_ fi;have kj:=f_ fj;have v:=SO (p:=b) (q:=c) (T:=z.T) (m:=z.mode) (a:=a) (b:=i) (c:=j) (by rw[lb];omega) (by rw[lb];exact hj)
 have B:i≠j:=by omega
 have O:dC (a.xz i j b c z.T z.mode) i=b:=by rw[v,apA B,apB rfl]
 have M:dC (a.xz i j b c z.T z.mode) j=c:=by rw[v,apB rfl]
 have A:∀(K:Type)[fw K](ι:r7 Rat K)(σ:Nat→K),Model ι σ z.T z.T.length→(yk ι σ z.T b∧yk ι σ z.T c)∧uK ι σ b z.T (nE (kE l g 0 i))=FZ ι σ z.T (jG l g a 0 i)∧uK ι σ c z.T (nE (kE l g 1 j))=FZ ι σ z.T (jG l g a 1 j)∧uK ι σ b z.T (nE (kE l g 2 i))=uK ι σ c z.T (nE (kE l g 2 j)):=fun K _ ι σ t=>by
  obtain⟨b',c',W,-,k2,k3,k4,k5⟩:=X K ι σ t;rw[U]at W;simp only[List.cons.injEq,and_true]at W;obtain⟨rfl,rfl⟩:=W;exact⟨k2,k3,k4,k5⟩
 have F:∀{o:Nat},s.known.getD o false=true→o≠i∧o≠j:=fun f=>⟨fun e=>(by rw[e,ki]at f;cases f),fun e=>(by rw[e,kj]at f;cases f)⟩
 have PH:∀o,s.known.getD o false=true→dC (a.xz i j b c z.T z.mode) o=dC a o:=fun o f=>by
  rw[v,apA (F f).2,apA (F f).1]
 have G:∀(K:Type)[fw K](ι:r7 Rat K)(σ:Nat→K),Model ι σ z.T z.T.length→∀o,s.known.getD o false=true→∀m,FZ ι σ z.T (b9 l a o m)=uK ι σ (dC (a.xz i j b c z.T z.mode) o) z.T (nE (dP l o m)):=fun K _ ι σ t o f m=>by
  rw[PH o f];exact Up.place ι σ V.tow R.sh t (st.sh o) (nE (dP l o m))
 refine⟨V.tow,fun k f=>?_,fun k f=>?_,fun k f=>?_,fun k f=>?_,fun d hd C=>?_⟩
 ·rw[I]at f
  simp only[List.mem_cons,List.not_mem_nil,or_false,not_or]at f;rw[v,apA f.2,apA f.1]
 ·rw[I]at f
  simp only[List.mem_cons,List.not_mem_nil,or_false]at f;rcases f with rfl|rfl
  ·rw[O];exact sb
  ·rw[M];exact sc
 ·rw[I]at f
  simp only[List.mem_cons,List.not_mem_nil,or_false]at f;rcases f with rfl|rfl
  ·rw[O];exact fun K _ ι σ t=>(A K ι σ t).1.1
  ·rw[M];exact fun K _ ι σ t=>(A K ι σ t).1.2
 ·rw[L]at f
  simp only[List.mem_cons,List.not_mem_nil,or_false]at f;intro K _ ι σ t;obtain⟨-,k3,k4,k5⟩:=A K ι σ t;rcases f with rfl|rfl|rfl
  ·obtain⟨h1,H,o,P,E⟩:=ha
   have J:l.js.getD k default=fR l g 0:=by unfold fR;rw[L];rfl
   have hw:=m8 P (F E).1;rw[J]at hw H⊢;exact Kw (a:=a) ι σ hw (F E).1 H (by rw[O];exact k3) (G K ι σ t o E)
  ·obtain⟨h1,H,o,P,E⟩:=hb
   have J:l.js.getD k default=fR l g 1:=by unfold fR;rw[L];rfl
   have hw:=m8 P (F E).2;rw[J]at hw H⊢;exact Kw (a:=a) ι σ hw (F E).2 H (by rw[M];exact k4) (G K ι σ t o E)
  ·have J:l.js.getD k default=fR l g 2:=by unfold fR;rw[L];rfl
   have hw:=m8 oc (anm B);rw[J]at hw Y⊢;exact ago ι σ hw (anm B) Y (by rw[O,M];exact k5)
 ·exfalso
  rw[I]at C;simp only[List.mem_cons,List.not_mem_nil,or_false]at C;have:=Q d hd;rcases C with C|C
  ·rw[C,x5 fi]at this;cases this
  ·rw[C,x5 fj]at this;cases this
theorem P5(hT:b7 δ a.t)(hl:gO l)(hB:LkB r l)(pl:∀i,vr n a.t (dC a i))(lb:a.bs.length=l.bs.length)(R:ab6 l s)(st:VSt l xs s a){i G c:Nat}(hi:i<l.bs.length)(fi:qz s i=true)(ha:W7 l s 0 i G)(hb:W7 l s 1 i c){x:Tn}{ss:List wK}(h:ot l a ⟨fW l i c,[i],[G,c],0⟩ x=some ss):
    ∀z∈ss,PB N D a.t z→(∃b,z.ps=[b])∧W5 l xs s a (a.put ⟨fW l i c,[i],[G,c],0⟩ z) ⟨fW l i c,[i],[G,c],0⟩:=by
  intro z hz NH;have j:=hT.b.ok;have ki:=f_ fi;have F:∀{o:Nat},s.known.getD o false=true→o≠i:=fun f e=>by rw[e,ki]at f;cases f
  obtain⟨Xn,y,p,hp,B⟩:=hb;have M:=m8 hp (F B);obtain⟨q1,q2,q3,q4,Q⟩:=hl.at Xn;have Q:=Q y;have jm:=aN Xn (default:Jt);have u:=hl.ne _ jm y;generalize O:(⟨fW l i c,[i],[G,c],0⟩:Gp)=g at h⊢;have J:g.bs=[i]:=by rw[←O]
  have gj:g.js=[G,c]:=by rw[←O]
  have pt:∀k b,j_ a.t.length (jG l g a k b):=fun k b=>YR j.sh st
  have I:∃C:V2,True∧∀(K:Type)[fw K](ι:r7 Rat K)(σ:Nat→K),Model ι σ z.T z.T.length→∃b,z.ps=[b]∧HP z.T.length b∧yk ι σ z.T b∧uK ι σ b z.T (nE (kE l g 0 i))=FZ ι σ z.T (jG l g a 0 i)∧
      (((l.js.getD c default).a=i∧OnV (FZ ι σ z.T (b9 l a (l.js.getD c default).b (l.js.getD c default).on)) (FZ ι σ z.T (b9 l a (l.js.getD c default).b (l.js.getD c default).to)) (uK ι σ b z.T (nE (dP l i (l.js.getD c default).p))))∨
       ((l.js.getD c default).a≠i∧OnV (uK ι σ b z.T (nE (dP l i (l.js.getD c default).on))) (uK ι σ b z.T (nE (dP l i (l.js.getD c default).to))) (FZ ι σ z.T (b9 l a (l.js.getD c default).a (l.js.getD c default).p)))):=by
    refine⟨⟨0,0⟩,trivial,fun K _ ι σ q=>?_⟩
    by_cases f:(l.js.getD c default).a=i
    · have X:fW l i c=2:=by unfold fW;rw[apB f]
      have v:(l.js.getD c default).b=p:=(M.resolve_right fun h=>(F B) (h.1.symm.trans f)).2
      have e:Xf a.t (Vu l a (i:=i) g (l.js.getD c default)) (b9 l a (l.js.getD c default).b (l.js.getD c default).on) (b9 l a (l.js.getD c default).b (l.js.getD c default).to)=some ss:=by
        rw[←O]at h⊢;rw[X]at h⊢;exact h
      have un:Hy a.t (dC a (l.js.getD c default).b):=by rw[v];exact st.un _ B
      have ll:=Nu hT hB pl q4 Q un u;obtain⟨b,w,H,W,V,U⟩:=aks ι σ j.sh (A:=Vu l a (i:=i) g (l.js.getD c default)) (pt 0 i) (Pu j.sh (st.sh _) _ _) (Pu j.sh (st.sh _) _ _) (fun e0=>apC (ll.symm.trans e0) (by decide)) e z hz q
      exact⟨b,w,H,W,V,.inl ⟨f,U⟩⟩
    · have X:fW l i c=3:=by unfold fW;rw[apA f]
      have hw:=M.resolve_left fun h=>f h.1
      have e:Xd a.t (Uy l g a i (l.js.getD c default))=some ss:=by
        rw[←O]at h⊢;rw[X]at h⊢;exact h
      rw[hw.2]at u;have nz:(Uy l g a i (l.js.getD c default)).v.sq≠0:=V2.XR u;obtain⟨b,w,H,W,V,U⟩:=akq ι σ j.sh (x:=Uy l g a i (l.js.getD c default)) ⟨pt 0 i,Pu j.sh (st.sh _) _ _⟩ nz e z hz q;exact⟨b,w,H,W,V,.inr ⟨f,U (nE (dP l i (l.js.getD c default).to)) rfl⟩⟩
  obtain⟨-,-,I⟩:=I;obtain⟨K0,_,ι0,σ0,S⟩:=NH.ok.model z.T.length (alE _);obtain⟨b,P,sb,-⟩:=I K0 ι0 σ0 S;refine⟨⟨b,P⟩,?_⟩;have ea:a.put g z=a.CF i b z.T z.mode:=by unfold As.put;rw[J,P]
  rw[ea];have Y:=ES (p:=b) (T:=z.T) (m:=z.mode) (a:=a) (b:=i) (by rw[lb];exact hi)
  have L:dC (a.CF i b z.T z.mode) i=b:=by rw[Y,apB rfl]
  have PH:∀o,s.known.getD o false=true→dC (a.CF i b z.T z.mode) o=dC a o:=fun o f=>by rw[Y,apA (F f)]
  have t:∀(K:Type)[fw K](ι:r7 Rat K)(σ:Nat→K),Model ι σ z.T z.T.length→∀o,s.known.getD o false=true→∀m,FZ ι σ z.T (b9 l a o m)=uK ι σ (dC (a.CF i b z.T z.mode) o) z.T (nE (dP l o m)):=fun K _ ι σ q o f m=>by
    rw[PH o f];exact Up.place ι σ NH.tow j.sh q (st.sh o) (nE (dP l o m))
  refine⟨NH.tow,fun k f=>?_,fun k f=>?_,fun k f=>?_,fun k f=>?_,fun d hd hm=>?_⟩
  · rw[J,alI]at f
    rw[Y,apA f]
  · rw[J,alI]at f
    subst f;rw[L];exact sb
  · rw[J,alI]at f
    subst f;rw[L];intro K _ ι σ q;obtain⟨b',E,-,k2,-⟩:=I K ι σ q;rw[P]at E;simp only[List.cons.injEq,and_true]at E;subst E;exact k2
  · rw[gj]at f
    simp only[List.mem_cons,List.not_mem_nil,or_false]at f;intro K _ ι σ q;obtain⟨b',E,-,-,k3,k4⟩:=I K ι σ q;rw[P]at E;simp only[List.cons.injEq,and_true]at E;subst E;rcases f with rfl|rfl
    · obtain⟨w,H,o,ho,Z⟩:=ha
      have ej:l.js.getD k default=fR l g 0:=by unfold fR;rw[gj];rfl
      have hw:=m8 ho (F Z);rw[ej]at hw H⊢;exact Kw (a:=a) ι σ hw (F Z) H (by rw[L];exact k3) (t K ι σ q o Z)
    · refine⟨fun w=>(by rw[y]at w;cases w),fun _=>?_⟩
      rcases k4 with⟨f,k4⟩|⟨f,k4⟩
      · have v:(l.js.getD k default).b=p:=(M.resolve_right fun h=>(F B) (h.1.symm.trans f)).2
        rw[v]at k4⊢;rw[t K ι σ q p B,t K ι σ q p B]at k4;rw[f,L];exact k4
      · have hw:=M.resolve_left fun h=>f h.1
        rw[hw.1]at k4⊢;rw[t K ι σ q p B]at k4;rw[hw.2,L];exact k4
  · exfalso
    rw[J,alI]at hm;have:=R d hd;rw[hm,x5 fi]at this;cases this
end
end Tw
end Lw
namespace Lw
open Go Go.RowKit Go.Proofs
namespace Tw
open fL
structure Chn(gs:List Gp)(nn ee up:Nat→Nat)(rr:Bool):Prop where
 c0:1≤nn 0∧1≤ee 0
 top:∀k,k≤gs.length→nn (lz gs k)+783*AT gs k≤up (lz gs k)
 nd:∀k,k≤gs.length→lz gs k≤4
 st:∀k,k<gs.length→(gs.getD k default).kind≠0→lz gs k≤3∧up (lz gs k)≤nn (lz gs k+1)∧ee (lz gs k)≤ee (lz gs k+1)∧∀j,j≤lz gs k→gV 64 (up (lz gs k)) (ee (lz gs k)) j (nn (lz gs k+1)) (ee (lz gs k+1)) rr
 r3:∀k,k<gs.length→(gs.getD k default).kind=1→rr=true
 dr:∀k,k<gs.length→(gs.getD k default).kind=0→nn (lz gs k)+783*AT gs k+783≤MB
 tw:∀k,k≤gs.length→∀j,j≤lz gs k→Hz (ee (lz gs k)) j∧qV (up (lz gs k)) (ee (lz gs k)) j
theorem abp{l:Lk}{gs:List Gp}(g:gO l)(P:Path l gs)(u:l.js.length≤8)(x:l.ds.length≤2):∃nn o up f,Chn gs nn o up f:=by
 obtain⟨r,q,p⟩:=P.counts g;have c:∀{k},k≤gs.length→lz gs k≤lz gs gs.length:=fun h=>Zv h
 have md:∀{k},k≤gs.length→AT gs k≤AT gs gs.length:=fun h=>aa4 h
 have mp:∀{k},k≤gs.length→prN gs k≤prN gs gs.length:=fun h=>YI h
 by_cases w:lz gs gs.length≤3
 ·refine⟨nA,eA,fun m=>nA m+1566,true,?_⟩
  refine⟨⟨by decide,by decide⟩,fun k a=>?_,fun k a=>?_,fun k a d=>?_,fun _ _ _=>rfl,fun k a e=>?_,fun k a j b=>?_⟩
  ·have:=md a
   show _≤nA (lz gs k)+1566;omega
  ·have:=c a;omega
  ·have h:=(AQ a).1
   rw[apA d]at h;have:=c (k:=k+1) (by omega)
   have hm:lz gs k<3:=by omega
   exact⟨by omega,(aeR _ hm).1,(aeR _ hm).2,fun j b=>ak8 _ j hm b⟩
  ·have h:=(AQ a).2.1
   rw[apB e]at h;have:=md (k:=k+1) (by omega)
   have i:=ale (lz gs k) (by have:=c (k:=k) (by omega);omega) (AT gs k) (by omega)
   refine alJ (Nat.le_of_eq ?_) i;rw[ao0,anl]
  ·have hm:lz gs k≤3:=by have:=c a;omega
   exact⟨akg _ hm j b,alc _ hm j b⟩
 ·have t:AT gs gs.length=0:=by omega
  have s:prN gs gs.length=0:=by omega
  have v:lz gs gs.length≤4:=by omega
  refine⟨nS,eS,nS,false,?_⟩;refine⟨⟨by decide,by decide⟩,fun k a=>?_,fun k a=>?_,fun k a d=>?_,fun k a n=>?_,fun k a e=>?_,fun k a j b=>?_⟩
  ·have:=md a;omega
  ·have:=c a;omega
  ·have h:=(AQ a).1
   rw[apA d]at h;have:=c (k:=k+1) (by omega)
   have hm:lz gs k<4:=by omega
   exact⟨by omega,(aeQ _ hm).1,(aeQ _ hm).2,fun j b=>ak7 _ j hm b⟩
  ·have h:=(AQ a).2.2
   rw[apB n]at h;have:=mp (k:=k+1) (by omega)
   omega
  ·have h:=(AQ a).2.1
   rw[apB e]at h;have:=md (k:=k+1) (by omega)
   omega
  ·have hm:lz gs k≤4:=by have:=c a;omega
   exact⟨akf _ hm j b,alb _ hm j b⟩
end Tw
end Lw
