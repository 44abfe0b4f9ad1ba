/- Part 10. -/
import Derived.Test.YtmcpfihkambgnaaGreatLw09
open Go.Proofs.Tryz renaming prog→zZq
open Go.Proofs.Tryz
open Int renaming ofNat→zNq
namespace Lw
namespace fL
open zY fw
open Tw (aQ n7 tb)
section
variable {K:Type} [fw K] (ι:r7 Rat K) (s:Nat→K) {t:aS}
def vl(t:aS)(a:List Rat):K:=lv ι s t.length a
theorem PO:vl ι s t []=0:=Al ι s _
theorem jP(q:Rat):vl ι s t (iF q)=ι.φ q:=by
 unfold vl iF;rw[mQ ι s (Sh.single 0 q),CW]
theorem r_{a b:List Rat}(d:Sh t.length a)(c:Sh t.length b):vl ι s t (o9 a b)=vl ι s t a+vl ι s t b:=by
 unfold vl o9;rw[mQ ι s (d.plus c),oU]
theorem gP{a b:List Rat}(d:Sh t.length a)(c:Sh t.length b):vl ι s t (jg a b)=vl ι s t a-vl ι s t b:=by
 unfold vl jg;rw[mQ ι s (d.plus c.minus),oU,qv,sub_def']
theorem Xw{a:List Rat}(b:Sh t.length a):vl ι s t (xI a)= -vl ι s t a:=by
 unfold vl xI;rw[mQ ι s b.minus,qv]
theorem dW(e:iU t.length t)(f:Model ι s t t.length){a b:List Rat}(d:Sh t.length a)(c:Sh t.length b):vl ι s t (mulL t a b)=vl ι s t a*vl ι s t b:=by
 have h:=gD ι s t.length a b e f d c;unfold vl mulL;rw[mQ ι s h.1,h.2.1]
theorem lN(c:iU t.length t)(d:Model ι s t t.length){a:List Rat}(b:Sh t.length a):a7 t a=sg (vl ι s t a):=mO ι s _ _ c d b
theorem vA(d:iU t.length t)(f:Model ι s t t.length){a b:List Rat}(i:Sh t.length a)(g:Sh t.length b)(j:vl ι s t b≠0):vl ι s t (wu t a b)*vl ι s t b=vl ι s t a:=by
 have c:=BL ι s t.length b d f g j;have h:=gD ι s t.length a (iS t t.length b) d f i c.1;have e:vl ι s t (wu t a b)=vl ι s t a*lv ι s t.length (iS t t.length b):=by
  unfold vl wu;rw[mQ ι s h.1,h.2.1]
 rw[e,nD];have k:lv ι s t.length (iS t t.length b)*vl ι s t b=1:=c.2;rw[k,oS]
theorem acg{x a:List Rat}(b:Sh t.length a):vl ι s (t++[x]) a=vl ι s t a:=by
 unfold vl;rw[amj,List.length_singleton];exact mD ι s b.len (by omega)
end
theorem Sh.add{k:Nat}{a b:List Rat}(d:Sh k a)(c:Sh k b):Sh k (o9 a b):=g9 (d.plus c)
theorem Sh.sub{k:Nat}{a b:List Rat}(d:Sh k a)(c:Sh k b):Sh k (jg a b):=g9 (d.plus c.minus)
theorem Sh.neg{k:Nat}{a:List Rat}(b:Sh k a):Sh k (xI a):=g9 b.minus
theorem Sh.mul{t:aS}(e:iU t.length t){a b:List Rat}(d:Sh t.length a)(c:Sh t.length b):Sh t.length (mulL t a b):=g9 (fM _ _ _ e d c).1
theorem Sh.div{t:aS}(c:iU t.length t){a b:List Rat}(e:Sh t.length a)(d:Sh t.length b):Sh t.length (wu t a b):=g9 (fM _ _ _ c e (E0 t _ _ c d)).1
theorem Sh.mJ(k:Nat)(q:Rat):Sh k (iF q):=(g9 (Sh.single k q))
theorem EK{t:aS}:∀(k:Nat)(a b:List Rat),Sh k a→Sh 0 b→∀i,(bR t k a b).getD i 0=a.getD i 0*b.getD 0 0
 |0,a,b,d,c,i=>by
  unfold bR;split
  ·rename_i h
   rw[amo]at h;rcases h with h|h
   ·rw[pB.1 h i,ao_];simp
   ·rw[pB.1 h 0,apx];simp
  ·cases i with
   |zero=>rfl
   |succ i=>
    rw[o4 (l:=a) (i:=i+1) (by have:=d.len;simp at this;omega),ao_];rfl
 |k+1,a,b,d,c,i=>by
  rw[bR];split
  ·rename_i h
   rw[amo]at h;rcases h with h|h
   ·rw[pB.1 h i,ao_];simp
   ·rw[pB.1 h 0,apx];simp
  ·rename_i n
   have v:b.length≤1:=by have:=c.len;simpa using this
   rcases d with rfl|⟨j,o,e⟩
   ·exact apC (by rw[jd];rfl) n
   ·have r:=dg j
    have q:¬a.length<b.length:=by omega
    simp only[if_neg q];cases j with
    |zero=>
     have p:a.length=1:=by simpa using e
     rw[apB p];cases i with
     |zero=>rfl
     |succ i=>rw[o4 (l:=a) (i:=i+1) (by omega),ao_];rfl
    |succ j=>
     have m:=dg j;have u:2^(j+1)=2^j+2^j:=by rw[al5];omega
     rw[apA (by omega),e,fI,apB (by omega)]
     have g:Sh k (a.take (2^j)):=.inr ⟨j,by omega,by rw[alO];omega⟩
     have f:Sh k (a.drop (2^j)):=.inr ⟨j,by omega,by rw[alP];omega⟩
     unfold fH;rw[GP,fe,ke,ke,EK k _ _ g c,EK k _ _ f c];have t1:i<2^j→(a.take (2^j)).getD i 0=a.getD i 0:=fun h=>by simp only[List.getD_eq_getElem?_getD,List.getElem?_take,if_pos h]
     have t2:¬i<2^j→(a.drop (2^j)).getD (i-2^j) 0=a.getD i 0:=fun h=>by simp only[List.getD_eq_getElem?_getD,List.getElem?_drop];rw[show 2^j+(i-2^j)=i by omega]
     split
     ·rename_i h;rw[t1 h]
     ·rename_i h
      rw[t2 h];split
      ·rfl
      ·rw[o4 (l:=a) (by omega),ao_]
theorem Ub{t:aS}(k:Nat){a b:List Rat}(d:Sh k a)(c:Sh 0 b)(i:Nat):(bR t k b a).getD i 0=a.getD i 0*b.getD 0 0:=by
 rw[←EK (t:=t) k a b d c i];have o:b.length≤1:=by have:=c.len;simpa using this
 cases k with
 |zero=>
  unfold bR;rw[Bool.or_comm,Rat.mul_comm]
 |succ k=>
  rw[bR,bR,Bool.or_comm];split
  ·rfl
  ·rename_i f
   have g:1≤a.length:=by
    rcases d with rfl|⟨j,_,n⟩
    ·exact apC (by rw[jd];rfl) f
    ·have:=dg j;omega
   have h:¬a.length<b.length:=by omega
   simp only[if_neg h];by_cases e:b.length<a.length
   ·simp only[if_pos e]
   ·have m:a.length=1:=by omega
    have l:b.length=1:=by omega
    simp only[if_neg e,if_pos m,if_pos l,Rat.mul_comm]
def iA(r:Nat)(q:Rat):Prop:=q.num.natAbs≤2^r∧q.den≤2^r
theorem iA.mono{r m:Nat}{q:Rat}(h:iA r q)(a:r≤m):iA m q:=⟨alJ h.1 (iJ a),alJ h.2 (iJ a)⟩
theorem Ms.rat{t:aS}{k D B:Nat}{a b:List Rat}{q:Rat}(h:Ms D B a)(e:Sh k a)(d:Sh 0 b)(c:b.getD 0 0=q):Ms (D*q.den) (B*q.num.natAbs) (bR t k a b)∧Ms (D*q.den) (B*q.num.natAbs) (bR t k b a):=by
 have key:∀l:List Rat,(∀i,l.getD i 0=a.getD i 0*q)→Ms (D*q.den) (B*q.num.natAbs) l:=fun l f i=>by
  obtain⟨z,j,g⟩:=h i;refine⟨z*q.num,?_,?_⟩
  ·rw[f]
   have:=Bx q
   push_cast
   rw[←j,←this];grind
  ·rw[anz];exact alV _ g
 exact⟨key _ fun i=>by rw[EK k a b e d,c],key _ fun i=>by rw[Ub k e d,c]⟩
structure fQ(n:Nat)(t:aS)(l:List (List Rat)):Prop where
 sh:∀a∈l,Sh t.length a
 ms:∃D B,0<D∧D≤2^n∧B≤2^n∧∀a∈l,Ms D B a
theorem fQ.num{n:Nat}{t:aS}{l:List (List Rat)}(h:fQ n t l){a:List Rat}(b:a∈l):aQ n t a:=by
 obtain⟨D,B,f,e,d,c⟩:=h.ms;exact⟨h.sh a b,D,B,f,e,d,c a b⟩
theorem fQ.sub{n:Nat}{t:aS}{l m:List (List Rat)}(h:fQ n t l)(c:∀a∈m,a∈l):fQ n t m:=by
 obtain⟨D,B,g,f,e,d⟩:=h.ms;exact⟨fun a b=>h.sh a (c a b),D,B,g,f,e,fun a b=>d a (c a b)⟩
theorem fQ.mono{m n:Nat}{t:aS}{l:List (List Rat)}(h:fQ m t l)(a:m≤n):fQ n t l:=by
 obtain⟨D,B,e,d,c,b⟩:=h.ms;exact⟨h.sh,D,B,e,alJ d (iJ a),alJ c (iJ a),b⟩
theorem fQ.one{n:Nat}{t:aS}{a:List Rat}(h:aQ n t a):fQ n t [a]:=by
 obtain⟨D,B,g,f,e,d⟩:=h.bt;exact⟨fun b c=>by rw[alI]at c;rw[c];exact h.sh,D,B,g,f,e,fun b c=>by rw[alI]at c;rw[c];exact d⟩
theorem mul_pow{a b m n:Nat}(d:a≤2^m)(c:b≤2^n):a*b≤2^(m+n):=by rw[amr];exact al' d c
theorem fQ.both{m n:Nat}{t:aS}{l c:List (List Rat)}(h:fQ m t l)(e:fQ n t c):fQ (m+n) t (l++c):=by
 obtain⟨D,B,j,d,i,g⟩:=h.ms;obtain⟨E,C,p,f,o,k⟩:=e.ms;refine⟨fun a b=>(amy.1 b).elim (h.sh a) (e.sh a),D*E,max (B*E) (C*D),amK j p,mul_pow d f,Nat.max_le.2 ⟨mul_pow i f,by rw[amR];exact mul_pow o d⟩,fun a b=>?_⟩
 rcases amy.1 b with b|b
 ·exact((g a b).scale E).mono (aol _ _)
 ·have:=(k a b).scale D
  rw[alS E]at this;exact this.mono (aoe _ _)
theorem fQ.afV{n:Nat}{t:aS}{l:List (List Rat)}(h:fQ n t l){m:List (List Rat)}(j:∀a∈m,∃b c,b∈l∧c∈l∧(a=o9 b c∨a=jg b c)):fQ (n+1) t m:=by
 obtain⟨D,B,k,p,o,g⟩:=h.ms;have e:2^(n+1)=2*2^n:=by rw[al5];omega
 refine⟨fun a i=>?_,D,B+B,k,by omega,by omega,fun a i=>?_⟩
 ·obtain⟨b,c,f,d,rfl|rfl⟩:=j a i
  ·exact(h.sh b f).add (h.sh c d)
  ·exact(h.sh b f).sub (h.sh c d)
 ·obtain⟨b,c,f,d,rfl|rfl⟩:=j a i
  ·exact((g b f).plus (g c d)).short ((h.sh b f).plus (h.sh c d))
  ·exact((g b f).plus (g c d).minus).short ((h.sh b f).plus (h.sh c d).minus)
theorem fQ.F0{m n δ:Nat}{t:aS}{l j:List (List Rat)}(f:n7 δ t)(h:fQ m t l)(g:fQ n t j){p:List (List Rat)}(k:∀a∈p,∃b c,b∈l∧c∈j∧(a=mulL t b c∨a=mulL t c b)):fQ (m+n+tb δ t.length) t p:=by
 obtain⟨D,B,v,u,r,o⟩:=h.ms;obtain⟨E,C,y,x,w,q⟩:=g.ms;obtain⟨Δ,Β,d1,d2,d3,d4⟩:=f.bt;have A:Δ^iR t.length≤2^(iR t.length*δ):=Bk d2;have z:=E8 d2 d3 t.length;refine⟨fun a i=>?_,D*E*Δ^iR t.length,B*C*cc Δ Β t.length,amK (amK v y) (am2 d1),?_,?_,fun a i=>?_⟩
 ·obtain⟨b,c,e,d,rfl|rfl⟩:=k a i
  ·exact(h.sh b e).mul f.ok.sh (g.sh c d)
  ·exact(g.sh c d).mul f.ok.sh (h.sh b e)
 ·refine alJ (mul_pow (mul_pow u x) A) (iJ (by unfold tb;omega))
 ·refine alJ (mul_pow (mul_pow r w) z) (iJ (by unfold tb;omega))
 ·obtain⟨b,c,e,d,rfl|rfl⟩:=k a i
  ·exact(mg d1 d4 _ _ _ D E B C (o b e) (q c d)).short (fM _ _ _ f.ok.sh (h.sh b e) (g.sh c d)).1
  ·have:=(mg d1 d4 t.length _ _ E D C B (q c d) (o b e)).short (fM _ _ _ f.ok.sh (g.sh c d) (h.sh b e)).1
   rw[alS E,alS C]at this;exact this
theorem fQ.aiJ{n r:Nat}{t:aS}{l:List (List Rat)}(d:iU t.length t)(h:fQ n t l){x y:Rat}(f:iA r x)(e:iA r y){p:List (List Rat)}
  (j:∀a∈p,∃b q,b∈l∧(q=x∨q=y)∧(a=mulL t b (iF q)∨a=mulL t (iF q) b)):fQ (n+r+r) t p:=by
 obtain⟨D,B,w,v,u,o⟩:=h.ms;have i:∀q:Rat,Sh 0 (iF q)∧(iF q).getD 0 0=q:=fun q=>⟨Sh.mJ 0 q,by unfold iF;rw[j5 (Sh.single 0 q)];rfl⟩
 refine⟨fun a g=>?_,D*(x.den*y.den),B*(2^r*2^r),amK w (amK x.den_pos y.den_pos),?_,?_,fun a g=>?_⟩
 ·obtain⟨b,q,c,_,rfl|rfl⟩:=j a g
  ·exact(h.sh b c).mul d (Sh.mJ _ q)
  ·exact(Sh.mJ _ q).mul d (h.sh b c)
 ·rw[anl];exact mul_pow v (mul_pow f.2 e.2)
 ·rw[anl];exact mul_pow u (mul_pow (alE _) (alE _))
 ·obtain⟨b,q,c,k,z⟩:=j a g
  have m:=(o b c).rat (t:=t) (h.sh b c) (i q).1 (i q).2;have key:Ms (D*q.den) (B*q.num.natAbs) a:=by
   rcases z with rfl|rfl
   ·exact m.1.short (fM _ _ _ d (h.sh b c) (Sh.mJ _ q)).1
   ·exact m.2.short (fM _ _ _ d (Sh.mJ _ q) (h.sh b c)).1
  rcases k with rfl|rfl
  ·have:=key.scale y.den
   rw[alQ,alQ]at this;exact this.mono (amc _ (al' f.1 e.2))
  ·have:=key.scale x.den
   rw[alQ,alQ,alS q.den]at this;exact this.mono (amc _ (al' e.1 f.2))
end fL
end Lw
namespace Lw
open Go Go.RowKit Go.Proofs
def ax{P:Program}{G:World→Prop}(l:List FuncId)(ro:FuncId→List Nat:=fun _=>[]):rM P G where
 orc _ _:=none
 ok _ _ _ h:=by cases h
 ro:=ro
 stop f:=l.contains f
 ado _ _:=none
 okF _ _ _ h:=by cases h
 adn _ _ _ _:=none
 okI _ _ _ _ _ _ _ h:=by cases h
 fr:=false
theorem iD.shrink{P:Program}{G:World→Prop}{fn:Func}{args cs g:List D}{d:D}{blks':List (Option (List D))}{ns':List Nat}(h:iD P G fn 1 args [some cs] [] d blks' ns')
  (n:blks'.getD 0 none=some g) (R:dZ g=false) (I:d.refs=[]):iD P G fn 1 args [some cs] [] d [some g] []:=by
 intro f H c w β X vals C B A z y u O s K r;refine(h f H c w β X vals C B A z y u O s K r).mono fun e T L=>?_
 obtain⟨v,q,Q,rfl,a,F,_⟩:=L;have k1:∀k cs',([some g]:List (Option (List D))).getD k none=some cs'→k=0∧cs'=g:=fun k cs' e=>by
  cases k with
  |zero=>exact⟨rfl,(amq e).symm⟩
  |succ k=>simp at e
 refine⟨v,q,Q,rfl,⟨a.defers,a.size,fun t=>.c (.p (.any _)),fun t k b=>by simp[D.refs]at b,fun k cs' b=>?_,fun k cs' b x E V o=>?_,fun k i b j _=>?_,a.F,a.vt,a.oE,⟨a.below.uJ,a.below.nc,a.below.sz⟩,a.gh,fun p S k b=>?_,⟨a.kp.obj,a.kp.x,a.kp.lt,fun k b i j=>?_⟩⟩,F,fun k b=>by rw[I]at b;cases b⟩
 ·obtain⟨rfl,rfl⟩:=k1 k cs' b
  exact a.blk 0 cs' n
 ·obtain⟨rfl,rfl⟩:=k1 k cs' b
  rw[iL R x E]at o;cases o
 ·obtain⟨m,l⟩:=alL.1 b
  obtain⟨N,M⟩:=alL.1 j;rw[(k1 k m l).1,(k1 i N M).1]
 ·obtain⟨J,U⟩:=a.iY p S k b
  have:k=0:=by omega
  subst this;exact⟨J,rfl⟩
 ·obtain⟨m,l⟩:=alL.1 j
  obtain⟨rfl,rfl⟩:=k1 i m l;exact a.kp.off k b 0 (by show(blks'.getD 0 none).isSome=true;rw[n];rfl)
abbrev fF(P:Program)(G:World→Prop)(fn:Func)(args cs:List D)(r:D)(cs':List D):Prop:=iD P G fn 1 args [some cs] [] r [some cs'] []
def runM(P:Program){G:World→Prop}(ro:List Nat)(m:Nat)(fn:Func)(args cs:List D)(a:List (Item P G)):Option (D×List D×List (de×de)):=
 match wT P (oA P m) 1 ro fn args [some cs] [] a with
 |some (d,blks',_,_,eqs)=>match blks'.getD 0 none with
  |some cs'=>match d.refs.isEmpty&& !dZ cs' with
   |true=>some (d,cs',eqs)
   |false=>none
  |none=>none
 |none=>none
def adi{α:Type}(f:List (de×de)→α)(o:Option (D×List D×List (de×de))):Option (D×List D×α):=o.map fun o=>(o.1,o.2.1,f o.2.2)
theorem fF.aq{P:Program}{G:World→Prop}(p:aa G)(A:rM P G)(fn:Func){ro:List Nat}{m:Nat}{args cs cs':List D}{r:D}(b:List (Item P G))
  (h:adi CK (runM P ro m fn args cs (.auto A::b))=some (r,cs',said b):=by kernel_rfl) (f:adi Nz (runM P ro m fn args cs (.auto A::b))=adi FR (runM P ro m fn args cs (.auto A::b)):=by kernel_rfl):fF P G fn args cs r cs':=by
 unfold adi at h f;cases a:runM P ro m fn args cs (.auto A::b)with
 |none=>rw[a]at h;cases h
 |some o=>
  obtain⟨d,u,c⟩:=o;rw[a]at h f;simp only[Option.map_some,Option.some.injEq,Prod.mk.injEq,true_and]at h f;obtain⟨rfl,rfl,h⟩:=h;unfold runM at a;split at a
  ·rename_i d blks' ns' tr' c j
   split at a
   ·rename_i v q
    split at a
    ·rename_i g
     simp only[Bool.and_eq_true,List.isEmpty_iff,Bool.not_eq_true']at g;simp only[Option.some.injEq,Prod.mk.injEq]at a;obtain⟨rfl,rfl,rfl⟩:=a;exact(oX (fun ro t k s b e i tr' c l n=>iO p m ro t k s b e i tr' c l n) _ _ _ _ _ _ _ _ _ _ _ _ j (zm h f)).shrink q g.2 g.1
    ·cases a
   ·cases a
  ·cases a
theorem WR{α:Type}{p:α→Prop}:∀x∈([]:List α),p x:=fun _ h=>by cases h
theorem tq{α:Type}{p:α→Prop}{a:α}{l:List α}(h:p a)(t:∀x∈l,p x):∀x∈a::l,p x:=fun x b=>(alM.1 b).elim (fun e=>e▸h) (t x)
namespace Tw
open fL
variable {G:World→Prop}
def abZ(l:List (List Rat)):D:=.row l.length false (l.map aA)
def SR(t:aS)(l:List (List Rat))(i:Nat):St:=lay 31 [(2,.aV [.row t.length false (t.map aA)]),(15,abZ l),(16,nat l.length),(17,nat i)] []
theorem YZ(d:aa G){t:aS}{δ n:Nat}(h:n7 δ t){l:List (List Rat)}(g:∀a∈l,aQ n t a)(f:n≤NB)(j:l.length≤60){i:Nat}(b:i<l.length):
  ak zZq G 0 (ah f280 0) (SR t l i) .normal (SR t l (i+1)):=by
 have e:=vI b;have c:=ym (G:=G) d h (g (l.getD i []) (by rw[alD,alK b];exact al2 b)) f
 exact ak.r d [.eb 18 (ay b),.prop (oL b),.prop (oM b),.eq 20 e,.call c,.eq 30 (bQ (aI b (by omega)))]
theorem MV(c:aa G){t:aS}{δ n:Nat}(b:n7 δ t){l:List (List Rat)}(g:∀a∈l,aQ n t a)(f:n≤NB)(d:l.length≤60):
  Spec zZq G 280 [aP t,abZ l] (.lit .nilIface):=by
 have e:=bT.z zZq G (ah f280 0) (.exit 0) (SR t l l.length) (fun i=>SR t l i) l.length
  (fun i h=>YZ c b g f d h) (ak.r c [.eb 18 (aH (alE l.length))])
 exact Spec.r c func280 [2] [.call (tA c b.ok b.bt b.sz),.code e]
end Tw
end Lw
namespace Lw
open Go Go.RowKit Go.Proofs
namespace Tw
open fL
variable {G:World→Prop}
def MB:Nat:=17592186044415
theorem ab2:MB=17592186044415:=rfl
theorem HD:MB+MB+MB+MB≤NB:=by rw[ab2,ab1];omega
abbrev Ok(t:aS)(a:List Rat):Prop:=aQ MB t a
structure b7(δ:Nat)(t:aS):Prop where
 b:n7 δ t
 tb:tb δ t.length≤MB
def yl(δ:Nat)(t:aS)(a:List Rat):Prop:=∃n,aQ n t a∧sb δ t.length n≤NB
def Sc(δ:Nat)(t:aS)(a:List Rat):Prop:=∃n,aQ n t a∧sb δ t.length n≤NB∧ib δ t.length n≤MB
variable {t:aS} {δ:Nat}
theorem zc(e:aa G)(d:b7 δ t){l:List (List Rat)}(c:∀a∈l,Ok t a)(b:l.length≤60):Spec zZq G 280 [aP t,abZ l] (.lit .nilIface):=
 MV e d.b c (by have:=HD;omega) b
theorem gg(b:aa G)(a:b7 δ t):Spec zZq G 50 [aP t] (.lit .nilIface):=tA b a.b.ok a.b.bt a.b.sz
theorem j4(f:aa G)(e:b7 δ t){a b:List Rat}(d:Ok t a)(c:Ok t b):Spec zZq G 316 [aP t,aA a,aA b] (.aY [aA (o9 a b),.lit .nilIface]):=
 Cj f e.b d c (by have:=HD;have:=ab2;omega)
theorem bW(f:aa G)(e:b7 δ t){a b:List Rat}(d:Ok t a)(c:Ok t b):Spec zZq G 312 [aP t,aA a,aA b] (.aY [aA (jg a b),.lit .nilIface]):=
 PA f e.b d c (by have:=HD;have:=ab2;omega)
theorem cL(f:aa G)(c:b7 δ t){a b:List Rat}(e:Ok t a)(d:Ok t b):Spec zZq G 317 [aP t,aA a,aA b] (.aY [aA (mulL t a b),.lit .nilIface]):=
 kP f c.b e d (by have:=HD;have:=c.tb;omega)
theorem aM(d:aa G)(c:b7 δ t){a:List Rat}(b:Ok t a):Spec zZq G 51 [aP t,aA a] (.aY [aA (xI a),.lit .nilIface]):=
 ym d c.b b (by have:=HD;omega)
theorem ah2(e:aa G)(d:b7 δ t){a:List Rat}(h:yl δ t a):Spec zZq G 23 [aP t,aA a] (.aY [int (a7 t a),.lit .nilIface]):=by
 obtain⟨n,c,b⟩:=h;exact oz e d.b c b
theorem ud(h:aa G)(c:b7 δ t){a b:List Rat}(g:Ok t a)(f:Sc δ t b)(i:a7 t b≠0):Spec zZq G 284 [aP t,aA a,aA b] (.aY [aA (wu t a b),.lit .nilIface]):=by
 obtain⟨n,e,d,j⟩:=f;exact PF h c.b g e i d (by have:=HD;have:=c.tb;omega)
abbrev Pt:=List Rat×List Rat
def iX(p:Pt):D:=.agg [aA p.1,aA p.2]
def Lu(p:Pt):List D:=[aA p.1,aA p.2]
def fP(t:aS)(p:Pt):Prop:=Ok t p.1∧Ok t p.2
theorem Oq(b:aa G)(c:b7 δ t){p:Pt}(a:fP t p):Spec zZq G 219 [aP t,.row 1 false (Lu p)] (.lit .nilIface):=
 Spec.y b (ax [280]) func219 [] [.call (zc b c (l:=[p.1,p.2]) (tq a.1 (tq a.2 WR)) (by simp))]
theorem ox(c:aa G)(d:b7 δ t){p q:Pt}(b:fP t p)(a:fP t q):Spec zZq G 219 [aP t,.row 2 false (Lu p++Lu q)] (.lit .nilIface):=
 Spec.y c (ax [280]) func219 [] [.call (zc c d (l:=[p.1,p.2,q.1,q.2]) (tq b.1 (tq b.2 (tq a.1 (tq a.2 WR)))) (by simp))]
theorem Oo(d:aa G)(e:b7 δ t){p q r:Pt}(c:fP t p)(b:fP t q)(a:fP t r):Spec zZq G 219 [aP t,.row 3 false (Lu p++Lu q++Lu r)] (.lit .nilIface):=
 Spec.y d (ax [280]) func219 [] [.call (zc d e (l:=[p.1,p.2,q.1,q.2,r.1,r.2]) (tq c.1 (tq c.2 (tq b.1 (tq b.2 (tq a.1 (tq a.2 WR)))))) (by simp))]
theorem jZ(a:aa G)(c:b7 δ t){p:Pt}(b:fP t p):Spec zZq G 272 [aP t,iX p] (.lit .nilIface):=
 Spec.y a (ax [219]) func272 [] [.call (Oq a c b)]
def zz(p q:Pt):Pt:=(o9 p.1 q.1,o9 p.2 q.2)
def fD(p q:Pt):Pt:=(jg p.1 q.1,jg p.2 q.2)
def ta(t:aS)(p q:Pt):List Rat:=o9 (mulL t p.1 q.1) (mulL t p.2 q.2)
def kX(t:aS)(p q:Pt):List Rat:=jg (mulL t p.1 q.2) (mulL t p.2 q.1)
def xn(t:aS)(k:List Rat)(p:Pt):Pt:=(mulL t k p.1,mulL t k p.2)
def tI(t:aS)(c s:List Rat)(p:Pt):Pt:=(jg (mulL t c p.1) (mulL t s p.2),o9 (mulL t s p.1) (mulL t c p.2))
def xE(x y:Rat):Pt:=(iF x,iF y)
def Er:List FuncId:=[316,312,317,284,23,52,51,50,86,280,219]
theorem aeF(a:aa G)(d:b7 δ t){p q:Pt}(c:fP t p)(b:fP t q):Spec zZq G 287 [aP t,iX p,iX q] (.aY [iX (zz p q),.lit .nilIface]):=
 Spec.y a (ax Er) func287 [] [.call (ox a d c b),.call (j4 a d c.1 b.1),.call (j4 a d c.2 b.2)]
theorem ua(a:aa G)(d:b7 δ t){p q:Pt}(c:fP t p)(b:fP t q):Spec zZq G 211 [aP t,iX p,iX q] (.aY [iX (fD p q),.lit .nilIface]):=
 Spec.y a (ax Er) func211 [] [.call (ox a d c b),.call (bW a d c.1 b.1),.call (bW a d c.2 b.2)]
theorem aeE(a:aa G)(b:b7 δ t){p q:Pt}(d:fP t p)(c:fP t q)(f:Ok t (mulL t p.1 q.1))(e:Ok t (mulL t p.2 q.2)):Spec zZq G 158 [aP t,iX p,iX q] (.aY [aA (ta t p q),.lit .nilIface]):=
 Spec.y a (ax Er) func158 [] [.call (ox a b d c),.call (cL a b d.1 c.1),.call (cL a b d.2 c.2),.call (j4 a b f e)]
theorem WZ(a:aa G)(b:b7 δ t){p q:Pt}(d:fP t p)(c:fP t q)(f:Ok t (mulL t p.1 q.2))(e:Ok t (mulL t p.2 q.1)):Spec zZq G 252 [aP t,iX p,iX q] (.aY [aA (kX t p q),.lit .nilIface]):=
 Spec.y a (ax Er) func252 [] [.call (ox a b d c),.call (cL a b d.1 c.2),.call (cL a b d.2 c.1),.call (bW a b f e)]
theorem J0(b:aa G)(d:b7 δ t){k:List Rat}{p:Pt}(c:Ok t k)(a:fP t p):Spec zZq G 210 [aP t,aA k,iX p] (.aY [iX (xn t k p),.lit .nilIface]):=
 Spec.y b (ax Er) func210 [] [.call (zc b d (l:=[k,p.1,p.2]) (tq c (tq a.1 (tq a.2 WR))) (by simp)),.call (cL b d c a.1),.call (cL b d c a.2)]
theorem abX(a:aa G)(b:b7 δ t){c s:List Rat}{p:Pt}(f:Ok t c)(e:Ok t s)(d:fP t p)(j:Ok t (mulL t c p.1))(i:Ok t (mulL t s p.2))(h:Ok t (mulL t s p.1))(g:Ok t (mulL t c p.2)):
  Spec zZq G 253 [aP t,aA c,aA s,iX p] (.aY [iX (tI t c s p),.lit .nilIface]):=
 Spec.y a (ax Er) func253 [] [.call (zc a b (l:=[c,s,p.1,p.2]) (tq f (tq e (tq d.1 (tq d.2 WR)))) (by simp)),
  .call (cL a b f d.1),.call (cL a b e d.2),.call (bW a b j i),.call (cL a b e d.1),.call (cL a b f d.2),.call (j4 a b h g)]
theorem vo(a:aa G)(b:b7 δ t){p q:Pt}(e:fP t p)(d:fP t q)(c:fP t (fD q p))(g:Ok t (mulL t (fD q p).1 (fD q p).1))(f:Ok t (mulL t (fD q p).2 (fD q p).2)):
  Spec zZq G 314 [aP t,iX p,iX q] (.aY [aA (ta t (fD q p) (fD q p)),.lit .nilIface]):=
 Spec.y a (ax Er) func314 [] [.call (ox a b e d),.call (bW a b d.1 e.1),.call (bW a b d.2 e.2),.call (cL a b c.1 c.1),.call (cL a b c.2 c.2),.call (j4 a b g f)]
theorem LR(a:aa G){x y:Rat}(c:gU KB x)(b:gU KB y):Spec zZq G 194 [F x,F y] (iX (xE x y)):=
 Spec.y a (ax Er) func194 [] [.call (dG a c),.call (dG a b)]
structure Pl where
 c:List Rat
 s:List Rat
 x:List Rat
 y:List Rat
def dw(b:Pl):List D:=[aA b.c,aA b.s,aA b.x,aA b.y]
def jB(b:Pl):D:=.agg (dw b)
def JT(t:aS)(b:Pl)(x y:Rat):Pt:=zz (tI t b.c b.s (xE x y)) (b.x,b.y)
structure aeG(t:aS)(b:Pl):Prop where
 c:Ok t b.c
 s:Ok t b.s
 x:Ok t b.x
 y:Ok t b.y
theorem ah6(c:aa G)(d:b7 δ t){b:Pl}(a:aeG t b){x y:Rat}(f:gU KB x)(e:gU KB y)
  (h:Spec zZq G 253 [aP t,aA b.c,aA b.s,iX (xE x y)] (.aY [iX (tI t b.c b.s (xE x y)),.lit .nilIface])) (g:fP t (tI t b.c b.s (xE x y))):
  Spec zZq G 218 [aP t,jB b,F x,F y] (.aY [iX (JT t b x y),.lit .nilIface]):=
 Spec.y c (ax ([194,253,287]++Er)) func218 [] [.call (zc c d (l:=[b.c,b.s,b.x,b.y]) (tq a.c (tq a.s (tq a.x (tq a.y WR)))) (by simp)),.call (LR c f e),.call h,.call (aeF c d (q:=(b.x,b.y)) g ⟨a.x,a.y⟩)]
end Tw
end Lw
namespace Lw
open Go Go.RowKit Go.Proofs
namespace Tw
open fL
variable {G:World→Prop} {t:aS} {δ:Nat}
theorem rl:MB≤NB:=by have:=HD;omega
theorem Ok.szl{a:List Rat}(h:Ok t a):xd KB a:=h.bt.fit rl
theorem Ok.len(b:b7 δ t){a:List Rat}(h:Ok t a):a.length≤1073741824:=alJ (aQ.len h b.b.ok) (by omega)
theorem B4(c:aa G)(b:b7 δ t){a:List Rat}(h:Ok t a):Spec zZq G 174 [aA a] (aA a):=jz c (h.len b) h.szl (alE _)
theorem ae3(a:aa G):Spec zZq G 279 [nat 0] (aA (eM 0)):=
 Spec.y a (ax [28]) func279 [] [.call (dA a (i:=1) (by omega) (by omega))]
theorem ae2(a:aa G):Spec zZq G 279 [nat 1] (aA (eM 1)):=
 Spec.y a (ax [28]) func279 [] [.call (dA a (i:=1) (by omega) (by omega))]
theorem ae1(a:aa G):Spec zZq G 279 [nat 2] (aA (eM 2)):=
 Spec.y a (ax [28]) func279 [] [.call (dA a (i:=1) (by omega) (by omega))]
theorem ae0(a:aa G):Spec zZq G 279 [nat 3] (aA (eM 3)):=
 Spec.y a (ax [28]) func279 [] [.call (dA a (i:=1) (by omega) (by omega))]
def Ep:List FuncId:=[56,174,176,65,279,278]
theorem y_(c:aa G)(b:b7 δ t){a:List Rat}(h:Ok t a):Spec zZq G 56 [aP t,.row 1 false [aA a]] (.lit .nilIface):=rI c b.b h rl
theorem J6(c:aa G)(a:List Rat){n:Nat}(b:n≤1073741824):Spec zZq G 176 [aA a,nat n] (aA (bA a n)):=Cu c a b
theorem afe(a:aa G){d:List Rat}(c:b7 δ [])(b:Ok [] d):Spec zZq G 278 [aP [],aA d] (.aY [aA (bA d (2^0)),.lit .nilIface]):=
 Spec.y a (ax Ep) func278 [] [.call (y_ a c b),.call (B4 a c b),.call (J6 a d (n:=1) (by omega))]
theorem afd(a:aa G){b:List Rat}{d:List Rat}(e:b7 δ [b])(c:Ok [b] d):Spec zZq G 278 [aP [b],aA d] (.aY [aA (bA d (2^1)),.lit .nilIface]):=
 Spec.y a (ax Ep) func278 [] [.call (y_ a e c),.call (B4 a e c),.call (J6 a d (n:=2) (by omega))]
theorem afc(a:aa G){c b:List Rat}{d:List Rat}(f:b7 δ [c,b])(e:Ok [c,b] d):Spec zZq G 278 [aP [c,b],aA d] (.aY [aA (bA d (2^2)),.lit .nilIface]):=
 Spec.y a (ax Ep) func278 [] [.call (y_ a f e),.call (B4 a f e),.call (J6 a d (n:=4) (by omega))]
theorem afb(a:aa G){e c b:List Rat}{d:List Rat}(g:b7 δ [e,c,b])(f:Ok [e,c,b] d):Spec zZq G 278 [aP [e,c,b],aA d] (.aY [aA (bA d (2^3)),.lit .nilIface]):=
 Spec.y a (ax Ep) func278 [] [.call (y_ a g f),.call (B4 a g f),.call (J6 a d (n:=8) (by omega))]
theorem ala(a:aa G){d:List Rat}(c:b7 δ [])(_:δ≤NB)(f:Ok [] d){n:Nat}(hw:aQ n [] (bA d (2^0)))(g:sb δ 0 n≤NB)(i:0≤a7 [] (bA d (2^0))):
  Spec zZq G 207 [aP [],aA d] (.aY [aP ([]++[bA d (2^0)]),aA (eM 0),.lit .nilIface]):=by
 have sg:=lS (G:=G) a c.b hw g;have j:=(je [] 0 (bA d (2^0))).2;have e:a7 [] (bA d (2^0))=iu [] 0 (bA d (2^0)):=rfl;have b:a7 [] (bA d (2^0))=0∨a7 [] (bA d (2^0))=1:=by omega
 rcases b with b|b<;>rw[b]at sg
 ·exact Spec.y a (ax Ep) func207 [1009] [.call (afe a c f),.call sg,.call (ae3 a)]
 ·exact Spec.y a (ax Ep) func207 [1009] [.call (afe a c f),.call sg,.call (ae3 a)]
theorem ak'(b:aa G){a:List Rat}{d:List Rat}(c:b7 δ [a])(i:δ≤NB)(g:Ok [a] d){n:Nat}(hw:aQ n [a] (bA d (2^1)))(h:sb δ 1 n≤NB)(j:0≤a7 [a] (bA d (2^1))):
  Spec zZq G 207 [aP [a],aA d] (.aY [aP ([a]++[bA d (2^1)]),aA (eM 1),.lit .nilIface]):=by
 have c0:=jz (G:=G) b (l:=a) (k:=KB) (by have:=c.b.ok.sh 0 (by simp);have e:([a]:aS).getD 0 []=a:=rfl;rw[e]at this;rw[this];decide) (by have:=(c.b.bt.root 0).fit i;exact this) (alE _)
 have sg:=lS (G:=G) b c.b hw h;have m:=(je [a] 1 (bA d (2^1))).2;have e:a7 [a] (bA d (2^1))=iu [a] 1 (bA d (2^1)):=rfl;have f:a7 [a] (bA d (2^1))=0∨a7 [a] (bA d (2^1))=1:=by omega
 rcases f with f|f<;>rw[f]at sg
 ·exact Spec.y b (ax Ep) func207 [1009] [.call (afd b c g),.call sg,.call c0,.call (ae2 b)]
 ·exact Spec.y b (ax Ep) func207 [1009] [.call (afd b c g),.call sg,.call c0,.call (ae2 b)]
theorem ak_(c:aa G){b a:List Rat}{d:List Rat}(f:b7 δ [b,a])(h:δ≤NB)(i:Ok [b,a] d){n:Nat}(hw:aQ n [b,a] (bA d (2^2)))(m:sb δ 2 n≤NB)(o:0≤a7 [b,a] (bA d (2^2))):
  Spec zZq G 207 [aP [b,a],aA d] (.aY [aP ([b,a]++[bA d (2^2)]),aA (eM 2),.lit .nilIface]):=by
 have c0:=jz (G:=G) c (l:=b) (k:=KB) (by have:=f.b.ok.sh 0 (by simp);have e:([b,a]:aS).getD 0 []=b:=rfl;rw[e]at this;rw[this];decide) (by have:=(f.b.bt.root 0).fit h;exact this) (alE _)
 have j:=jz (G:=G) c (l:=a) (k:=KB) (by have:=f.b.ok.sh 1 (by simp);have e:([b,a]:aS).getD 1 []=a:=rfl;rw[e]at this;rw[this];decide) (by have:=(f.b.bt.root 1).fit h;exact this) (alE _)
 have sg:=lS (G:=G) c f.b hw m;have p:=(je [b,a] 2 (bA d (2^2))).2;have e:a7 [b,a] (bA d (2^2))=iu [b,a] 2 (bA d (2^2)):=rfl;have g:a7 [b,a] (bA d (2^2))=0∨a7 [b,a] (bA d (2^2))=1:=by omega
 rcases g with g|g<;>rw[g]at sg
 ·exact Spec.y c (ax Ep) func207 [1009] [.call (afc c f i),.call sg,.call c0,.call j,.call (ae1 c)]
 ·exact Spec.y c (ax Ep) func207 [1009] [.call (afc c f i),.call sg,.call c0,.call j,.call (ae1 c)]
theorem N9(f:aa G){c b a:List Rat}{d:List Rat}(g:b7 δ [c,b,a])(i:δ≤NB)(j:Ok [c,b,a] d){n:Nat}(hw:aQ n [c,b,a] (bA d (2^3)))(p:sb δ 3 n≤NB)(q:0≤a7 [c,b,a] (bA d (2^3))):
  Spec zZq G 207 [aP [c,b,a],aA d] (.aY [aP ([c,b,a]++[bA d (2^3)]),aA (eM 3),.lit .nilIface]):=by
 have c0:=jz (G:=G) f (l:=c) (k:=KB) (by have:=g.b.ok.sh 0 (by simp);have e:([c,b,a]:aS).getD 0 []=c:=rfl;rw[e]at this;rw[this];decide) (by have:=(g.b.bt.root 0).fit i;exact this) (alE _)
 have o:=jz (G:=G) f (l:=b) (k:=KB) (by have:=g.b.ok.sh 1 (by simp);have e:([c,b,a]:aS).getD 1 []=b:=rfl;rw[e]at this;rw[this];decide) (by have:=(g.b.bt.root 1).fit i;exact this) (alE _)
 have m:=jz (G:=G) f (l:=a) (k:=KB) (by have:=g.b.ok.sh 2 (by simp);have e:([c,b,a]:aS).getD 2 []=a:=rfl;rw[e]at this;rw[this];decide) (by have:=(g.b.bt.root 2).fit i;exact this) (alE _)
 have sg:=lS (G:=G) f g.b hw p;have r:=(je [c,b,a] 3 (bA d (2^3))).2;have e:a7 [c,b,a] (bA d (2^3))=iu [c,b,a] 3 (bA d (2^3)):=rfl;have h:a7 [c,b,a] (bA d (2^3))=0∨a7 [c,b,a] (bA d (2^3))=1:=by omega
 rcases h with h|h<;>rw[h]at sg
 ·exact Spec.y f (ax Ep) func207 [1009] [.call (afb f g j),.call sg,.call c0,.call o,.call m,.call (ae0 f)]
 ·exact Spec.y f (ax Ep) func207 [1009] [.call (afb f g j),.call sg,.call c0,.call o,.call m,.call (ae0 f)]
def Cl(t:aS):List D:=[.row t.length false (t.map aA),.lit .nilIface]
theorem gZ(a:aa G){x:Rat}(h:gU KB x):Spec zZq G 112 [F x,F 0] (F x):=afD a h.tW (alE _)
theorem akA(a:aa G):fF zZq G f315 [.ptr 0 0] (Cl []) (aP []) (Cl []):=
 fF.aq a (ax [112]) _ (ro:=[998]) (m:=60) []
theorem alo(a:aa G):Spec zZq G 195 [aP []] (aP []):=
 Spec.y a (ax [112]) func195 [] []
theorem akz(a:aa G){a0:Rat}(b:gU KB a0):fF zZq G f315 [.ptr 0 0] (Cl [[a0]]) (aP [[a0]]) (Cl [[a0]]):=
 fF.aq a (ax [112]) _ (ro:=[998,1003,1011006]) (m:=60) [.call (gZ a b)]
theorem aln(a:aa G){a0:Rat}(b:gU KB a0):Spec zZq G 195 [aP [[a0]]] (aP [[a0]]):=
 Spec.y a (ax [112]) func195 [1003,1011006] [.call (gZ a b)]
theorem aky(a:aa G){a0 c b:Rat}(f:gU KB a0)(e:gU KB c)(d:gU KB b):fF zZq G f315 [.ptr 0 0] (Cl [[a0],[c,b]]) (aP [[a0],[c,b]]) (Cl [[a0],[c,b]]):=
 fF.aq a (ax [112]) _ (ro:=[998,1003,1011006]) (m:=60) [.call (gZ a f),.call (gZ a e),.call (gZ a d)]
theorem alk(a:aa G){a0 c b:Rat}(f:gU KB a0)(e:gU KB c)(d:gU KB b):Spec zZq G 195 [aP [[a0],[c,b]]] (aP [[a0],[c,b]]):=
 Spec.y a (ax [112]) func195 [1003,1011006] [.call (gZ a f),.call (gZ a e),.call (gZ a d)]
theorem akx(a:aa G){a0 f e c0 d c b:Rat}(n:gU KB a0)(l:gU KB f)(k:gU KB e)(j:gU KB c0)(i:gU KB d)(h:gU KB c)(g:gU KB b):fF zZq G f315 [.ptr 0 0] (Cl [[a0],[f,e],[c0,d,c,b]]) (aP [[a0],[f,e],[c0,d,c,b]]) (Cl [[a0],[f,e],[c0,d,c,b]]):=
 fF.aq a (ax [112]) _ (ro:=[998,1003,1011006]) (m:=60) [.call (gZ a n),.call (gZ a l),.call (gZ a k),.call (gZ a j),.call (gZ a i),.call (gZ a h),.call (gZ a g)]
theorem alj(a:aa G){a0 j i c0 h g f:Rat}(m:gU KB a0)(l:gU KB j)(k:gU KB i)(e:gU KB c0)(d:gU KB h)(c:gU KB g)(b:gU KB f):Spec zZq G 195 [aP [[a0],[j,i],[c0,h,g,f]]] (aP [[a0],[j,i],[c0,h,g,f]]):=
 Spec.y a (ax [112]) func195 [1003,1011006] [.call (gZ a m),.call (gZ a l),.call (gZ a k),.call (gZ a e),.call (gZ a d),.call (gZ a c),.call (gZ a b)]
theorem akw(a:aa G){a0 f e c0 d c b d0 d1 d2 d3 d4 d5 d6 d7:Rat}(v:gU KB a0)(u:gU KB f)(s:gU KB e)(r:gU KB c0)(q:gU KB d)(p:gU KB c)(o:gU KB b)(w:gU KB d0)(n:gU KB d1)(l:gU KB d2)(k:gU KB d3)(j:gU KB d4)(i:gU KB d5)(h:gU KB d6)(g:gU KB d7):fF zZq G f315 [.ptr 0 0] (Cl [[a0],[f,e],[c0,d,c,b],[d0,d1,d2,d3,d4,d5,d6,d7]]) (aP [[a0],[f,e],[c0,d,c,b],[d0,d1,d2,d3,d4,d5,d6,d7]]) (Cl [[a0],[f,e],[c0,d,c,b],[d0,d1,d2,d3,d4,d5,d6,d7]]):=
 fF.aq a (ax [112]) _ (ro:=[998,1003,1011006]) (m:=60) [.call (gZ a v),.call (gZ a u),.call (gZ a s),.call (gZ a r),.call (gZ a q),.call (gZ a p),.call (gZ a o),.call (gZ a w),.call (gZ a n),.call (gZ a l),.call (gZ a k),.call (gZ a j),.call (gZ a i),.call (gZ a h),.call (gZ a g)]
theorem ali(a:aa G){a0 q p c0 o n m d0 d1 d2 d3 d4 d5 d6 d7:Rat}(u:gU KB a0)(s:gU KB q)(r:gU KB p)(l:gU KB c0)(k:gU KB o)(j:gU KB n)(i:gU KB m)(v:gU KB d0)(h:gU KB d1)(g:gU KB d2)(f:gU KB d3)(e:gU KB d4)(d:gU KB d5)(c:gU KB d6)(b:gU KB d7):Spec zZq G 195 [aP [[a0],[q,p],[c0,o,n,m],[d0,d1,d2,d3,d4,d5,d6,d7]]] (aP [[a0],[q,p],[c0,o,n,m],[d0,d1,d2,d3,d4,d5,d6,d7]]):=
 Spec.y a (ax [112]) func195 [1003,1011006] [.call (gZ a u),.call (gZ a s),.call (gZ a r),.call (gZ a l),.call (gZ a k),.call (gZ a j),.call (gZ a i),.call (gZ a v),.call (gZ a h),.call (gZ a g),.call (gZ a f),.call (gZ a e),.call (gZ a d),.call (gZ a c),.call (gZ a b)]
structure Cr where
 o:Pt
 r:List Rat
def cCr(c:Cr):List D:=[aA c.o.1,aA c.o.2,aA c.r]
def LW(c:Cr):D:=.agg (cCr c)
structure zC(δ:Nat)(t:aS)(c:Cr):Prop where
 o:fP t c.o
 r:Ok t c.r
 rs:yl δ t c.r
 pos:a7 t c.r=1
def KA:List FuncId:=[316,312,317,284,23,52,51,50,86,207,28,272,314,158,252,315,259]
def roM:FuncId→List Nat:=fun f=>if f=269 then [996]else []
theorem d_(c:aa G)(b:b7 δ t){a:List Rat}(h:yl δ t a){z:Int}(e:a7 t a=z):Spec zZq G 23 [aP t,aA a] (.aY [int z,.lit .nilIface]):=e▸ah2 c b h
theorem uZ(c:aa G)(d:b7 δ t){a b:Cr}(f:zC δ t a)(e:zC δ t b):Spec zZq G 259 [aP t,.row 2 false (cCr a++cCr b)] (.lit .nilIface):=
 Spec.y c (ax (KA.erase 259)) func259 [] [.call (gg c d),.call (jZ c d f.o),.call (aM c d f.r),.call (jZ c d e.o),.call (aM c d e.r),.call (d_ c d f.rs f.pos),.call (d_ c d e.rs e.pos)]
def cV(a b:Cr):Pt:=fD b.o a.o
def cD(t:aS)(a b:Cr):List Rat:=ta t (cV a b) (cV a b)
def cS(t:aS)(a b:Cr):List Rat:=jg (o9 a.r (cD t a b)) b.r
def cX(t:aS)(a b:Cr):List Rat:=jg (mulL t (iF 4) (mulL t a.r (cD t a b))) (mulL t (cS t a b) (cS t a b))
def Ec(t:aS)(a b:Cr):List Rat:=mulL t (iF 2) (cD t a b)
def cG(t:aS)(a b:Cr):List Rat:=wu t (cS t a b) (Ec t a b)
def dR(t:aS)(p:Pt)(k:List Rat)(v:Pt):Pt:=(o9 p.1 (mulL t k v.1),o9 p.2 (mulL t k v.2))
def HN(t:aS)(a b:Cr):Pt:=dR t a.o (cG t a b) (cV a b)
structure W_(δ:Nat)(t:aS)(a b:Cr):Prop where
 v:fP t (cV a b)
 m1:Ok t (mulL t (cV a b).1 (cV a b).1)
 m2:Ok t (mulL t (cV a b).2 (cV a b).2)
 d:Ok t (cD t a b)
 ds:yl δ t (cD t a b)
 ad:Ok t (o9 a.r (cD t a b))
 s:Ok t (cS t a b)
 f4:Ok t (iF 4)
 rd:Ok t (mulL t a.r (cD t a b))
 q1:Ok t (mulL t (iF 4) (mulL t a.r (cD t a b)))
 q2:Ok t (mulL t (cS t a b) (cS t a b))
 x:Ok t (cX t a b)
 xs:yl δ t (cX t a b)
theorem A3:gU KB ((4:Int):Rat):=Ke (by rw[pd];omega) (by omega) (by omega)
theorem Ss:gU KB ((2:Int):Rat):=Ke (by rw[pd];omega) (by omega) (by omega)
theorem Sr:gU KB ((-1:Int):Rat):=Ke (by rw[pd];omega) (by omega) (by omega)
def yn(t:aS)(a:List D):D:=.agg [.row t.length false (t.map aA),.row (a.length/2) false a]
theorem Ww(d:aa G)(e:b7 δ t){a b:Cr}(f:zC δ t a)(g:zC δ t b)(c:W_ δ t a b)(k:fF zZq G f315 [.ptr 0 0] (Cl t) (aP t) (Cl t))(j:a7 t (cD t a b)=1)(h:a7 t (cX t a b)= -1):
  Spec zZq G 199 [aP t,LW a,LW b] (.aY [yn t [],.lit .nilIface]):=
 Spec.y d (ax KA roM) func199 [] [.call (uZ d e f g),.call (vo d e f.o g.o c.v c.m1 c.m2),.call (j4 d e f.r c.d),.call (bW d e c.ad g.r),.call (cL d e f.r c.d),.call (dA d (i:=4) (by omega) (by omega)),.call (dG d A3),.call (cL d e c.f4 c.rd),.call (cL d e c.s c.s),.call (bW d e c.q1 c.q2),.call (d_ d e c.ds j),.call (d_ d e c.xs h),.aT func315 k]
structure ab'(δ:Nat)(t:aS)(a b:Cr):Prop where
 f2:Ok t (iF 2)
 w:Sc δ t (Ec t a b)
 w0:a7 t (Ec t a b)≠0
 g:Ok t (cG t a b)
 g1:Ok t (mulL t (cG t a b) (cV a b).1)
 g2:Ok t (mulL t (cG t a b) (cV a b).2)
theorem abn(d:aa G)(f:b7 δ t){a b:Cr}(g:zC δ t a)(h:zC δ t b)(c:W_ δ t a b)(l:fF zZq G f315 [.ptr 0 0] (Cl t) (aP t) (Cl t))(e:ab' δ t a b)(k:a7 t (cD t a b)=1)(j:a7 t (cX t a b)=0):
  Spec zZq G 199 [aP t,LW a,LW b] (.aY [yn t (Lu (HN t a b)),.lit .nilIface]):=
 Spec.y d (ax KA roM) func199 [] [.call (uZ d f g h),.call (vo d f g.o h.o c.v c.m1 c.m2),.call (j4 d f g.r c.d),.call (bW d f c.ad h.r),.call (cL d f g.r c.d),.call (dA d (i:=4) (by omega) (by omega)),.call (dG d A3),.call (cL d f c.f4 c.rd),.call (cL d f c.s c.s),.call (bW d f c.q1 c.q2),.call (d_ d f c.ds k),.call (d_ d f c.xs j),.call (bW d f h.o.1 g.o.1),.call (bW d f h.o.2 g.o.2),.call (dA d (i:=2) (by omega) (by omega)),.call (dG d Ss),.call (cL d f e.f2 c.d),.call (j4 d f g.r c.d),.call (bW d f c.ad h.r),.call (ud d f c.s e.w e.w0),.call (cL d f e.g c.v.1),.call (j4 d f g.o.1 e.g1),.call (cL d f e.g c.v.2),.call (j4 d f g.o.2 e.g2),.aT func315 l]
theorem RP(d:aa G)(e:b7 δ t){a b:Cr}(f:zC δ t a)(g:zC δ t b)(c:W_ δ t a b)(j:fF zZq G f315 [.ptr 0 0] (Cl t) (aP t) (Cl t))(h:a7 t (cD t a b)=0){z:Int}(k:z=1∨z= -1)(ss:yl δ t (jg a.r b.r))(sz:a7 t (jg a.r b.r)=z):
  Spec zZq G 199 [aP t,LW a,LW b] (.aY [yn t [],.lit .nilIface]):=by
 rcases k with rfl|rfl
 all_goals exact Spec.y d (ax KA roM) func199 [] [.call (uZ d e f g),.call (vo d e f.o g.o c.v c.m1 c.m2),.call (j4 d e f.r c.d),.call (bW d e c.ad g.r),.call (cL d e f.r c.d),.call (dA d (i:=4) (by omega) (by omega)),.call (dG d A3),.call (cL d e c.f4 c.rd),.call (cL d e c.s c.s),.call (bW d e c.q1 c.q2),.call (d_ d e c.ds h),.call (bW d e f.r g.r),.call (d_ d e ss sz),.aT func315 j]
theorem Wv(d:aa G)(e:b7 δ t){a b:Cr}(f:zC δ t a)(g:zC δ t b)(c:W_ δ t a b)(h:a7 t (cD t a b)=0)(ss:yl δ t (jg a.r b.r))(sz:a7 t (jg a.r b.r)=0):
  Spec zZq G 199 [aP t,LW a,LW b] (.aY [.agg [.row 0 false [],.row 0 false []],e_ 15]):=
 Spec.y d (ax KA roM) func199 [] [.call (uZ d e f g),.call (vo d e f.o g.o c.v c.m1 c.m2),.call (j4 d e f.r c.d),.call (bW d e c.ad g.r),.call (cL d e f.r c.d),.call (dA d (i:=4) (by omega) (by omega)),.call (dG d A3),.call (cL d e c.f4 c.rd),.call (cL d e c.s c.s),.call (bW d e c.q1 c.q2),.call (d_ d e c.ds h),.call (bW d e f.r g.r),.call (d_ d e ss sz),.call (d_ d e f.rs f.pos)]
def cT(t:aS)(a b:Cr):aS:=t++[bA (cX t a b) (2^t.length)]
def cH(t:aS)(a b:Cr):List Rat:=wu (cT t a b) (eM t.length) (Ec t a b)
def cN(t:aS)(a b:Cr):Pt:=(mulL (cT t a b) (iF (-1)) (cV a b).2,(cV a b).1)
def cH'(t:aS)(a b:Cr):List Rat:=mulL (cT t a b) (iF (-1)) (cH t a b)
def cP1(t:aS)(a b:Cr):Pt:=dR (cT t a b) (HN t a b) (cH t a b) (cN t a b)
def cP2(t:aS)(a b:Cr):Pt:=dR (cT t a b) (HN t a b) (cH' t a b) (cN t a b)
structure akb(η:Nat)(t:aS)(a b:Cr):Prop where
 r:Ok (cT t a b) (eM t.length)
 w:Sc η (cT t a b) (Ec t a b)
 w0:a7 (cT t a b) (Ec t a b)≠0
 fm:Ok (cT t a b) (iF (-1))
 v:fP (cT t a b) (cV a b)
 f:fP (cT t a b) (HN t a b)
 h:Ok (cT t a b) (cH t a b)
 n1:Ok (cT t a b) (cN t a b).1
 h1:Ok (cT t a b) (mulL (cT t a b) (cH t a b) (cN t a b).1)
 h2:Ok (cT t a b) (mulL (cT t a b) (cH t a b) (cN t a b).2)
 h':Ok (cT t a b) (cH' t a b)
 HM:Ok (cT t a b) (mulL (cT t a b) (cH' t a b) (cN t a b).1)
 To:Ok (cT t a b) (mulL (cT t a b) (cH' t a b) (cN t a b).2)
theorem abl(d:aa G)(f:b7 δ t){a b:Cr}(h:zC δ t a)(j:zC δ t b)(c:W_ δ t a b)(n:fF zZq G f315 [.ptr 0 0] (Cl (cT t a b)) (aP (cT t a b)) (Cl (cT t a b)))(e:ab' δ t a b){η:Nat}(g:b7 η (cT t a b))(k:akb η t a b)(ex:Spec zZq G 207 [aP t,aA (cX t a b)] (.aY [aP (cT t a b),aA (eM t.length),.lit .nilIface]))(m:a7 t (cD t a b)=1)(l:a7 t (cX t a b)=1):
  Spec zZq G 199 [aP t,LW a,LW b] (.aY [yn (cT t a b) (Lu (cP1 t a b)++Lu (cP2 t a b)),.lit .nilIface]):=
 Spec.y d (ax KA roM) func199 [] [.call (uZ d f h j),.call (vo d f h.o j.o c.v c.m1 c.m2),.call (j4 d f h.r c.d),.call (bW d f c.ad j.r),.call (cL d f h.r c.d),.call (dA d (i:=4) (by omega) (by omega)),.call (dG d A3),.call (cL d f c.f4 c.rd),.call (cL d f c.s c.s),.call (bW d f c.q1 c.q2),.call (d_ d f c.ds m),.call (d_ d f c.xs l),.call (bW d f j.o.1 h.o.1),.call (bW d f j.o.2 h.o.2),.call (dA d (i:=2) (by omega) (by omega)),.call (dG d Ss),.call (cL d f e.f2 c.d),.call (j4 d f h.r c.d),.call (bW d f c.ad j.r),.call (ud d f c.s e.w e.w0),.call (cL d f e.g c.v.1),.call (j4 d f h.o.1 e.g1),.call (cL d f e.g c.v.2),.call (j4 d f h.o.2 e.g2),.call ex,.call (ud d g k.r k.w k.w0),.call (dA d (i:= -1) (by omega) (by omega)),.call (dG d Sr),.call (cL d g k.fm k.v.2),.call (cL d g k.h k.n1),.call (j4 d g k.f.1 k.h1),.call (cL d g k.h k.v.1),.call (j4 d g k.f.2 k.h2),.call (dA d (i:= -1) (by omega) (by omega)),.call (dG d Sr),.call (cL d g k.fm k.h),.call (cL d g k.h' k.n1),.call (j4 d g k.f.1 k.HM),.call (cL d g k.h' k.v.1),.call (j4 d g k.f.2 k.To),.aT func315 n]
structure Mk where
 nm:ByteArray
 x:Rat
 y:Rat
 deriving Inhabited
def cPc(x y:Rat):List D:=cF x++cF y
def cMk(m:Mk):List D:=.lit (.string m.nm)::cPc m.x m.y
structure Bd where
 nm:ByteArray
 bC:List Mk
 deriving Inhabited
def cBd(b:Bd):List D:=[.lit (.string b.nm),aU cMk b.bC]
structure Jt where
 nm:ByteArray
 kind:Nat
 a:Nat
 p:Nat
 b:Nat
 on:Nat
 to:Nat
 deriving Inhabited
def Ox(j:Jt):List D:=[.lit (.string j.nm),nat j.kind,nat j.a,nat j.p,nat j.b,nat j.on,nat j.to]
structure Dr where
 nm:ByteArray
 body:Nat
 deriving Inhabited
def PJ(d:Dr):List D:=[.lit (.string d.nm),nat d.body]
structure Lk where
 nm:ByteArray
 bs:List Bd
 js:List Jt
 ds:List Dr
def EB(l:Lk):List D:=[.lit (.string l.nm),aU cBd l.bs,aU Ox l.js,aU PJ l.ds]
def mP(l:List Nat):D:=.row l.length false (l.map nat)
def kH(l:List Int):D:=.row l.length false (l.map int)
structure Gp where
 kind:Nat
 bs:List Nat
 js:List Nat
 dr:Nat
def iV(g:Gp):List D:=[nat g.kind,mP g.bs,mP g.js,nat g.dr]
structure As where
 t:aS
 bs:List Pl
 ms:List Int
def p_(a:As):List D:=[.row a.t.length false (a.t.map aA),aU dw a.bs,kH a.ms]
def iH(l:Lk)(g:Gp)(a:As):List D:=EB l++iV g++p_ a++[.lit .nilIface]
theorem zh(m:Mk):(cMk m).length=7:=rfl
theorem zi(b:Bd):(cBd b).length=2:=rfl
theorem br(j:Jt):(Ox j).length=7:=rfl
theorem fC(d:Dr):(PJ d).length=2:=rfl
theorem aG(b:Pl):(dw b).length=4:=rfl
theorem jA{α:Type}{f:α→List D}{sz:Nat}(c:∀x,(f x).length=sz){l:List α}{i:Nat}(h:i<l.length)(d:α)(j:Nat)(b:j<sz):
  (((l.flatMap f).drop ((zNq i).toNat*sz)).drop j).headD .any=(f (l.getD i d)).getD j .any:=by
 have e:=cg (sz:=sz) c h d;simp only[D.agg.injEq]at e;rw[←e];generalize(l.flatMap f).drop ((zNq i).toNat*sz)=r;rw[alD,amA,apB b];cases a:r.drop j with
 |nil=>rw[alX (by simpa using a)];rfl
 |cons x xs=>
  have:r[j]? =some x:=by
   have:=apF (fun l=>l[0]?) a
   simpa using this
  rw[this];rfl
theorem bH{α:Type}{f:α→List D}{sz:Nat}(a:∀x,(f x).length=sz){l:List α}{i:Nat}(h:i<l.length)(j:Nat)(b:j<sz):0<1∧1≤(((l.flatMap f).drop ((zNq i).toNat*sz)).drop j).length:=by
 have:=av (sz:=sz) a (by omega) h
 rw[alP];omega
def PcD(x y:Rat):D:=.agg (cPc x y)
def dP(l:Lk)(body k:Nat):Mk:=(l.bs.getD body default).bC.getD k default
theorem mK(i:aa G)(l:Lk)(g:Gp)(a:As){body k:Nat}(c:body<l.bs.length)(b:k<(l.bs.getD body default).bC.length):
  fF zZq G f249 [.ptr 0 0,nat body,nat k] (iH l g a) (PcD (dP l body k).x (dP l body k).y) (iH l g a):=by
 have n:=jA zi c default 1 (by omega)
 have h:=bH zi c 1 (by omega)
 have j:=cg zh b default;have f:=aC zi (by omega) c
 have e:=aC zh (by omega) b
 have d:=av zh (by omega) b
 exact fF.aq i (ax []) _ (ro:=[998]) (m:=60) [.er 13 (nat body),.prop f,.prop h,.eq 16 n,.prop e,.prop d,.eq 19 j]
def dC(a:As)(body:Nat):Pl:=a.bs.getD body ⟨[],[],[],[]⟩
def b9(l:Lk)(a:As)(body k:Nat):Pt:=JT a.t (dC a body) (dP l body k).x (dP l body k).y
def xe(G:World→Prop)(l:Lk)(a:As)(body k:Nat):Prop:=
 Spec zZq G 218 [aP a.t,jB (dC a body),F (dP l body k).x,F (dP l body k).y] (.aY [iX (b9 l a body k),.lit .nilIface])
theorem rE(c:aa G)(l:Lk)(g:Gp)(a:As){body k:Nat}(h:body<l.bs.length)(f:k<(l.bs.getD body default).bC.length)(b:body<a.bs.length)(at':xe G l a body k):
  fF zZq G f250 [.ptr 0 0,nat body,nat k] (iH l g a) (iX (b9 l a body k)) (iH l g a):=by
 have i:=cg aG b ⟨[],[],[],[]⟩;have e:=aC aG (by omega) b
 have d:=av aG (by omega) b
 exact fF.aq c (ax [249,218]) _ (ro:=[998]) (m:=60) [.aT func249 (mK c l g a h f),.er 25 (nat body),.prop e,.prop d,.eq 27 i,.call at']
def fR(l:Lk)(g:Gp)(k:Nat):Jt:=l.js.getD (g.js.getD k 0) default
theorem sR{l:List Nat}{i:Nat}(h:i<l.length):((0:Int)≤zNq i∧zNq i<(l.length:Int))∧(zNq i).toNat*1<(l.map nat).length:=by
 have e:(zNq i).toNat=i:=rfl;rw[alR,e,amH];exact⟨⟨by simp,by simpa using h⟩,h⟩
theorem sS{l:List Nat}{i:Nat}(h:i<l.length):0<1∧1≤((l.map nat).drop ((zNq i).toNat*1)).length:=by
 have e:(zNq i).toNat=i:=rfl;rw[alP,alR,e];omega
theorem xJ{l:List Nat}{i:Nat}(h:i<l.length):((l.map nat).drop ((zNq i).toNat*1)).headD .any=nat (l.getD i 0):=by
 have e:(zNq i).toNat=i:=rfl;rw[e,amH,←List.map_drop,am1 h,amt,ao9,alD,alK h];rfl
def Y9:List FuncId:=[249,250,192,255,218]
def jL(l:Lk)(body k:Nat):Prop:=body<l.bs.length∧k<(l.bs.getD body default).bC.length
def kE(l:Lk)(g:Gp)(k body:Nat):Mk:=if(fR l g k).a=body then dP l body (fR l g k).p else dP l body (fR l g k).on
def jG(l:Lk)(g:Gp)(a:As)(k body:Nat):Pt:=if(fR l g k).a=body then b9 l a (fR l g k).b (fR l g k).on else b9 l a (fR l g k).a (fR l g k).p
theorem gd{i j:Nat}(h:i=j):(zNq i==zNq j)=true:=by subst h;simp
theorem eJ{i j:Nat}(h:i≠j):(zNq i==zNq j)=false:=by
 rw[beq_eq_false_iff_ne];intro e;exact h (Int.ofNat.inj e)
theorem aiQ(b:aa G)(l:Lk)(g:Gp)(a:As){k body:Nat}(j:k<g.js.length)(i:g.js.getD k 0<l.js.length)
  (v:(fR l g k).a=body→jL l body (fR l g k).p∧jL l (fR l g k).b (fR l g k).on∧(fR l g k).b<a.bs.length∧xe G l a (fR l g k).b (fR l g k).on)
  (u:(fR l g k).a≠body→jL l body (fR l g k).on∧jL l (fR l g k).a (fR l g k).p∧(fR l g k).a<a.bs.length∧xe G l a (fR l g k).a (fR l g k).p):
  fF zZq G f192 [.ptr 0 0,nat k,nat body] (iH l g a) (.aY [PcD (kE l g k body).x (kE l g k body).y,iX (jG l g a k body)]) (iH l g a):=by
 have q:=sR j;have p:=sS j;have s:=xJ j;have o:=aC br (by omega) i
 have n:=av br (by omega) i
 have r:=cg br i default;unfold kE jG;by_cases h:(fR l g k).a=body
 ·obtain⟨d,c,f,e⟩:=v h
  rw[apB h,apB h];have m:=mK b l g a d.1 d.2;have pl:=rE b l g a c.1 c.2 f e;exact fF.aq b (ax Y9) _ (ro:=[998]) (m:=60) [.er 19 (nat k),.prop q,.prop p,.eq 21 s,.prop o,.prop n,.eq 23 r,.eb 27 (gd h),.aT func249 m,.aT func250 pl]
 ·obtain⟨d,c,f,e⟩:=u h
  rw[apA h,apA h];have m:=mK b l g a d.1 d.2;have pl:=rE b l g a c.1 c.2 f e;exact fF.aq b (ax Y9) _ (ro:=[998]) (m:=60) [.er 19 (nat k),.prop q,.prop p,.eq 21 s,.prop o,.prop n,.eq 23 r,.eb 27 (eJ h),.aT func249 m,.aT func250 pl]
theorem aiR(b:aa G)(l:Lk)(g:Gp)(a:As){body:Nat}(d:2<g.js.length)(c:g.js.getD 2 0<l.js.length)
  (n:(fR l g 2).a=body→jL l body (fR l g 2).p) (k:(fR l g 2).a≠body→jL l body (fR l g 2).on):
  fF zZq G f255 [.ptr 0 0,nat body] (iH l g a) (PcD (kE l g 2 body).x (kE l g 2 body).y) (iH l g a):=by
 have j:=sR d;have i:=sS d;have p:=xJ d;have f:=aC br (by omega) c
 have e:=av br (by omega) c
 have o:=cg br c default;have q:(iH l g a).headD .any=(iH l g a).headD .any:=rfl;unfold kE;by_cases h:(fR l g 2).a=body
 ·rw[apB h]
  have m:=mK b l g a (n h).1 (n h).2;exact fF.aq b (ax Y9) _ (ro:=[998]) (m:=60) [.er 15 (mP g.js),.prop j,.prop i,.eq 17 p,.prop f,.prop e,.eq 19 o,.eb 23 (gd h),.aT func249 m]
 ·rw[apA h]
  have m:=mK b l g a (k h).1 (k h).2;exact fF.aq b (ax Y9) _ (ro:=[998]) (m:=60) [.er 15 (mP g.js),.prop j,.prop i,.eq 17 p,.prop f,.prop e,.eq 19 o,.eb 23 (eJ h),.aT func249 m]
abbrev Qk(q:Rat):Prop:=gU KB q
theorem aeC(c:aa G){x y:Rat}(b:Qk x)(a:Qk y):Spec zZq G 70 [F x,F y] (F (x-y)):=J2 c b.tW a.tW (alE _) (alE _)
theorem aeD(c:aa G){x y:Rat}(b:Qk x)(a:Qk y):Spec zZq G 112 [F x,F y] (F (x+y)):=vu c b.tW a.tW (alE _) (alE _)
theorem R6(c:aa G){x y:Rat}(b:Qk x)(a:Qk y):Spec zZq G 45 [F x,F y] (F (x*y)):=DD c b.tW a.tW (alE _) (alE _)
theorem afy(b:aa G){x:Rat}(a:Qk x){z:Int}(e:rW x=z):Spec zZq G 43 [F x] (int z):=e▸tx b a.tW (alE _)
structure V2 where
 x:Rat
 y:Rat
def V2.sub(p q:V2):V2:=⟨p.1-q.1,p.2-q.2⟩
def V2.sq(v:V2):Rat:=v.1*v.1+v.2*v.2
def V2.AH(v:V2):D:=PcD v.1 v.2
def V2.cK(v:V2):List D:=cPc v.1 v.2
structure V2.Fit(v:V2):Prop where
 x:Qk v.1
 y:Qk v.2
structure V2.wJ(v:V2):Prop where
 f:V2.Fit v
 xx:Qk (v.1*v.1)
 yy:Qk (v.2*v.2)
 s:Qk v.sq
def MX:List FuncId:=[70,112,45,43,86]
theorem gA(a:aa G){p q:V2}(c:p.Fit)(b:q.Fit):Spec zZq G 198 [p.AH,q.AH] (p.sub q).AH:=
 Spec.y a (ax MX) func198 [] [.call (aeC a c.x b.x),.call (aeC a c.y b.y)]
theorem sD(a:aa G){v:V2}(h:v.wJ):Spec zZq G 251 [v.AH] (aA (iF v.sq)):=
 Spec.y a (ax MX) func251 [] [.call (R6 a h.f.x h.f.x),.call (R6 a h.f.y h.f.y),.call (aeD a h.xx h.yy),.call (dG a h.s)]
def z5(a:aa G){v:V2}(h:v.wJ){z:Int}(e:rW v.sq=z):List (Item zZq G):=[.call (R6 a h.f.x h.f.x),.call (R6 a h.f.y h.f.y),.call (aeD a h.xx h.yy),.call (afy a h.s e)]
theorem Xo(a:aa G){v:V2}(h:v.wJ)(e:rW v.sq=1):Spec zZq G 197 [.row 1 false v.cK] (bool false):=
 Spec.y a (ax MX) func197 [] (z5 a h e) (by kernel_rfl) (by kernel_rfl)
theorem T1(a:aa G){v:V2}(h:v.wJ)(e:rW v.sq=0):Spec zZq G 197 [.row 1 false v.cK] (bool true):=
 Spec.y a (ax MX) func197 [] (z5 a h e) (by kernel_rfl) (by kernel_rfl)
theorem L6(a:aa G){v w:V2}(h:v.wJ)(e:rW v.sq=1)(b:w.wJ)(c:rW w.sq=1):Spec zZq G 197 [.row 2 false (v.cK++w.cK)] (bool false):=
 Spec.y a (ax MX) func197 [] (z5 a h e++z5 a b c) (by kernel_rfl) (by kernel_rfl)
theorem T0(a:aa G){v w:V2}(h:v.wJ)(e:rW v.sq=0):Spec zZq G 197 [.row 2 false (v.cK++w.cK)] (bool true):=
 Spec.y a (ax MX) func197 [] (z5 a h e) (by kernel_rfl) (by kernel_rfl)
theorem TZ(a:aa G){v w:V2}(h:v.wJ)(e:rW v.sq=1)(b:w.wJ)(c:rW w.sq=0):Spec zZq G 197 [.row 2 false (v.cK++w.cK)] (bool true):=
 Spec.y a (ax MX) func197 [] (z5 a h e++z5 a b c) (by kernel_rfl) (by kernel_rfl)
structure Hd where
 p:V2
 o:Pt
 c:V2
def WC(h:Hd):List D:=h.p.cK++Lu h.o++h.c.cK
def Sa(h:Hd):D:=.agg (WC h)
def Hd.v(h:Hd):V2:=h.c.sub h.p
def Hd.cr(h:Hd):Cr:=⟨h.o,iF h.v.sq⟩
theorem yc(a:aa G){h:Hd}(d:h.c.Fit)(c:h.p.Fit)(b:h.v.wJ):Spec zZq G 200 [Sa h] (LW h.cr):=
 Spec.y a (ax [198,251]) func200 [] [.call (gA a d c),.call (sD a b)]
def l_(u:V2):Pt:=xE u.1 u.2
def Cd(t:aS)(u:V2)(w:Pt):List Rat:=wu t (ta t (l_ u) w) (iF u.sq)
def Cc(t:aS)(u:V2)(w:Pt):List Rat:=wu t (kX t (l_ u) w) (iF u.sq)
def ye(t:aS)(u:V2)(w:Pt)(p:V2):Pt:=tI t (Cd t u w) (Cc t u w) (xE p.1 p.2)
def rj(t:aS)(u:V2)(w:Pt)(p:V2)(o:Pt):Pl:=⟨Cd t u w,Cc t u w,jg o.1 (ye t u w p).1,jg o.2 (ye t u w p).2⟩
structure BOk(G:World→Prop)(δ:Nat)(t:aS)(u:V2)(w:Pt)(p:V2)(o:Pt):Prop where
 hu:u.wJ
 hp:p.Fit
 dot:Spec zZq G 158 [aP t,iX (l_ u),iX w] (.aY [aA (ta t (l_ u) w),.lit .nilIface])
 crs:Spec zZq G 252 [aP t,iX (l_ u),iX w] (.aY [aA (kX t (l_ u) w),.lit .nilIface])
 d:Ok t (ta t (l_ u) w)
 c:Ok t (kX t (l_ u) w)
 n:Sc δ t (iF u.sq)
 n0:a7 t (iF u.sq)≠0
 trn:Spec zZq G 253 [aP t,aA (Cd t u w),aA (Cc t u w),iX (xE p.1 p.2)] (.aY [iX (ye t u w p),.lit .nilIface])
 ho:fP t o
 q:fP t (ye t u w p)
theorem pP(a:aa G)(b:b7 δ t){u p:V2}{w o:Pt}(h:BOk G δ t u w p o):
  fF zZq G f193 [.ptr 0 0,u.AH,iX w,p.AH,iX o] (Cl t) (jB (rj t u w p o)) (Cl t):=
 fF.aq a (ax ([251,194,158,252,253]++Er)) _ (ro:=[998]) (m:=60)
  [.call (LR a h.hu.f.x h.hu.f.y),.call (sD a h.hu),.call h.dot,.call (ud a b h.d h.n h.n0),.call h.crs,.call (ud a b h.c h.n h.n0),.call (LR a h.hp.x h.hp.y),.call h.trn,.call (bW a b h.ho.1 h.q.1),.call (bW a b h.ho.2 h.q.2)]
def nE(m:Mk):V2:=⟨m.x,m.y⟩
def NW(l:Lk)(g:Gp)(a:As)(k body:Nat):Hd:=⟨nE (kE l g k body),jG l g a k body,nE (kE l g 2 body)⟩
theorem aiC(g:aa G)(l:Lk)(a:As){kd i k j0 c b dr:Nat}
  (e:fF zZq G f192 [.ptr 0 0,nat 0,nat i] (iH l ⟨kd,[i,k],[j0,c,b],dr⟩ a) (.aY [(nE (kE l ⟨kd,[i,k],[j0,c,b],dr⟩ 0 i)).AH,iX (jG l ⟨kd,[i,k],[j0,c,b],dr⟩ a 0 i)]) (iH l ⟨kd,[i,k],[j0,c,b],dr⟩ a))
  (d:fF zZq G f192 [.ptr 0 0,nat 1,nat k] (iH l ⟨kd,[i,k],[j0,c,b],dr⟩ a) (.aY [(nE (kE l ⟨kd,[i,k],[j0,c,b],dr⟩ 1 k)).AH,iX (jG l ⟨kd,[i,k],[j0,c,b],dr⟩ a 1 k)]) (iH l ⟨kd,[i,k],[j0,c,b],dr⟩ a))
  (f:fF zZq G f255 [.ptr 0 0,nat i] (iH l ⟨kd,[i,k],[j0,c,b],dr⟩ a) (nE (kE l ⟨kd,[i,k],[j0,c,b],dr⟩ 2 i)).AH (iH l ⟨kd,[i,k],[j0,c,b],dr⟩ a))
  (o1:fF zZq G f255 [.ptr 0 0,nat k] (iH l ⟨kd,[i,k],[j0,c,b],dr⟩ a) (nE (kE l ⟨kd,[i,k],[j0,c,b],dr⟩ 2 k)).AH (iH l ⟨kd,[i,k],[j0,c,b],dr⟩ a)):
  fF zZq G f196 [.ptr 0 0] (iH l ⟨kd,[i,k],[j0,c,b],dr⟩ a) (.aY [Sa (NW l ⟨kd,[i,k],[j0,c,b],dr⟩ a 0 i),Sa (NW l ⟨kd,[i,k],[j0,c,b],dr⟩ a 1 k)]) (iH l ⟨kd,[i,k],[j0,c,b],dr⟩ a):=
 fF.aq g (ax Y9) _ (ro:=[998]) (m:=60) [.aT func192 e,.aT func192 d,.aT func255 f,.aT func255 o1]
def cSd(T:aS)(a:List Pl)(mode:Int):List D:=[.row T.length false (T.map aA),aU dw a,int mode]
structure Bdy(G:World→Prop)(δ:Nat)(T:aS)(c:Pt)(h:Hd):Prop where
 pc:fP T c
 po:fP T h.o
 hc:h.c.Fit
 hp:h.p.Fit
 b:BOk G δ T h.v (fD c h.o) h.p h.o
def sJ(T:aS)(c:Pt)(h:Hd):Pl:=rj T h.v (fD c h.o) h.p h.o
def UQ:List FuncId:=[195,312,198,193]
theorem YP(a:aa G){T:aS}(_:b7 δ T)(_:Spec zZq G 195 [aP T] (aP T)){b:Hd}:
  Spec zZq G 201 [yn T ([]),.row 1 false (WC b)] (.aY [.row 0 false [],.lit .nilIface]):=
 Spec.y a (ax UQ) func201 [34,1015010] []
theorem MU(a:aa G){T:aS}(_:b7 δ T)(_:Spec zZq G 195 [aP T] (aP T)){c b:Hd}:
  Spec zZq G 201 [yn T ([]),.row 2 false (WC c++WC b)] (.aY [.row 0 false [],.lit .nilIface]):=
 Spec.y a (ax UQ) func201 [34,1015010] []
theorem YO(b:aa G){T:aS}(c:b7 δ T)(e:Spec zZq G 195 [aP T] (aP T)){d:Hd}{c0:Pt}(a:Bdy G δ T c0 d):
  Spec zZq G 201 [yn T (Lu c0),.row 1 false (WC d)] (.aY [.row 1 false (cSd T [sJ T c0 d] 0),.lit .nilIface]):=
 Spec.y b (ax UQ) func201 [34,1015010] [.call e,.call (bW b c a.pc.1 a.po.1),.call (bW b c a.pc.2 a.po.2),.call (gA b a.hc a.hp),.aT func193 (pP b c a.b)]
theorem YN(a:aa G){T:aS}(d:b7 δ T)(g:Spec zZq G 195 [aP T] (aP T)){f e:Hd}{c0:Pt}(c:Bdy G δ T c0 f)(b:Bdy G δ T c0 e):
  Spec zZq G 201 [yn T (Lu c0),.row 2 false (WC f++WC e)] (.aY [.row 1 false (cSd T [sJ T c0 f,sJ T c0 e] 0),.lit .nilIface]):=
 Spec.y a (ax UQ) func201 [34,1015010] [.call g,.call (bW a d c.pc.1 c.po.1),.call (bW a d c.pc.2 c.po.2),.call (gA a c.hc c.hp),.aT func193 (pP a d c.b),.call (bW a d b.pc.1 b.po.1),.call (bW a d b.pc.2 b.po.2),.call (gA a b.hc b.hp),.aT func193 (pP a d b.b)]
theorem YM(a:aa G){T:aS}(d:b7 δ T)(g:Spec zZq G 195 [aP T] (aP T)){e:Hd}{c0 f:Pt}(c:Bdy G δ T c0 e)(b:Bdy G δ T f e):
  Spec zZq G 201 [yn T (Lu c0++Lu f),.row 1 false (WC e)] (.aY [.row 2 false (cSd T [sJ T c0 e] 1++cSd T [sJ T f e] (-1)),.lit .nilIface]):=
 Spec.y a (ax UQ) func201 [34,1015010] [.call g,.call (bW a d c.pc.1 c.po.1),.call (bW a d c.pc.2 c.po.2),.call (gA a c.hc c.hp),.aT func193 (pP a d c.b),.call g,.call (bW a d b.pc.1 b.po.1),.call (bW a d b.pc.2 b.po.2),.call (gA a b.hc b.hp),.aT func193 (pP a d b.b)]
theorem YL(a:aa G){T:aS}(b:b7 δ T)(j:Spec zZq G 195 [aP T] (aP T)){h g:Hd}{c0 i:Pt}(e:Bdy G δ T c0 h)(c:Bdy G δ T c0 g)(d:Bdy G δ T i h)(f:Bdy G δ T i g):
  Spec zZq G 201 [yn T (Lu c0++Lu i),.row 2 false (WC h++WC g)] (.aY [.row 2 false (cSd T [sJ T c0 h,sJ T c0 g] 1++cSd T [sJ T i h,sJ T i g] (-1)),.lit .nilIface]):=
 Spec.y a (ax UQ) func201 [34,1015010] [.call j,.call (bW a b e.pc.1 e.po.1),.call (bW a b e.pc.2 e.po.2),.call (gA a e.hc e.hp),.aT func193 (pP a b e.b),.call (bW a b c.pc.1 c.po.1),.call (bW a b c.pc.2 c.po.2),.call (gA a c.hc c.hp),.aT func193 (pP a b c.b),.call j,.call (bW a b d.pc.1 d.po.1),.call (bW a b d.pc.2 d.po.2),.call (gA a d.hc d.hp),.aT func193 (pP a b d.b),.call (bW a b f.pc.1 f.po.1),.call (bW a b f.pc.2 f.po.2),.call (gA a f.hc f.hp),.aT func193 (pP a b f.b)]
def QQ:D:=.row 0 true []
structure Tn where
 t:Rat
 half:Bool
def EF(x:Tn):D:=.agg (cF x.t++[bool x.half])
def opsV:List FuncId:=[163,164,192,196,28,194,193,195,198,197,200,199,203,201]
def G1(l:Lk)(a:As)(g:Gp)(b:Nat)(c s:Rat):Pl:=rj a.t ⟨((1:Int):Rat),0⟩ (xE c s) (nE (kE l g 0 b)) (jG l g a 0 b)
theorem aa2(e:aa G)(l:Lk)(a:As){kd b j d:Nat}{x:Tn}{c s:Rat}(n:b7 δ a.t)(h:Qk c)(g:Qk s)
  (cos:Spec zZq G 163 [EF x] (.aY [F c,.lit .nilIface])) (sin:Spec zZq G 164 [EF x] (.aY [F s,.lit .nilIface]))
  (f:fF zZq G f192 [.ptr 0 0,nat 0,nat b] (iH l ⟨kd,[b],[j],d⟩ a) (.aY [(nE (kE l ⟨kd,[b],[j],d⟩ 0 b)).AH,iX (jG l ⟨kd,[b],[j],d⟩ a 0 b)]) (iH l ⟨kd,[b],[j],d⟩ a))
  (p:BOk G δ a.t ⟨((1:Int):Rat),0⟩ (xE c s) (nE (kE l ⟨kd,[b],[j],d⟩ 0 b)) (jG l ⟨kd,[b],[j],d⟩ a 0 b))
  (o:Spec zZq G 195 [aP a.t] (aP a.t)):
  fF zZq G f149 [.ptr 0 0,EF x] (iH l ⟨kd,[b],[j],d⟩ a) (.aY [.row 1 true (cSd a.t [G1 l a ⟨kd,[b],[j],d⟩ b c s] 1),.lit .nilIface]) (iH l ⟨kd,[b],[j],d⟩ a):=
 fF.aq e (ax opsV) _ (ro:=[998]) (m:=60) [.call cos,.call sin,.aT func192 f,.call (dA e (i:=1) (by omega) (by omega)),.call (LR e h g),.aT func193 (pP e n p),.call o]
section
variable (l:Lk) (a:As) {kd i k j0 j1 j2 dr:Nat} {A B:Hd}
theorem Kk(b:aa G){T:aS}{c cs:List D}{n:Nat}
  (j:fF zZq G f196 [.ptr 0 0] (iH l ⟨kd,[i,k],[j0,j1,j2],dr⟩ a) (.aY [Sa A,Sa B]) (iH l ⟨kd,[i,k],[j0,j1,j2],dr⟩ a))
  (a1:A.c.Fit) (h:A.p.Fit) (g:A.v.wJ) (p:rW A.v.sq=1) (f:B.c.Fit) (e:B.p.Fit) (d:B.v.wJ) (o:rW B.v.sq=1)
  (ci:Spec zZq G 199 [aP a.t,LW A.cr,LW B.cr] (.aY [yn T c,.lit .nilIface])) (pl:Spec zZq G 201 [yn T c,.row 2 false (WC A++WC B)] (.aY [.row n false cs,.lit .nilIface])):
  fF zZq G f150 [.ptr 0 0] (iH l ⟨kd,[i,k],[j0,j1,j2],dr⟩ a) (.aY [.row n false cs,.lit .nilIface]) (iH l ⟨kd,[i,k],[j0,j1,j2],dr⟩ a):=
 fF.aq b (ax opsV) _ (ro:=[998]) (m:=60) [.aT func196 j,.call (gA b a1 h),.call (gA b f e),.call (L6 b g p d o),.call (yc b a1 h g),.call (yc b f e d),.call ci,.call pl]
theorem Yc(b:aa G)
  (h:fF zZq G f196 [.ptr 0 0] (iH l ⟨kd,[i,k],[j0,j1,j2],dr⟩ a) (.aY [Sa A,Sa B]) (iH l ⟨kd,[i,k],[j0,j1,j2],dr⟩ a))
  (a1:A.c.Fit) (g:A.p.Fit) (f:A.v.wJ) (n:rW A.v.sq=1) (e:B.c.Fit) (d:B.p.Fit) (c:B.v.wJ) (j:rW B.v.sq=1)
  (ci:Spec zZq G 199 [aP a.t,LW A.cr,LW B.cr] (.aY [.agg [.row 0 false [],.row 0 false []],e_ 15])):
  fF zZq G f150 [.ptr 0 0] (iH l ⟨kd,[i,k],[j0,j1,j2],dr⟩ a) (.aY [QQ,e_ 15]) (iH l ⟨kd,[i,k],[j0,j1,j2],dr⟩ a):=
 fF.aq b (ax opsV) _ (ro:=[998]) (m:=60) [.aT func196 h,.call (gA b a1 g),.call (gA b e d),.call (L6 b f n c j),.call (yc b a1 g f),.call (yc b e d c),.call ci]
theorem MD(b:aa G)
  (c:fF zZq G f196 [.ptr 0 0] (iH l ⟨kd,[i,k],[j0,j1,j2],dr⟩ a) (.aY [Sa A,Sa B]) (iH l ⟨kd,[i,k],[j0,j1,j2],dr⟩ a))
  (a1:A.c.Fit) (f:A.p.Fit) (e:B.c.Fit) (d:B.p.Fit) (z:Spec zZq G 197 [.row 2 false (A.v.cK++B.v.cK)] (bool true)):
  fF zZq G f150 [.ptr 0 0] (iH l ⟨kd,[i,k],[j0,j1,j2],dr⟩ a) (.aY [QQ,e_ 15]) (iH l ⟨kd,[i,k],[j0,j1,j2],dr⟩ a):=
 fF.aq b (ax opsV) _ (ro:=[998]) (m:=60) [.aT func196 c,.call (gA b a1 f),.call (gA b e d),.call z]
end
end Tw
end Lw
