/- Part 19. -/
import Derived.Test.YtmcpfihkambgnaaGreatLw18
import Derived.Test.YtmcpfihkambgnaaGreatRows
open Int renaming ofNat→zNq
open Go.Proofs.Tryz renaming prog→zZq
open Go.Proofs.Tryz
namespace Lw
open Go Go.RowKit Go.Proofs
namespace Tw
variable {G:World→Prop}
def FL(p q:EG):Bool:=(Dl p.x.q q.x.q==0)&&(Dl p.y.q q.y.q==0)
theorem af2(a:aa G){p q:EG}(d:p.Ok)(c:q.Ok):Spec zZq G 141 [.agg (px p),.agg (px q)] (bool (FL p q)):=by
 obtain⟨k1,a1,n⟩:=d.x;obtain⟨k2,h,m⟩:=d.y;obtain⟨k3,g,k⟩:=c.x;obtain⟨k4,d1,d2⟩:=c.y;have cx:=HA (G:=G) a (Raw.ok.tW a1) (Raw.ok.tW g) (by omega)
 have f:=HA (G:=G) a (Raw.ok.tW h) (Raw.ok.tW d1) (by omega)
 unfold FL;cases b:Dl p.x.q q.x.q==0 with
 |true=>cases e:Dl p.y.q q.y.q==0 with
  |true=>exact Spec.r a func141 [2,3] [.call cx,.eb 10 b,.call f,.eb 17 e]
  |false=>exact Spec.r a func141 [2,3] [.call cx,.eb 10 b,.call f,.eb 17 e]
 |false=>exact Spec.r a func141 [2,3] [.call cx,.eb 10 b]
section
variable {l:pS} {i j:Nat}
def pz(l:pS)(b:Int):List EG:=(l.bs.getD b.toNat default).bC
def jtF(l:pS)(j:PK):Nat:=
 if(j.kind !=0)=true∧(j.kind !=1)=true then 7
 else if uz j.a l.bs.length=false∨uz j.b l.bs.length=false then 9
 else if(j.a==j.b)=true then 13
 else if uz j.p (pz l j.a).length=false∨uz j.on (pz l j.b).length=false then 9
 else if(j.kind==0)=true then(if(j.to !=0)=true then 2 else 0)
 else if uz j.to (pz l j.b).length=false then 9
 else if FL ((pz l j.b).getD j.on.toNat default) ((pz l j.b).getD j.to.toNat default)=true then 8 else 0
def Q9(l:pS)(i:Nat):Nat:=
 if oe (l.js.getD i default).nm=false then 5
 else if Dc (l.js.map PK.nm) i=true then 6
 else jtF l (l.js.getD i default)
def jtS(l:pS)(i j:Nat):St:=lay 112 [(1,nat i),(2,.aV (tf l)),(5,.ptr 0 0),(6,nat j)] [(0,Dn (l.js.getD i default))]
def ajd(n:Nat):St:=lay 112 [(4,nat n)] []
theorem Z0(h:j<l.js.length):((0:Int)≤zNq j∧zNq j<(l.js.length:Int))∧(zNq j).toNat*7<(l.js.flatMap Dn).length:=aC jX (by omega) h
theorem NF(d:aa G)(a:j<i)(f:i<l.js.length)(g:l.js.length≤1000)(h:fX (l.js.getD j default).nm (l.js.getD i default).nm=false):
  ak zZq G 0 (ah f76 0) (jtS l i j) .normal (jtS l i (j+1)):=by
 have c:=Z0 (l:=l) (j:=j) (by omega)
 have b:=bH jX (i:=j) (l:=l.js) (by omega) 0 (by omega)
 have e:=jA jX (i:=j) (l:=l.js) (by omega) default 0 (by omega)
 exact ak.r d [.eb 20 (ay a),.er 25 (nat j),.prop c,.prop b,.eq 28 e,.eq 31 (m6 h),.eq 22 (bQ (aI a (by omega)))]
theorem ag4(a:aa G):ak zZq G 0 (ah f76 0) (jtS l i i) (.exit 0) (jtS l i i):=
 ak.r a [.eb 20 (aH (alE i))]
theorem ag5(d:aa G)(c:j<i)(f:i<l.js.length)(h:fX (l.js.getD j default).nm (l.js.getD i default).nm=true):
  ak zZq G 0 (ah f76 0) (jtS l i j) .ret (ajd 6):=by
 have b:=Z0 (l:=l) (j:=j) (by omega)
 have a:=bH jX (i:=j) (l:=l.js) (by omega) 0 (by omega)
 have e:=jA jX (i:=j) (l:=l.js) (by omega) default 0 (by omega)
 exact ak.r d [.eb 20 (ay c),.er 25 (nat j),.prop b,.prop a,.eq 28 e,.eq 31 (m6 h)]
theorem sY{x:Int}{n:Nat}(h:uz x n=true):∃m:Nat,x=zNq m∧m<n:=by
 unfold uz at h;rw[Bool.and_eq_true,decide_eq_true_eq,decide_eq_true_eq]at h;exact⟨x.toNat,by simp;omega,by have:=h.2;simp at this;omega⟩
theorem Du{x y:Bool}(h:¬(x=false∨y=false)):x=true∧y=true:=by cases x<;>cases y<;>simp_all
end
section
variable {l:pS} {i j:Nat}
theorem zU{b:Nat}(h:b<l.bs.length):((0:Int)≤zNq b∧zNq b<(l.bs.length:Int))∧(zNq b).toNat*2<(l.bs.flatMap rJ).length:=aC bB (by omega) h
theorem adL(c:aa G)(J:i<l.js.length)(O:l.js.length≤1000)(ok:l.Ok):Spec zZq G 76 [Ci l,nat i] (nat (Q9 l i)):=by
 have s:=Z0 J;have r:=av jX (by omega) J
 have t:=cg jX J default;have f:=DB c (ok.js _ (aN J default));have X:=mw PK.nm default J;have Y:∀j,(jtS l i j).tmps.length=112:=fun j=>af ..
 unfold Q9;split
 ·rename_i U
  rw[U]at f;exact Spec.r c func76 [2] [.er 11 (nat i),.prop s,.prop r,.eq 13 t,.call f]
 ·rename_i U
  have HM:oe (l.js.getD i default).nm=true:=by simpa using U
  rw[HM]at f;split
  ·rename_i T
   obtain⟨j,d1,d2,d3⟩:∃j,j<i∧fX (l.js.getD j default).nm (l.js.getD i default).nm=true∧∀k,k<j→fX (l.js.getD k default).nm (l.js.getD i default).nm=false:=by
    rcases X with⟨H,-⟩|⟨-,H⟩
    ·rw[T]at H;cases H
    ·exact H
   have q:=bT.count (P:=zZq) (Good:=G) (gb:=0) (body:=ah f76 0) (e:=.ret) (s':=ajd 6) (fun j=>jtS l i j) j Y (by intro h;cases h) (fun k w=>NF c (by omega) J O (d3 k w)) (ag5 c d1 J d2)
   exact Spec.r c func76 [2] [.er 11 (nat i),.prop s,.prop r,.eq 13 t,.call f,.code q]
  ·rename_i T
   have To:Dc (l.js.map PK.nm) i=false:=by simpa using T
   have hd:∀j,j<i→fX (l.js.getD j default).nm (l.js.getD i default).nm=false:=by
    rcases X with⟨-,H⟩|⟨H,-⟩
    ·exact H
    ·rw[To]at H;cases H
   have q:=bT.count (P:=zZq) (Good:=G) (gb:=0) (body:=ah f76 0) (e:=.exit 0) (s':=jtS l i i) (fun j=>jtS l i j) i Y (by intro h;cases h) (fun k w=>NF c w J O (hd k w)) (ag4 c)
   clear X Y hd U T To;unfold jtS at q;unfold jtF;generalize l.js.getD i default=jt at*;obtain⟨nj,N,a,p,b,on,to⟩:=jt;simp only at HM f⊢;have g:=oN c a l.bs.length;have ib:=oN c b l.bs.length;by_cases w:(N !=0)=true∧(N !=1)=true
   ·rw[apB w]
    have k0:=w.1;have k1:=w.2;exact Spec.r c func76 [2] [.er 11 (nat i),.prop s,.prop r,.eq 13 t,.call f,.code q,.eb 34 k0,.eb 38 k1]
   rw[apA w];have kc:(N=0)∨(N=1):=by
    by_cases q0:N=0
    ·exact .inl q0
    ·by_cases q1:N=1
     ·exact .inr q1
     ·exact apC ⟨bne_iff_ne.2 q0,bne_iff_ne.2 q1⟩ w
   clear w;rcases kc with rfl|rfl
   ·by_cases y:uz a l.bs.length=false∨uz b l.bs.length=false
    ·rw[apB y]
     cases d:uz a l.bs.length with
     |false=>
      rw[d]at g;exact Spec.r c func76 [2] [.er 11 (nat i),.prop s,.prop r,.eq 13 t,.call f,.code q,.call g]
     |true=>
      have v:uz b l.bs.length=false:=y.resolve_left (by rw[d];simp)
      rw[d]at g;rw[v]at ib;exact Spec.r c func76 [2] [.er 11 (nat i),.prop s,.prop r,.eq 13 t,.call f,.code q,.call g,.call ib]
    rw[apA y];obtain⟨d,v⟩:=Du y;rw[d]at g;rw[v]at ib;obtain⟨an,rfl,L⟩:=sY d;obtain⟨n,rfl,I⟩:=sY v;clear y d v;by_cases m:(zNq an==zNq n)=true
    ·rw[apB m]
     exact Spec.r c func76 [2] [.er 11 (nat i),.prop s,.prop r,.eq 13 t,.call f,.code q,.call g,.call ib,.eb 60 m]
    rw[apA m];have m:(zNq an==zNq n)=false:=by simpa using m
    have W:pz l (zNq an)=(l.bs.getD an default).bC:=rfl;have eb:pz l (zNq n)=(l.bs.getD n default).bC:=rfl;rw[W,eb];have a1:=zU L;have F:=bH bB L 1 (by omega)
    have E:=jA bB L default 1 (by omega)
    have D:=zU I;have C:=bH bB I 1 (by omega)
    have z:=jA bB I default 1 (by omega)
    have K:=(ok.bs _ (aN I default)).bC;generalize(l.bs.getD an default)=A at*;generalize(l.bs.getD n default)=B at*;have ip:=oN c p A.bC.length;have io:=oN c on B.bC.length;have it:=oN c to B.bC.length;by_cases x:uz p A.bC.length=false∨uz on B.bC.length=false
    ·rw[apB x]
     cases d:uz p A.bC.length with
     |false=>
      rw[d]at ip;exact Spec.r c func76 [2] [.er 11 (nat i),.prop s,.prop r,.eq 13 t,.call f,.code q,.call g,.call ib,.eb 60 m,.er 64 (nat an),.prop a1,.prop F,.eq 67 E,.er 71 (nat n),.prop D,.prop C,.eq 74 z,.call ip]
     |true=>
      have v:uz on B.bC.length=false:=x.resolve_left (by rw[d];simp)
      rw[d]at ip;rw[v]at io;exact Spec.r c func76 [2] [.er 11 (nat i),.prop s,.prop r,.eq 13 t,.call f,.code q,.call g,.call ib,.eb 60 m,.er 64 (nat an),.prop a1,.prop F,.eq 67 E,.er 71 (nat n),.prop D,.prop C,.eq 74 z,.call ip,.call io]
    rw[apA x];obtain⟨V,S⟩:=Du x;rw[V]at ip;rw[S]at io;clear x;rw[apB (show((0:Int)==0)=true from rfl)]
    cases M:(to !=0)with
    |true=>
     rw[apB rfl];exact Spec.r c func76 [2] [.er 11 (nat i),.prop s,.prop r,.eq 13 t,.call f,.code q,.call g,.call ib,.eb 60 m,.er 64 (nat an),.prop a1,.prop F,.eq 67 E,.er 71 (nat n),.prop D,.prop C,.eq 74 z,.call ip,.call io,.eb 94 M]
    |false=>
     rw[apA (by simp)]
     exact Spec.r c func76 [2] [.er 11 (nat i),.prop s,.prop r,.eq 13 t,.call f,.code q,.call g,.call ib,.eb 60 m,.er 64 (nat an),.prop a1,.prop F,.eq 67 E,.er 71 (nat n),.prop D,.prop C,.eq 74 z,.call ip,.call io,.eb 94 M]
   ·by_cases y:uz a l.bs.length=false∨uz b l.bs.length=false
    ·rw[apB y]
     cases d:uz a l.bs.length with
     |false=>
      rw[d]at g;exact Spec.r c func76 [2] [.er 11 (nat i),.prop s,.prop r,.eq 13 t,.call f,.code q,.call g]
     |true=>
      have v:uz b l.bs.length=false:=y.resolve_left (by rw[d];simp)
      rw[d]at g;rw[v]at ib;exact Spec.r c func76 [2] [.er 11 (nat i),.prop s,.prop r,.eq 13 t,.call f,.code q,.call g,.call ib]
    rw[apA y];obtain⟨d,v⟩:=Du y;rw[d]at g;rw[v]at ib;obtain⟨an,rfl,L⟩:=sY d;obtain⟨n,rfl,I⟩:=sY v;clear y d v;by_cases m:(zNq an==zNq n)=true
    ·rw[apB m]
     exact Spec.r c func76 [2] [.er 11 (nat i),.prop s,.prop r,.eq 13 t,.call f,.code q,.call g,.call ib,.eb 60 m]
    rw[apA m];have m:(zNq an==zNq n)=false:=by simpa using m
    have W:pz l (zNq an)=(l.bs.getD an default).bC:=rfl;have eb:pz l (zNq n)=(l.bs.getD n default).bC:=rfl;rw[W,eb];have a1:=zU L;have F:=bH bB L 1 (by omega)
    have E:=jA bB L default 1 (by omega)
    have D:=zU I;have C:=bH bB I 1 (by omega)
    have z:=jA bB I default 1 (by omega)
    have K:=(ok.bs _ (aN I default)).bC;generalize(l.bs.getD an default)=A at*;generalize(l.bs.getD n default)=B at*;have ip:=oN c p A.bC.length;have io:=oN c on B.bC.length;have it:=oN c to B.bC.length;by_cases x:uz p A.bC.length=false∨uz on B.bC.length=false
    ·rw[apB x]
     cases d:uz p A.bC.length with
     |false=>
      rw[d]at ip;exact Spec.r c func76 [2] [.er 11 (nat i),.prop s,.prop r,.eq 13 t,.call f,.code q,.call g,.call ib,.eb 60 m,.er 64 (nat an),.prop a1,.prop F,.eq 67 E,.er 71 (nat n),.prop D,.prop C,.eq 74 z,.call ip]
     |true=>
      have v:uz on B.bC.length=false:=x.resolve_left (by rw[d];simp)
      rw[d]at ip;rw[v]at io;exact Spec.r c func76 [2] [.er 11 (nat i),.prop s,.prop r,.eq 13 t,.call f,.code q,.call g,.call ib,.eb 60 m,.er 64 (nat an),.prop a1,.prop F,.eq 67 E,.er 71 (nat n),.prop D,.prop C,.eq 74 z,.call ip,.call io]
    rw[apA x];obtain⟨V,S⟩:=Du x;rw[V]at ip;rw[S]at io;clear x;rw[apA (show¬((1:Int)==0)=true by decide)]
    by_cases M:uz to B.bC.length=false
    ·rw[apB M]
     rw[M]at it;exact Spec.r c func76 [2] [.er 11 (nat i),.prop s,.prop r,.eq 13 t,.call f,.code q,.call g,.call ib,.eb 60 m,.er 64 (nat an),.prop a1,.prop F,.eq 67 E,.er 71 (nat n),.prop D,.prop C,.eq 74 z,.call ip,.call io,.call it]
    rw[apA M];have hT:uz to B.bC.length=true:=by simpa using M
    rw[hT]at it;obtain⟨o,rfl,R⟩:=sY S;obtain⟨u,rfl,hu⟩:=sY hT;have eo:(zNq o).toNat=o:=rfl;have eu:(zNq u).toNat=u:=rfl;rw[eo,eu];have o1:=aC bK (by omega) R
    have o2:=av bK (by omega) R
    have o3:=cg bK R default;have u1:=aC bK (by omega) hu
    have u2:=av bK (by omega) hu
    have Z:=cg bK hu default;have Q:=af2 c (K _ (aN R default)) (K _ (aN hu default));cases O:FL (B.bC.getD o default) (B.bC.getD u default)with
    |true=>
     rw[apB rfl];rw[O]at Q;exact Spec.r c func76 [2] [.er 11 (nat i),.prop s,.prop r,.eq 13 t,.call f,.code q,.call g,.call ib,.eb 60 m,.er 64 (nat an),.prop a1,.prop F,.eq 67 E,.er 71 (nat n),.prop D,.prop C,.eq 74 z,.call ip,.call io,.call it,.er 103 (nat o),.prop o1,.prop o2,.eq 105 o3,.er 108 (nat u),.prop u1,.prop u2,.eq 110 Z,.call Q]
    |false=>
     rw[apA (by simp)]
     rw[O]at Q;exact Spec.r c func76 [2] [.er 11 (nat i),.prop s,.prop r,.eq 13 t,.call f,.code q,.call g,.call ib,.eb 60 m,.er 64 (nat an),.prop a1,.prop F,.eq 67 E,.er 71 (nat n),.prop D,.prop C,.eq 74 z,.call ip,.call io,.call it,.er 103 (nat o),.prop o1,.prop o2,.eq 105 o3,.er 108 (nat u),.prop u1,.prop u2,.eq 110 Z,.call Q]
end
section
variable {l:pS} {i:Nat}
def ckJ(l:pS)(i:Nat):St:=lay 59 [(1,.aV (tf l)),(4,nat i)] []
def ckD(l:pS)(i:Nat):St:=lay 59 [(1,.aV (tf l)),(6,nat i)] []
def ckR(n:Nat):St:=lay 59 [(2,nat n)] []
theorem Nf{z:Nat}(h:z=0):(zNq z !=zNq 0)=false:=by rw[h];rfl
theorem RM(d:aa G)(a:i<l.js.length)(e:l.js.length≤1000)(ok:l.Ok):(Q9 l i=0→ak zZq G 0 (ah f30 0) (ckJ l i) .normal (ckJ l (i+1)))∧(Q9 l i≠0→ak zZq G 0 (ah f30 0) (ckJ l i) .ret (ckR (Q9 l i))):=by
 have c:=adL d a e ok;generalize Q9 l i=z at c;exact⟨fun h=>ak.r d [.eb 33 (ay a),.call c,.eb 40 (Nf h),.eq 35 (bQ (aI a (by omega)))],
  fun h=>ak.r d [.eb 33 (ay a),.call c,.eb 40 (ET (b:=0) h)]⟩
theorem ahH(a:aa G):ak zZq G 0 (ah f30 0) (ckJ l l.js.length) (.exit 0) (ckJ l l.js.length):=
 ak.r a [.eb 33 (aH (alE l.js.length))]
theorem RS(d:aa G)(a:i<l.ds.length)(e:l.ds.length≤1000)(ok:l.Ok):(TA l i=0→ak zZq G 0 (ah f30 1) (ckD l i) .normal (ckD l (i+1)))∧(TA l i≠0→ak zZq G 0 (ah f30 1) (ckD l i) .ret (ckR (TA l i))):=by
 have c:=aa1 d a e ok;generalize TA l i=z at c;exact⟨fun h=>ak.r d [.eb 50 (ay a),.call c,.eb 57 (Nf h),.eq 52 (bQ (aI a (by omega)))],
  fun h=>ak.r d [.eb 50 (ay a),.call c,.eb 57 (ET (b:=0) h)]⟩
theorem ahI(a:aa G):ak zZq G 0 (ah f30 1) (ckD l l.ds.length) (.exit 2) (ckD l l.ds.length):=
 ak.r a [.eb 50 (aH (alE l.ds.length))]
def Ta(l:pS):Nat:=
 if oe l.nm=false then 5
 else if l.bs.length=0 then 10
 else if 8<l.bs.length then 4
 else if Pq l.bs≠0 then Pq l.bs
 else if 16<l.js.length then 4
 else if kV (Q9 l) l.js.length≠0 then kV (Q9 l) l.js.length
 else if 2<l.ds.length then 4
 else kV (TA l) l.ds.length
theorem aeh(a:aa G)(ok:l.Ok):Spec zZq G 30 [Ci l] (nat (Ta l)):=by
 have c:=DB a ok.nm;unfold Ta;split
 ·rename_i o
  rw[o]at c;exact Spec.r a func30 [1] [.call c]
 ·rename_i o
  have t:oe l.nm=true:=by simpa using o
  rw[t]at c;split
  ·rename_i e
   exact Spec.r a func30 [1] [.call c,.eb 15 (gd e)]
  ·rename_i e
   split
   ·rename_i f
    exact Spec.r a func30 [1] [.call c,.eb 15 (eJ e),.eb 19 (s9 f)]
   ·rename_i f
    have g:=abz a (l:=l) (by omega) ok
    split
    ·rename_i m
     generalize Pq l.bs=z at g m;exact Spec.r a func30 [1] [.call c,.eb 15 (eJ e),.eb 19 (fb f),.call g,.eb 23 (ET (b:=0) m)]
    ·rename_i m
     have m:Pq l.bs=0:=by omega
     rw[m]at g;split
     ·rename_i h
      exact Spec.r a func30 [1] [.call c,.eb 15 (eJ e),.eb 19 (fb f),.call g,.eb 28 (s9 h)]
     ·rename_i h
      rcases dy (Q9 l) l.js.length with⟨f1,f2⟩|⟨i,f1,f2,f3,f4⟩
      ·rw[apA (by rw[f1];simp)]
       have j:=bT.z zZq G (ah f30 0) (.exit 0) (ckJ l l.js.length) (fun k=>ckJ l k) l.js.length (fun k d=>(RM a d (by omega) ok).1 (f2 k d)) (ahH a)
       split
       ·rename_i n
        exact Spec.r a func30 [1] [.call c,.eb 15 (eJ e),.eb 19 (fb f),.call g,.eb 28 (fb h),.code j,.eb 45 (s9 n)]
       ·rename_i n
        rcases dy (TA l) l.ds.length with⟨q,p⟩|⟨i,q,p,s,r⟩
        ·have lq:=bT.z zZq G (ah f30 1) (.exit 2) (ckD l l.ds.length) (fun k=>ckD l k) l.ds.length (fun k d=>(RS a d (by omega) ok).1 (p k d)) (ahI a)
         rw[q];exact Spec.r a func30 [1] [.call c,.eb 15 (eJ e),.eb 19 (fb f),.call g,.eb 28 (fb h),.code j,.eb 45 (fb n),.code lq]
        ·have lq:=bT.z zZq G (ah f30 1) .ret (ckR (TA l i)) (fun k=>ckD l k) i (fun k d=>(RS a (by omega) (by omega) ok).1 (r k d)) ((RS a q (by omega) ok).2 p)
         rw[s];exact Spec.r a func30 [1] [.call c,.eb 15 (eJ e),.eb 19 (fb f),.call g,.eb 28 (fb h),.code j,.eb 45 (fb n),.code lq]
      ·rw[apB (by rw[f3];exact f2),f3]
       have j:=bT.z zZq G (ah f30 0) .ret (ckR (Q9 l i)) (fun k=>ckJ l k) i (fun k d=>(RM a (by omega) (by omega) ok).1 (f4 k d)) ((RM a f1 (by omega) ok).2 f2)
       exact Spec.r a func30 [1] [.call c,.eb 15 (eJ e),.eb 19 (fb f),.call g,.eb 28 (fb h),.code j]
end
def YF{α:Type}(f:α→List D)(sz:Nat)(l:List α)(i:Nat):D:=.row i false (((l.flatMap f).drop (0*sz)).take (i*sz))
section
variable {α:Type} {f:α→List D} {sz:Nat}
theorem ade{l:List α}{i j:Nat}(a:j<i):((((l.flatMap f).drop (0*sz)).take (i*sz)).drop ((zNq j).toNat*sz)).take sz=((l.flatMap f).drop ((zNq j).toNat*sz)).take sz:=by
 have e:(zNq j).toNat=j:=rfl;rw[e,am6,amS,aox,anK];congr 1;have:j*sz+sz≤i*sz:=by
  rw[←amL];exact alV _ a
 omega
theorem F3(c:∀x,(f x).length=sz)(d:0<sz){l:List α}{i j:Nat}(a:j<i)(b:i≤l.length):((0:Int)≤zNq j∧zNq j<((i:Nat):Int))∧(zNq j).toNat*sz<(((l.flatMap f).drop (0*sz)).take (i*sz)).length:=by
 have e:(zNq j).toNat=j:=rfl;rw[e,am6,amS,alO,fJ c];refine⟨⟨by simp,by simpa using a⟩,?_⟩
 have h:j*sz<i*sz:=ani a d;have g:i*sz≤l.length*sz:=alV _ b;omega
theorem xA(c:∀x,(f x).length=sz)(h:0<sz){l:List α}{i j:Nat}(a:j<i)(b:i≤l.length):0<sz∧sz≤((((l.flatMap f).drop (0*sz)).take (i*sz)).drop ((zNq j).toNat*sz)).length:=by
 have e:(zNq j).toNat=j:=rfl;rw[e,am6,amS,alP,alO,fJ c];have g:j*sz+sz≤i*sz:=by rw[←amL];exact alV _ a
 have d:i*sz≤l.length*sz:=alV _ b;omega
theorem Bi(b:∀x,(f x).length=sz){l:List α}{i j:Nat}(a:j<i)(c:i≤l.length)(d:α):D.agg (((((l.flatMap f).drop (0*sz)).take (i*sz)).drop ((zNq j).toNat*sz)).take sz)=.agg (f (l.getD j d)):=by
 rw[ade a];exact cg b (by omega) d
end
def mbS(bs:List zB)(i:Nat):St:=lay 85 [(0,aU rJ bs),(11,aU rJ bs),(12,nat bs.length),(13,nat i)] []
def mnS(bs:List zB)(i j:Nat):St:=lay 85 [(0,aU rJ bs),(3,nat i),(4,.ptr 0 0),(11,aU rJ bs),(12,nat bs.length),(13,nat i),(25,YF rJ 2 bs i),(26,nat i),(27,nat j)] [(0,rJ (bs.getD i default))]
section
variable {bs:List zB} {i j:Nat}
theorem ZB(g:aa G)(a:j<i)(b:i<bs.length)(l:bs.length≤1000)(h:fX (bs.getD j default).nm (bs.getD i default).nm=false):
  ak zZq G 0 (ah f88 1) (mnS bs i j) .normal (mnS bs i (j+1)):=by
 have d:=F3 bB (by omega) a (amb b)
 have c:=xA bB (by omega) a (amb b)
 have e:=Bi bB a (amb b) default;exact ak.r g [.eb 28 (ay a),.prop d,.prop c,.eq 30 e,.eq 35 (m6 h),.eq 37 (bQ (aI a (by omega)))]
theorem agI(a:aa G):ak zZq G 0 (ah f88 1) (mnS bs i i) (.exit 2) (mnS bs i i):=
 ak.r a [.eb 28 (aH (alE i))]
variable {k:Nat}
def mpS(bs:List zB)(i k:Nat):St:=lay 85 [(0,aU rJ bs),(4,.ptr 0 0),(11,aU rJ bs),(12,nat bs.length),(13,nat i),(44,aU px (bs.getD i default).bC),(45,nat (bs.getD i default).bC.length),(46,nat k)] [(0,rJ (bs.getD i default))]
def mqS(bs:List zB)(i k j:Nat):St:=lay 85 [(0,aU rJ bs),(4,.ptr 0 0),(8,.ptr 1 0),(11,aU rJ bs),(12,nat bs.length),(13,nat i),(44,aU px (bs.getD i default).bC),(45,nat (bs.getD i default).bC.length),(46,nat k),(59,YF px 7 (bs.getD i default).bC k),(60,nat k),(61,nat j)] [(0,rJ (bs.getD i default)),(1,px ((bs.getD i default).bC.getD k default))]
theorem Zz(g:aa G)(a:j<k)(b:k<(bs.getD i default).bC.length)(l:(bs.getD i default).bC.length≤8)(h:fX ((bs.getD i default).bC.getD j default).nm ((bs.getD i default).bC.getD k default).nm=false):
  ak zZq G 0 (ah f88 3) (mqS bs i k j) .normal (mqS bs i k (j+1)):=by
 have d:=F3 bK (by omega) a (amb b)
 have c:=xA bK (by omega) a (amb b)
 have e:=Bi bK a (amb b) default;exact ak.r g [.eb 62 (ay a),.prop d,.prop c,.eq 64 e,.eq 69 (m6 h),.eq 71 (bQ (aI a (by omega)))]
theorem agF(a:aa G):ak zZq G 0 (ah f88 3) (mqS bs i k k) (.exit 6) (mqS bs i k k):=
 ak.r a [.eb 62 (aH (alE k))]
theorem Qu{a:List EG}(e:k<a.length)(h:Xe a k=0):oe (a.getD k default).nm=true∧(∀j,j<k→fX (a.getD j default).nm (a.getD k default).nm=false)∧(a.getD k default).x.valid=true∧(a.getD k default).y.valid=true:=by
 have o:=mw EG.nm default e;have n:(a.map fun m=>m.nm)=a.map EG.nm:=rfl
 unfold Xe at h;rw[n]at h;split at h
 ·cases h
 ·rename_i l
  split at h
  ·cases h
  ·rename_i g
   split at h
   ·cases h
   ·rename_i d
    refine⟨by simpa using l,?_,?_,?_⟩
    ·rcases o with⟨-,c⟩|⟨c,-⟩
     ·exact c
     ·exact apC c g
    ·cases b:(a.getD k default).x.valid with
     |true=>rfl
     |false=>exact apC (.inl b) d
    ·cases b:(a.getD k default).y.valid with
     |true=>rfl
     |false=>exact apC (.inr b) d
theorem ZA(b:aa G)(a:k<(bs.getD i default).bC.length)(u:(bs.getD i default).bC.length≤8)(ok:∀m∈(bs.getD i default).bC,m.Ok)(h:Xe (bs.getD i default).bC k=0):
  ak zZq G 0 (ah f88 2) (mpS bs i k) .normal (mpS bs i (k+1)):=by
 obtain⟨y,x,w,v⟩:=Qu a h;have r:=aC bK (by omega) a
 have q:=av bK (by omega) a
 have e:=cg bK a default;have g:=ok _ (aN a default);obtain⟨C,o,A⟩:=g.x;obtain⟨B,n,z⟩:=g.y;have d:=qC (G:=G) b o (by omega)
 have c:=qC (G:=G) b n (by omega)
 rw[w]at d;rw[v]at c;have s:=Ch b y;have p:(0:Int)≤0∧(0:Int)≤zNq k∧zNq k≤((bs.getD i default).bC.length:Int):=⟨aoq 0,an6 k,apb.2 (amb a)⟩;have t:=bT.z zZq G (ah f88 3) (.exit 6) (mqS bs i k k) (fun j=>mqS bs i k j) k (fun j l=>Zz b l a u (x j l)) (agF b)
 exact ak.r b [.eb 47 (ay a),.prop r,.prop q,.eq 50 e,.call s,.er 58 (nat k),.prop p,.code t,.call d,.call c,.eq 83 (bQ (aI a (by omega)))]
theorem agG(a:aa G):ak zZq G 0 (ah f88 2) (mpS bs i (bs.getD i default).bC.length) (.exit 4) (mpS bs i (bs.getD i default).bC.length):=
 ak.r a [.eb 47 (aH (alE (bs.getD i default).bC.length))]
theorem l9{f:Nat→Nat}{n:Nat}(h:kV f n=0):∀i,i<n→f i=0:=by
 rcases dy f n with⟨-,a⟩|⟨i,-,a,b,-⟩
 ·exact a
 ·rw[b]at h;exact apC h a
theorem abH(b:i<bs.length)(h:bdE bs i=0):oe (bs.getD i default).nm=true∧(∀j,j<i→fX (bs.getD j default).nm (bs.getD i default).nm=false)∧(bs.getD i default).bC.length≤8∧∀k,k<(bs.getD i default).bC.length→Xe (bs.getD i default).bC k=0:=by
 have e:=mw zB.nm default b;unfold bdE at h;split at h
 ·cases h
 ·rename_i d
  split at h
  ·cases h
  ·rename_i c
   unfold YD at h;split at h
   ·cases h
   ·rename_i g
    refine⟨by simpa using d,?_,by omega,l9 h⟩
    rcases e with⟨-,a⟩|⟨a,-⟩
    ·exact a
    ·exact apC a c
theorem ZJ(c:aa G)(a:i<bs.length)(r:bs.length≤1000)(ok:∀b∈bs,b.Ok)(h:bdE bs i=0):
  ak zZq G 0 (ah f88 0) (mbS bs i) .normal (mbS bs (i+1)):=by
 obtain⟨v,u,t,s⟩:=abH a h;have n:=aC bB (by omega) a
 have m:=av bB (by omega) a
 have e:=cg bB a default;have o:=(ok _ (aN a default)).bC;have p:=Ch c v;have l:(0:Int)≤0∧(0:Int)≤zNq i∧zNq i≤(bs.length:Int):=⟨aoq 0,an6 i,apb.2 (amb a)⟩;have q:=bT.z zZq G (ah f88 1) (.exit 2) (mnS bs i i) (fun j=>mnS bs i j) i (fun j g=>ZB c g a r (u j g)) (agI c)
 have lq:=bT.z zZq G (ah f88 2) (.exit 4) (mpS bs i (bs.getD i default).bC.length) (fun k=>mpS bs i k) (bs.getD i default).bC.length (fun k d=>ZA c d t o (s k d)) (agG c)
 exact ak.r c [.eb 14 (ay a),.prop n,.prop m,.eq 17 e,.call p,.er 24 (nat i),.prop l,.code q,.eb 41 (fb (by omega:¬8<(bs.getD i default).bC.length)),.code lq,.eq 84 (bQ (aI a (by omega)))]
theorem agP(a:aa G):ak zZq G 0 (ah f88 0) (mbS bs bs.length) (.exit 0) (mbS bs bs.length):=
 ak.r a [.eb 14 (aH (alE bs.length))]
theorem U4(a:aa G)(e:bs.length≤1000)(ok:∀b∈bs,b.Ok)(h:Pq bs=0):Spec zZq G 88 [aU rJ bs] (.lit .nilIface):=by
 have d:=bT.z zZq G (ah f88 0) (.exit 0) (mbS bs bs.length) (fun k=>mbS bs k) bs.length (fun k c=>ZJ a c e ok (l9 h k c)) (agP a)
 exact Spec.r a func88 [] [.code d]
end
theorem Vk(a:aa G){i:Int}{n:Nat}(h:uz i n=true):Spec zZq G 156 [int i,nat n] (bool true):=by
 unfold uz at h;rw[Bool.and_eq_true]at h;exact Spec.r a func156 [] [.eb 6 h.1,.eb 10 h.2]
structure HE(l:pS)(j:PK):Prop where
 kd:(j.kind=0∧j.to=0)∨(j.kind=1∧uz j.to (pz l j.b).length=true∧FL ((pz l j.b).getD j.on.toNat default) ((pz l j.b).getD j.to.toNat default)=false)
 a:uz j.a l.bs.length=true
 b:uz j.b l.bs.length=true
 ne:(j.a==j.b)=false
 p:uz j.p (pz l j.a).length=true
 on:uz j.on (pz l j.b).length=true
theorem ag6{l:pS}{j:PK}(h:jtF l j=0):HE l j:=by
 unfold jtF at h;split at h
 ·cases h
 ·rename_i g
  split at h
  ·cases h
  ·rename_i f
   split at h
   ·cases h
   ·rename_i e
    split at h
    ·cases h
    ·rename_i d
     obtain⟨a1,m⟩:=Du f;obtain⟨k,i⟩:=Du d;refine⟨?_,a1,m,by simpa using e,k,i⟩
     split at h
     ·rename_i a
      split at h
      ·cases h
      ·rename_i b
       exact .inl ⟨by simpa using a,by simpa using b⟩
     ·rename_i a
      have k1:j.kind=1:=by
       have a:j.kind≠0:=by simpa using a
       by_cases q:j.kind=1
       ·exact q
       ·exact apC ⟨bne_iff_ne.2 a,bne_iff_ne.2 q⟩ g
      split at h
      ·cases h
      ·rename_i b
       split at h
       ·cases h
       ·rename_i c
        exact .inr ⟨k1,by simpa using b,by simpa using c⟩
theorem ZD(c:aa G){l:pS}(ok:l.Ok){j:PK}(g:HE l j):Spec zZq G 155 [Ci l,.agg (Dn j)] (.lit .nilIface):=by
 obtain⟨q,a,b,ne,r,m⟩:=g;have i:=Vk c a;have ib:=Vk c b;have ip:=Vk c r;have io:=Vk c m;obtain⟨V,k,ja,p,jb,on,to⟩:=j;simp only at q a b ne r m i ib ip io;obtain⟨an,rfl,s⟩:=sY a;obtain⟨e,rfl,n⟩:=sY b;have N:pz l (zNq an)=(l.bs.getD an default).bC:=rfl;have eb:pz l (zNq e)=(l.bs.getD e default).bC:=rfl;rw[N]at r ip;rw[eb]at m io q;have a1:=zU s;have z:=bH bB s 1 (by omega)
 have y:=jA bB s default 1 (by omega)
 have x:=zU n;have w:=bH bB n 1 (by omega)
 have v:=jA bB n default 1 (by omega)
 have f:=(ok.bs _ (aN n default)).bC;generalize(l.bs.getD an default)=A at*;generalize(l.bs.getD e default)=B at*;rcases q with⟨rfl,rfl⟩|⟨rfl,F,h⟩
 ·exact Spec.r c func155 [2,3] [.call i,.call ib,.eb 38 ne,.er 43 (nat e),.prop x,.prop w,.eq 46 v,.er 52 (nat an),.prop a1,.prop z,.eq 55 y,.call ip,.call io]
 ·have it:=Vk c F
  obtain⟨o,rfl,d⟩:=sY m;obtain⟨u,rfl,hu⟩:=sY F;have M:(zNq o).toNat=o:=rfl;have L:(zNq u).toNat=u:=rfl;rw[M,L]at h;have o1:=aC bK (by omega) d
  have o2:=av bK (by omega) d
  have o3:=cg bK d default;have E:=aC bK (by omega) hu
  have D:=av bK (by omega) hu
  have C:=cg bK hu default;have k1:=f _ (aN d default);have k2:=f _ (aN hu default);generalize(B.bC.getD o default)=P at*;generalize(B.bC.getD u default)=Q at*;obtain⟨Z,K,U⟩:=k1.x;obtain⟨Y,J,T⟩:=k1.y;obtain⟨X,I,S⟩:=k2.x;obtain⟨W,H,R⟩:=k2.y;have cx:=J4 (G:=G) c (Raw.ok.tW K) (Raw.ok.tW I) (by omega) (by omega)
  have O:=J4 (G:=G) c (Raw.ok.tW J) (Raw.ok.tW H) (by omega) (by omega)
  unfold FL at h;cases t:Dl P.x.q Q.x.q==0 with
  |true=>
   rw[t,aoP]at h;exact Spec.r c func155 [2,3] [.call i,.call ib,.eb 38 ne,.er 43 (nat e),.prop x,.prop w,.eq 46 v,.er 52 (nat an),.prop a1,.prop z,.eq 55 y,.call ip,.call io,.call it,.er 84 (nat o),.prop o1,.prop o2,.eq 86 o3,.er 89 (nat u),.prop E,.prop D,.eq 91 C,.call cx,.eb 97 t,.call O,.eb 104 h]
  |false=>
   exact Spec.r c func155 [2,3] [.call i,.call ib,.eb 38 ne,.er 43 (nat e),.prop x,.prop w,.eq 46 v,.er 52 (nat an),.prop a1,.prop z,.eq 55 y,.call ip,.call io,.call it,.er 84 (nat o),.prop o1,.prop o2,.eq 86 o3,.er 89 (nat u),.prop E,.prop D,.eq 91 C,.call cx,.eb 97 t]
section
variable {l:pS} {i j:Nat}
theorem ZZ(b:i<l.js.length)(h:Q9 l i=0):oe (l.js.getD i default).nm=true∧(∀j,j<i→fX (l.js.getD j default).nm (l.js.getD i default).nm=false)∧HE l (l.js.getD i default):=by
 have e:=mw PK.nm default b;unfold Q9 at h;split at h
 ·cases h
 ·rename_i d
  split at h
  ·cases h
  ·rename_i c
   refine⟨by simpa using d,?_,ag6 h⟩
   rcases e with⟨-,a⟩|⟨a,-⟩
   ·exact a
   ·exact apC a c
theorem aa5(b:i<l.ds.length)(h:TA l i=0):oe (l.ds.getD i default).nm=true∧(∀j,j<i→fX (l.ds.getD j default).nm (l.ds.getD i default).nm=false)∧uz (l.ds.getD i default).body l.bs.length=true∧(l.ds.getD i default).body≠0∧∀j,j<i→qU l.ds i j=false:=by
 have k:=mw TV.nm default b;have m:=JU (qU l.ds i) i;unfold TA at h;split at h
 ·cases h
 ·rename_i g
  split at h
  ·cases h
  ·rename_i f
   split at h
   ·cases h
   ·rename_i e
    split at h
    ·cases h
    ·rename_i d
     split at h
     ·cases h
     ·rename_i c
      refine⟨by simpa using g,?_,by simpa using e,d,?_⟩
      ·rcases k with⟨-,a⟩|⟨a,-⟩
       ·exact a
       ·exact apC a f
      ·rcases m with⟨-,a⟩|⟨a,-⟩
       ·exact a
       ·exact apC a c
def mjS(l:pS)(i:Nat):St:=lay 49 [(1,.aV (tf l)),(14,aU Dn l.js),(15,nat l.js.length),(16,nat i)] []
def mjN(l:pS)(i j:Nat):St:=lay 49 [(1,.aV (tf l)),(3,nat i),(4,.ptr 0 0),(14,aU Dn l.js),(15,nat l.js.length),(16,nat i),(29,YF Dn 7 l.js i),(30,nat i),(31,nat j)] [(0,Dn (l.js.getD i default))]
theorem ai1(f:aa G)(a:j<i)(b:i<l.js.length)(g:l.js.length≤1000)(h:fX (l.js.getD j default).nm (l.js.getD i default).nm=false):
  ak zZq G 0 (ah f89 1) (mjN l i j) .normal (mjN l i (j+1)):=by
 have d:=F3 jX (by omega) a (amb b)
 have c:=xA jX (by omega) a (amb b)
 have e:=Bi jX a (amb b) default;exact ak.r f [.eb 32 (ay a),.prop d,.prop c,.eq 34 e,.eq 39 (m6 h),.eq 41 (bQ (aI a (by omega)))]
theorem agJ(a:aa G):ak zZq G 0 (ah f89 1) (mjN l i i) (.exit 2) (mjN l i i):=
 ak.r a [.eb 32 (aH (alE i))]
theorem ZE(b:aa G)(a:i<l.js.length)(o:l.js.length≤1000)(ok:l.Ok)(h:Q9 l i=0):
  ak zZq G 0 (ah f89 0) (mjS l i) .normal (mjS l (i+1)):=by
 obtain⟨r,q,p⟩:=ZZ a h;have g:=aC jX (by omega) a
 have f:=av jX (by omega) a
 have e:=cg jX a default;have k:=Ch b r;have n:=ZD b ok p;have d:(0:Int)≤0∧(0:Int)≤zNq i∧zNq i≤(l.js.length:Int):=⟨aoq 0,an6 i,apb.2 (amb a)⟩;have m:=bT.z zZq G (ah f89 1) (.exit 2) (mjN l i i) (fun j=>mjN l i j) i (fun j c=>ai1 b c a o (q j c)) (agJ b)
 exact ak.r b [.eb 17 (ay a),.prop g,.prop f,.eq 20 e,.call k,.er 28 (nat i),.prop d,.code m,.call n,.eq 48 (bQ (aI a (by omega)))]
theorem agK(a:aa G):ak zZq G 0 (ah f89 0) (mjS l l.js.length) (.exit 0) (mjS l l.js.length):=
 ak.r a [.eb 17 (aH (alE l.js.length))]
theorem U3(a:aa G)(b:¬16<l.js.length)(ok:l.Ok)(h:kV (Q9 l) l.js.length=0):Spec zZq G 89 [Ci l] (.lit .nilIface):=by
 have d:=bT.z zZq G (ah f89 0) (.exit 0) (mjS l l.js.length) (fun k=>mjS l k) l.js.length (fun k c=>ZE a c (by omega) ok (l9 h k c)) (agK a)
 exact Spec.r a func89 [1] [.eb 11 (fb b),.code d]
def mdS(l:pS)(i:Nat):St:=lay 72 [(1,.aV (tf l)),(15,aU zy l.ds),(16,nat l.ds.length),(17,nat i)] []
def mdN(l:pS)(i j:Nat):St:=lay 72 [(1,.aV (tf l)),(3,nat i),(4,.ptr 0 0),(15,aU zy l.ds),(16,nat l.ds.length),(17,nat i),(30,YF zy 2 l.ds i),(31,nat i),(32,nat j)] [(0,zy (l.ds.getD i default))]
def mdB(l:pS)(i j:Nat):St:=lay 72 [(1,.aV (tf l)),(4,.ptr 0 0),(15,aU zy l.ds),(16,nat l.ds.length),(17,nat i),(58,YF zy 2 l.ds i),(59,nat i),(60,nat j)] [(0,zy (l.ds.getD i default))]
theorem ai5(f:aa G)(a:j<i)(b:i<l.ds.length)(g:l.ds.length≤1000)(h:fX (l.ds.getD j default).nm (l.ds.getD i default).nm=false):
  ak zZq G 0 (ah f90 1) (mdN l i j) .normal (mdN l i (j+1)):=by
 have d:=F3 fK (by omega) a (amb b)
 have c:=xA fK (by omega) a (amb b)
 have e:=Bi fK a (amb b) default;exact ak.r f [.eb 33 (ay a),.prop d,.prop c,.eq 35 e,.eq 40 (m6 h),.eq 42 (bQ (aI a (by omega)))]
theorem agN(a:aa G):ak zZq G 0 (ah f90 1) (mdN l i i) (.exit 2) (mdN l i i):=
 ak.r a [.eb 33 (aH (alE i))]
theorem ai4(f:aa G)(a:j<i)(b:i<l.ds.length)(g:l.ds.length≤1000)(h:qU l.ds i j=false):
  ak zZq G 0 (ah f90 2) (mdB l i j) .normal (mdB l i (j+1)):=by
 have d:=F3 fK (by omega) a (amb b)
 have c:=xA fK (by omega) a (amb b)
 have e:=Bi fK a (amb b) default;exact ak.r f [.eb 61 (ay a),.prop d,.prop c,.eq 63 e,.eb 68 h,.eq 70 (bQ (aI a (by omega)))]
theorem agM(a:aa G):ak zZq G 0 (ah f90 2) (mdB l i i) (.exit 4) (mdB l i i):=
 ak.r a [.eb 61 (aH (alE i))]
theorem ZH(b:aa G)(a:i<l.ds.length)(f:l.ds.length≤1000)(h:TA l i=0):
  ak zZq G 0 (ah f90 0) (mdS l i) .normal (mdS l (i+1)):=by
 obtain⟨t,s,r,q,p⟩:=aa5 a h;have k:=aC fK (by omega) a
 have g:=av fK (by omega) a
 have e:=cg fK a default;have m:=Ch b t;have o:=Vk b r;have u:((l.ds.getD i default).body==0)=false:=by rw[beq_eq_false_iff_ne];exact q
 have d:(0:Int)≤0∧(0:Int)≤zNq i∧zNq i≤(l.ds.length:Int):=⟨aoq 0,an6 i,apb.2 (amb a)⟩;have n:=bT.z zZq G (ah f90 1) (.exit 2) (mdN l i i) (fun j=>mdN l i j) i (fun j c=>ai5 b c a f (s j c)) (agN b)
 have lq:=bT.z zZq G (ah f90 2) (.exit 4) (mdB l i i) (fun j=>mdB l i j) i (fun j c=>ai4 b c a f (p j c)) (agM b)
 exact ak.r b [.eb 18 (ay a),.prop k,.prop g,.eq 21 e,.call m,.er 29 (nat i),.prop d,.code n,.call o,.eb 53 u,.er 57 (nat i),.prop d,.code lq,.eq 71 (bQ (aI a (by omega)))]
theorem agO(a:aa G):ak zZq G 0 (ah f90 0) (mdS l l.ds.length) (.exit 0) (mdS l l.ds.length):=
 ak.r a [.eb 18 (aH (alE l.ds.length))]
theorem QW(a:aa G)(d:¬2<l.ds.length)(h:kV (TA l) l.ds.length=0):Spec zZq G 90 [Ci l] (.lit .nilIface):=by
 have c:=bT.z zZq G (ah f90 0) (.exit 0) (mdS l l.ds.length) (fun k=>mdS l k) l.ds.length (fun k b=>ZH a b (by omega) (l9 h k b)) (agO a)
 exact Spec.r a func90 [1] [.eb 12 (fb d),.code c]
theorem Gv(h:Ta l=0):oe l.nm=true∧l.bs.length≠0∧¬8<l.bs.length∧Pq l.bs=0∧¬16<l.js.length∧kV (Q9 l) l.js.length=0∧¬2<l.ds.length∧kV (TA l) l.ds.length=0:=by
 unfold Ta at h;split at h
 ·cases h
 ·rename_i g
  split at h
  ·cases h
  ·rename_i f
   split at h
   ·cases h
   ·rename_i e
    split at h
    ·rename_i b;exact apC h b
    ·rename_i b
     split at h
     ·cases h
     ·rename_i d
      split at h
      ·rename_i a;exact apC h a
      ·rename_i a
       split at h
       ·cases h
       ·rename_i c
        exact⟨by simpa using g,f,e,by omega,d,by omega,c,h⟩
theorem ZI(a:aa G)(ok:l.Ok)(h:Ta l=0):Spec zZq G 37 [Ci l] (.lit .nilIface):=by
 obtain⟨p,o,n,m,k,g,f,e⟩:=Gv h;have c:=Ch a p;have b:=U4 a (bs:=l.bs) (by omega) ok.bs m
 have j:=U3 a k ok g;have d:=QW a f e;exact Spec.r a func37 [1] [.call c,.eb 13 (eJ o),.eb 18 (fb n),.call b,.call j,.call d]
end
end Tw
end Lw
namespace Lw
open Go Go.RowKit Go.Proofs
namespace Tw
open fL
def XI(m:EG):Mk:=⟨m.nm,m.x.q,m.y.q⟩
def Ua(b:zB):Bd:=⟨b.nm,b.bC.map XI⟩
def aco(j:PK):Jt:=⟨j.nm,j.kind.toNat,j.a.toNat,j.p.toNat,j.b.toNat,j.on.toNat,j.to.toNat⟩
def Mi(d:TV):Dr:=⟨d.nm,d.body.toNat⟩
def nt(l:pS):Lk:=⟨l.nm,l.bs.map Ua,l.js.map aco,l.ds.map Mi⟩
theorem xr{α β:Type}{f:α→List D}{g:β→List D}{t:α→β}{l:List α}(h:∀x∈l,f x=g (t x)):aU f l=aU g (l.map t):=by
 unfold aU;rw[alR,List.flatMap_map];congr 1;induction l with
 |nil=>rfl
 |cons x l a=>
  rw[amx,amx,h x (alW ..),a fun y b=>h y (al_ _ b)]
theorem Qr{r:Raw}(h:r.valid=true):qM r=cF r.q:=by
 have:=L_ h;unfold qM cF;rw[←this]
theorem wI{α:Type}[Inhabited α]{l:List α}{P:α→Prop}(h:∀i,i<l.length→P (l.getD i default)):∀x∈l,P x:=fun x b=>by
 obtain⟨i,a,e⟩:=alZ.1 b;have:=h i a;rw[alD,alK a]at this;rw[←e];exact this
theorem pJ{x:Int}(h:0≤x):int x=nat x.toNat:=by
 show D.lit (.int .i64 x)=.lit (.int .i64 (zNq x.toNat));rw[show zNq x.toNat=x from Int.toNat_of_nonneg h]
theorem mS{x:Int}{n:Nat}(h:uz x n=true):0≤x∧x.toNat<n:=by
 obtain⟨m,rfl,a⟩:=sY h;exact⟨an6 m,a⟩
section
variable {l:pS}
theorem CH(h:Ta l=0):∀b∈l.bs,b.bC.length≤8∧∀m∈b.bC,m.x.valid=true∧m.y.valid=true:=by
 obtain⟨-,-,-,f,-⟩:=Gv h;refine wI fun i d=>?_
 obtain⟨-,-,e,c⟩:=abH d (l9 f i d);exact⟨e,wI fun k a=>⟨(Qu a (c k a)).2.2.1,(Qu a (c k a)).2.2.2⟩⟩
theorem Tc(h:Ta l=0):∀j∈l.js,HE l j:=by
 obtain⟨-,-,-,-,-,b,-⟩:=Gv h;exact wI fun i a=>(ZZ a (l9 b i a)).2.2
theorem BZ(h:Ta l=0):∀i,i<l.ds.length→uz (l.ds.getD i default).body l.bs.length=true∧(l.ds.getD i default).body≠0∧∀j,j<i→qU l.ds i j=false:=by
 obtain⟨-,-,-,-,-,-,-,b⟩:=Gv h;exact fun i a=>(aa5 a (l9 b i a)).2.2
theorem ZM(h:Ta l=0):Ci l=g7 (nt l):=by
 have s:aU rJ l.bs=aU cBd (l.bs.map Ua):=xr fun b p=>by
  have c:=(CH h b p).2;show [vH b.nm,aU px b.bC]=[.lit (.string b.nm),aU cMk (b.bC.map XI)];rw[xr (g:=cMk) (t:=XI) fun m e=>by
   obtain⟨v1,v2⟩:=c m e;show vH m.nm::(qM m.x++qM m.y)=.lit (.string m.nm)::cPc m.x.q m.y.q;rw[Qr v1,Qr v2];rfl]
  rfl
 have r:aU Dn l.js=aU Ox (l.js.map aco):=xr fun j f=>by
  have g:=Tc h j f;have a:0≤j.kind:=by rcases g.kd with⟨k,-⟩|⟨k,-⟩<;>omega
  have t0:0≤j.to:=by
   rcases g.kd with⟨-,k⟩|⟨-,k,-⟩
   ·omega
   ·exact(mS k).1
  show [vH j.nm,int j.kind,int j.a,int j.p,int j.b,int j.on,int j.to]=[.lit (.string j.nm),nat j.kind.toNat,nat j.a.toNat,nat j.p.toNat,nat j.b.toNat,nat j.on.toNat,nat j.to.toNat];rw[pJ a,pJ (mS g.a).1,pJ (mS g.p).1,pJ (mS g.b).1,pJ (mS g.on).1,pJ t0];rfl
 have q:aU zy l.ds=aU PJ (l.ds.map Mi):=xr fun d o=>by
  have:=wI (P:=fun d=>uz d.body l.bs.length=true) (fun i n=>(BZ h i n).1) d o
  show [vH d.nm,int d.body]=[.lit (.string d.nm),nat d.body.toNat];rw[pJ (mS this).1];rfl
 show D.agg [vH l.nm,aU rJ l.bs,aU Dn l.js,aU zy l.ds]=.agg [.lit (.string l.nm),aU cBd (l.bs.map Ua),aU Ox (l.js.map aco),aU PJ (l.ds.map Mi)];rw[s,r,q];rfl
end
section
variable {l:pS}
theorem abG{b:Nat}(h:b<l.bs.length):(nt l).bs.getD b default=Ua (l.bs.getD b default):=u5 Ua h default default
theorem ZC{b k:Nat}(h:b<l.bs.length)(a:k<(l.bs.getD b default).bC.length):dP (nt l) b k=XI ((l.bs.getD b default).bC.getD k default):=by
 unfold dP;rw[abG h];exact u5 XI a default default
theorem yb(a:Rat):Dl a a=0:=by
 unfold Dl;rw[apA (apj),apA (apj)]
theorem ae'(h:Ta l=0):gO (nt l):=by
 obtain⟨-,B,A,-,z,-,y,-⟩:=Gv h;have p:(nt l).bs.length=l.bs.length:=alR ..;have v:(nt l).js.length=l.js.length:=alR ..;have w:(nt l).ds.length=l.ds.length:=alR ..;have c:∀j∈(nt l).js,∃i∈l.js,j=aco i∧HE l i:=fun j a=>by
  obtain⟨i,f,rfl⟩:=ama.1 a;exact⟨i,f,rfl,Tc h i f⟩
 have s:∀d∈(nt l).ds,∃i∈l.ds,d=Mi i∧uz i.body l.bs.length=true∧i.body≠0:=fun d m=>by
  obtain⟨i,f,rfl⟩:=ama.1 m;exact⟨i,f,rfl,wI (P:=fun d:TV=>uz d.body l.bs.length=true∧d.body≠0) (fun i f=>⟨(BZ h i f).1,(BZ h i f).2.1⟩) i f⟩
 have pl:∀{x:Int},uz x l.bs.length=true→((nt l).bs.getD x.toNat default).bC.length=(pz l x).length:=fun{x} u=>by
  rw[abG (mS u).2];exact alR ..
 refine⟨by omega,by omega,by omega,by omega,fun j a=>?_,fun j a=>?_,fun j a=>?_,fun j a=>?_,fun j a=>?_,fun j a=>?_,fun j a b=>?_,fun j a b=>?_,fun d m=>?_,fun d m=>?_⟩
 ·obtain⟨i,-,rfl,g⟩:=c j a
  show i.kind.toNat=0∨i.kind.toNat=1;rcases g.kd with⟨k,-⟩|⟨k,-⟩
  ·rw[k];exact .inl rfl
  ·rw[k];exact .inr rfl
 ·obtain⟨i,-,rfl,g⟩:=c j a
  rw[p];exact(mS g.a).2
 ·obtain⟨i,-,rfl,g⟩:=c j a
  rw[p];exact(mS g.b).2
 ·obtain⟨i,-,rfl,g⟩:=c j a
  intro e;have e:i.a.toNat=i.b.toNat:=e;have n:=g.ne;rw[beq_eq_false_iff_ne]at n;have:=(mS g.a).1;have:=(mS g.b).1;omega
 ·obtain⟨i,-,rfl,g⟩:=c j a
  show i.p.toNat<((nt l).bs.getD i.a.toNat default).bC.length;rw[pl g.a];exact(mS g.p).2
 ·obtain⟨i,-,rfl,g⟩:=c j a
  show i.on.toNat<((nt l).bs.getD i.b.toNat default).bC.length;rw[pl g.b];exact(mS g.on).2
 ·obtain⟨i,-,rfl,g⟩:=c j a
  have b:i.kind.toNat=1:=b;show i.to.toNat<((nt l).bs.getD i.b.toNat default).bC.length;rw[pl g.b];rcases g.kd with⟨k,-⟩|⟨-,k,-⟩
  ·rw[k]at b;cases b
  ·exact(mS k).2
 ·obtain⟨i,-,rfl,g⟩:=c j a
  have b:i.kind.toNat=1:=b;rcases g.kd with⟨k,-⟩|⟨-,k,o⟩
  ·rw[k]at b;cases b
  ·have t:=(mS g.b).2
   have o1:=(mS g.on).2;have t1:=(mS k).2;show(dP (nt l) i.b.toNat i.on.toNat).x≠(dP (nt l) i.b.toNat i.to.toNat).x∨(dP (nt l) i.b.toNat i.on.toNat).y≠(dP (nt l) i.b.toNat i.to.toNat).y;rw[ZC t o1,ZC t t1];unfold FL pz at o;by_cases r:((l.bs.getD i.b.toNat default).bC.getD i.on.toNat default).x.q=((l.bs.getD i.b.toNat default).bC.getD i.to.toNat default).x.q
   ·by_cases q:((l.bs.getD i.b.toNat default).bC.getD i.on.toNat default).y.q=((l.bs.getD i.b.toNat default).bC.getD i.to.toNat default).y.q
    ·rw[r,q,yb,yb]at o;cases o
    ·exact .inr q
   ·exact .inl r
 ·obtain⟨i,-,rfl,g,-⟩:=s d m
  rw[p];exact(mS g).2
 ·obtain⟨i,-,rfl,g,n⟩:=s d m
  intro e;have e:i.body.toNat=0:=e;have:=(mS g).1;omega
theorem ai'(h:Ta l=0):aib (nt l):=by
 have d:(nt l).ds.length=l.ds.length:=alR ..;have key:∀i j,i<l.ds.length→j<i→((nt l).ds.getD i default).body≠((nt l).ds.getD j default).body:=fun i j a b e=>by
  have g:(nt l).ds.getD i default=Mi (l.ds.getD i default):=u5 Mi a default default;have f:(nt l).ds.getD j default=Mi (l.ds.getD j default):=u5 Mi (by omega) default default
  rw[g,f]at e;have e:(l.ds.getD i default).body.toNat=(l.ds.getD j default).body.toNat:=e;obtain⟨a1,-,n⟩:=BZ h i a;obtain⟨m,-,-⟩:=BZ h j (by omega)
  have:=n j b;unfold qU at this;rw[beq_eq_false_iff_ne]at this;have:=(mS a1).1;have:=(mS m).1;omega
 intro i j a b e;rw[d]at a b;rcases ano i j with k|heq|c
 ·exact apC e.symm (key j i b k)
 ·exact heq
 ·exact apC e (key i j a c)
end
end Tw
end Lw
namespace Lw
open Go Go.RowKit Go.Proofs
namespace Tw
open fL
variable {G:World→Prop}
def oh(r:Raw):Bool:=decide (2<r.n.length+r.d.length)
theorem Fc{a b:Nat}(h:a+b≤1000000000000):IntKind.wrap .i64 (zNq a+zNq b)=zNq (a+b):=by
 have e:zNq a+zNq b=zNq (a+b):=rfl;rw[e];have d:(0:Int)≤zNq (a+b):=an6 _;have c:zNq (a+b)≤(1000000000000:Nat):=apb.2 h;exact py (by omega) (by omega)
theorem ai9(a:aa G){x:Raw}(b:x.n.length+x.d.length≤1000000000000):Spec zZq G 19 [.row 1 false (qM x)] (bool (oh x)):=by
 unfold oh;have e:=bQ (Fc b);by_cases h:2<x.n.length+x.d.length
 ·rw[apD h]
  exact Spec.r a func19 [] [.eq 22 e,.eb 23 (s9 h)]
 ·rw[apE h]
  exact Spec.r a func19 [] [.eq 22 e,.eb 23 (fb h)]
theorem ai8(b:aa G){x y:Raw}(f:x.n.length+x.d.length≤1000000000000)(d:y.n.length+y.d.length≤1000000000000):Spec zZq G 19 [.row 2 false (qM x++qM y)] (bool (oh x||oh y)):=by
 unfold oh;have e:=bQ (Fc f);have c:=bQ (Fc d);by_cases h:2<x.n.length+x.d.length
 ·rw[apD h]
  exact Spec.r b func19 [] [.eq 22 e,.eb 23 (s9 h)]
 ·rw[apE h]
  by_cases a:2<y.n.length+y.d.length
  ·rw[apD a]
   exact Spec.r b func19 [] [.eq 22 e,.eb 23 (fb h),.eq 22 c,.eb 23 (s9 a)]
  ·rw[apE a]
   exact Spec.r b func19 [] [.eq 22 e,.eb 23 (fb h),.eq 22 c,.eb 23 (fb a)]
theorem Sf{n:Nat}(h:(words n).length≤1):n≤2^64:=by
 have a:=mG (bb n);rw[aX]at a;have c:BP (words n).length≤BP 1:=ni h;have b:BP 1≤2^64:=by decide+kernel
 omega
theorem gU.rt{q:Rat}(h:gU 1 q):iA 64 q:=⟨Sf h.1,Sf h.2.1⟩
theorem FH{r:Raw}{k:Nat}(d:r.ok k)(a:r.valid=true)(c:oh r=false):iA 64 r.q:=by
 have c:¬2<r.n.length+r.d.length:=by simpa [oh]using c
 have e:r.ok 1:=by
  obtain⟨d1,d2,-,-,-⟩:=d;by_cases b:r.n=[]∧r.d=[]
  ·exact⟨d1,d2,by rw[b.1];simp,by rw[b.2];simp,by omega⟩
  ·have g:r.l7:=by
    unfold Raw.valid at a;rw[apA b]at a;simpa using a
   have f:0<r.n.length:=amJ.2 g.1;have h:0<r.d.length:=amJ.2 g.2.1;exact⟨d1,d2,by omega,by omega,by omega⟩
 exact gU.rt e.sz
def LS(l:pS):Prop:=∀b∈l.bs,∀m∈b.bC,oh m.x=false∧oh m.y=false
theorem ai_{l:pS}(ok:l.Ok)(h:Ta l=0)(m:LS l):LkB 64 (nt l):=fun b k n=>by
 obtain⟨c,a⟩:=n;have j:(nt l).bs.length=l.bs.length:=alR ..;rw[j]at c;have e:=abG c;rw[e]at a;have a:k<(l.bs.getD b default).bC.length:=by
  have:(Ua (l.bs.getD b default)).bC.length=(l.bs.getD b default).bC.length:=alR ..;omega
 rw[ZC c a];have d:=aN c (default:zB);have hm:=aN a (default:EG);obtain⟨s1,s2⟩:=m _ d _ hm;obtain⟨v1,v2⟩:=(CH h _ d).2 _ hm;have f:=(ok.bs _ d).bC _ hm;obtain⟨p,i,-⟩:=f.x;obtain⟨o,g,-⟩:=f.y;exact⟨FH i v1 s1,FH g v2 s2⟩
structure zA where
 t:Raw
 half:Bool
instance:Inhabited zA:=⟨⟨⟨false,[],[]⟩,false⟩⟩
def oC(x:zA):List D:=qM x.t++[bool x.half]
theorem te(x:zA):(oC x).length=4:=rfl
def zA.Ok(x:zA):Prop:=∃k,x.t.ok k∧2*k<KB
def Xc(x:zA):Nat:=if x.t.valid=false then 2 else if x.half=true∧(rW x.t.q !=0)=true then 2 else 0
theorem Wy(a:aa G){x:zA}(ok:x.Ok):Spec zZq G 31 [.agg (oC x)] (nat (Xc x)):=by
 obtain⟨k,d,f⟩:=ok;have v:=mB (G:=G) a d (by omega)
 have s:=Eg (G:=G) a (Raw.ok.tW d) (by omega)
 obtain⟨r,e⟩:=x;unfold Xc;simp only at v s⊢;cases b:r.valid with
 |false=>
  rw[b]at v;exact Spec.r a func31 [1] [.call v]
 |true=>
  rw[b]at v;cases e with
  |false=>exact Spec.r a func31 [1] [.call v]
  |true=>
   cases c:(rW r.q !=0)with
   |true=>exact Spec.r a func31 [1] [.call v,.call s,.eb 14 c]
   |false=>exact Spec.r a func31 [1] [.call v,.call s,.eb 14 c]
def HR(x:zA):Tn:=⟨x.t.q,x.half⟩
theorem xi{x:zA}(h:Xc x=0):x.t.valid=true∧(x.half=true→x.t.q=0):=by
 unfold Xc at h;split at h
 ·cases h
 ·rename_i d
  split at h
  ·cases h
  ·rename_i c
   refine⟨by simpa using d,fun b=>?_⟩
   have a:rW x.t.q=0:=by
    cases q:(rW x.t.q !=0)with
    |true=>exact apC ⟨b,q⟩ c
    |false=>simpa using q
   exact Mw.1 a
theorem afS{x:zA}(h:Xc x=0):oC x=uI (HR x):=by
 unfold oC;rw[Qr (xi h).1];rfl
theorem akh(c:aa G){x:zA}(ok:x.Ok)(h:Xc x=0)(a:oh x.t=false):Pz G (HR x)∧iA 64 (HR x).t∧((HR x).half=true→(HR x).t=0):=by
 obtain⟨k,d,e⟩:=ok;have q:=FH d (xi h).1 a;have b:64≤NB:=by have:=pd;have:=ab1;omega
 exact⟨Dw c (q.qk b) (xi h).2,q,(xi h).2⟩
end Tw
end Lw
namespace Lw
open Go Go.RowKit Go.Proofs Go.ChangeShapes Go.WideShapes Go.ChangeAt Tw
section
variable {H:Type} {enc:TypeId×Value→H} {W:World} {fuel:Nat} {cs:List Value} {x:DataW H×List MemPlace}
abbrev ku(d:DataW H):Nat:=Go.Proofs.YtmcpfihkambgnaaGreat.Rows.uptoBulk d
abbrev Cb(l:List (DataW H)):Nat:=Go.Proofs.YtmcpfihkambgnaaGreat.Rows.uptoBulkAll l
theorem zj{d:DataW H}{l:List (DataW H)}(h:d∈l):ku d≤Cb l:=by
 induction l with
 |nil=>cases h
 |cons x r a=>
  show Go.Proofs.YtmcpfihkambgnaaGreat.Rows.uptoBulk d≤Go.Proofs.YtmcpfihkambgnaaGreat.Rows.uptoBulkAll (x::r);simp only[Go.Proofs.YtmcpfihkambgnaaGreat.Rows.uptoBulkAll];rcases alM.1 h with e|e
  ·subst e;omega
  ·have:=a e;simp only[Cb,ku]at this;omega
theorem aby(d:DataW H):1≤ku d:=by
 cases d with
 |lit l=>cases l<;>simp[ku,Go.Proofs.YtmcpfihkambgnaaGreat.Rows.uptoBulk]
 |_=>simp[ku,Go.Proofs.YtmcpfihkambgnaaGreat.Rows.uptoBulk]
theorem Ed(l:List (DataW H)):l.length≤Cb l:=by
 induction l with
 |nil=>simp
 |cons x r a=>have:=aby x;simp only[Cb,ku,Go.Proofs.YtmcpfihkambgnaaGreat.Rows.uptoBulkAll,List.length_cons]at*;omega
theorem Hj{es rs:List (DataW H)}:Cb es≤ku (.slice es rs):=by simp only[ku,Cb,Go.Proofs.YtmcpfihkambgnaaGreat.Rows.uptoBulk];omega
theorem Hk{a:List (DataW H)}:Cb a≤ku (.agg a):=by simp only[ku,Cb,Go.Proofs.YtmcpfihkambgnaaGreat.Rows.uptoBulk];omega
theorem Oz{t e:TypeId}(f:Tryz.prog.underlying t=some (.slice e))(h:DataW.trod enc zZq W 0 (fun _=>true) true fuel t cs=some x){k:Nat}{full:Bool}{xs:List D}(c:a9 W HQ cs [.row k full xs]):k≤ku x.1:=by
 rcases DataW.trod_slice f h with⟨rfl,-⟩|⟨a,len,j,elems,b,n,_,rfl,rfl,o,m,l,d,g,-,-⟩
 ·have:=c.head
  cases this;exact amd _
 ·have:=c.head
  cases this;have i:=Ed (elems.map (·.1));have p:=Hj (es:=elems.map (·.1)) (rs:=b.map (·.1));rw[alR]at i;show _≤ku (DataW.slice (elems.map (·.1)) (b.map (·.1)));omega
def AO(r:Raw)(b:Nat):Prop:=(r.n.length≤b∧r.d.length≤b)∧Tw.Raw.ajS r
theorem CM(h:DataW.trod enc zZq W 0 (fun _=>true) true fuel 51 cs=some x):∃r:Raw,AO r (ku x.1)∧a9 W HQ cs r.cells:=by
 obtain⟨a,n,-,p,j,y,e⟩:=DataW.trod_struct Tryz.underlying51 h;rw[zd]at j;obtain⟨c0,B,A,rfl⟩:=three j;have E:a.length=3:=y;obtain⟨q,z⟩:=fV (l:=a) (i:=0) (by omega)
 obtain⟨d,o⟩:=fV (l:=a) (i:=1) (by omega)
 obtain⟨c,m⟩:=fV (l:=a) (i:=2) (by omega)
 have f0:=cI e 0 _ rfl (t:=4) (off:=0) rfl rfl G9;have f1:=cI e 1 _ rfl (t:=49) (off:=1) rfl rfl Ea;have f2:=cI e 2 _ rfl (t:=49) (off:=2) rfl rfl Ea;rw[z]at f0;rw[o]at f1;rw[m]at f2;have f0:DataW.trod enc zZq W 0 (fun _=>true) true n 4 [c0]=some q:=f0
 have f1:DataW.trod enc zZq W 0 (fun _=>true) true n 49 [B]=some d:=f1
 have f2:DataW.trod enc zZq W 0 (fun _=>true) true n 49 [A]=some c:=f2
 obtain⟨b,k,-⟩:=DataW.trod_bool Tryz.underlying4 f0;obtain⟨w,d1,g⟩:=F' f1;obtain⟨v,d2,f⟩:=F' f2;have D:=Oz Tryz.underlying49 f1 g;have C:=Oz Tryz.underlying49 f2 f;have u:ku d.1≤ku x.1:=by
  rw[p];exact alJ (zj (ama.2 ⟨d,aoz o,rfl⟩)) Hk
 have s:ku c.1≤ku x.1:=by
  rw[p];exact alJ (zj (ama.2 ⟨c,aoz m,rfl⟩)) Hk
 simp only[List.cons.injEq,and_true]at k;subst k;exact⟨⟨b,w,v⟩,⟨⟨alJ D u,alJ C s⟩,d1,d2⟩,a9.cons (.lit _) (a9.append g f)⟩
theorem Ns{α:Type}(p:Nat→α→Prop):∀n:Nat,(∀i,i<n→∃r,p i r)→∃l:List α,l.length=n∧∀i(h:i<l.length),p i l[i]
 |0,_=>⟨[],rfl,fun i h=>by cases h⟩
 |n+1,h=>by
  obtain⟨l,e,d⟩:=Ns p n fun i b=>h i (by omega)
  obtain⟨r,c⟩:=h n (by omega)
  refine⟨l++[r],by simp[e],fun i b=>?_⟩
  by_cases a:i<l.length
  ·rw[anQ a];exact d i a
  ·have:i=n:=by simp at b;omega
   subst this;rw[anM (by omega)]
   simpa using c
theorem JD{α β:Type}{f:α→List β}{sz:Nat}:∀{l:List α}(_:∀x∈l,(f x).length=sz)(i k:Nat)(_:k<sz)(a:i<l.length),(l.flatMap f)[i*sz+k]? =(f l[i])[k]?
 |[],_,i,k,c,a=>by cases a
 |x::l,b,0,k,c,a=>by
  have:=b x (by simp)
  rw[amx,am6,amv,amp (by omega)]
  rfl
 |x::l,b,i+1,k,c,a=>by
  have d:=b x (by simp)
  rw[amx,aml (by rw[d,amL];omega),d]
  have e:(i+1)*sz+k-sz=i*sz+k:=by rw[amL];omega
  rw[e];exact JD (l:=l) (fun y g=>b y (by simp[g])) i k c (by simpa using a)
theorem JC{α β:Type}{f:α→List β}{sz:Nat}:∀{l:List α}(_:∀x∈l,(f x).length=sz),(l.flatMap f).length=l.length*sz
 |[],_=>by simp
 |x::l,a=>by rw[amx,amj,a x (by simp),JC (l:=l) (fun y b=>a y (by simp[b])),amm,amL];omega
theorem FU{α:Type}{W:World}{X:Nat→Prop}{f:α→List Value}{g:α→List D}:∀{l:List α}(_:∀x∈l,a9 W X (f x) (g x)),a9 W X (l.flatMap f) (l.flatMap g)
 |[],_=>by simpa using a9.nil
 |x::l,h=>by
  rw[amx,amx];exact a9.append (h x (by simp)) (FU (l:=l) fun y a=>h y (by simp[a]))
theorem sM{α:Type}{f:α→List D}{ok:α→Nat→Prop}{t e:TypeId}{sz:Nat}(mono:∀r a b,ok r a→a≤b→ok r b)(K:Tryz.prog.underlying t=some (.slice e))(N:Tryz.prog.cellsOf e=sz)(E:0<sz)
  (one:∀{n:Nat}{cs:List Value}{x:DataW H×List MemPlace},DataW.trod enc zZq W 0 (fun _=>true) true n e cs=some x→∃r,ok r (ku x.1)∧a9 W HQ cs (f r))
  (h:DataW.trod enc zZq W 0 (fun _=>true) true fuel t cs=some x):∃l:List α,(∀r∈l,ok r (ku x.1))∧l.length≤ku x.1∧a9 W HQ cs [aU f l]:=by
 rcases DataW.trod_slice K h with⟨rfl,-⟩|⟨a,len,w,elems,c,n,_,rfl,rfl,X,M,L,B,v,-,-⟩
 ·exact⟨[],(fun r m=>by cases m),by simp,a9.cons (Bu W HQ false) a9.nil⟩
 ·have U:Cb (elems.map (·.1))≤ku (DataW.slice (elems.map (·.1)) (c.map (·.1))):=Hj
  have each:∀i,i<len→∃p:α×List Value,ok p.1 (ku (DataW.slice (elems.map (·.1)) (c.map (·.1))))∧a9 W HQ p.2 (f p.1)∧p.2.length=sz∧∀k,k<sz→W.cell? (a.add (i*sz+k))=p.2[k]? :=by
   intro i g;have he:=v i g;rw[N,alK (by omega),Option.bind_eq_some_iff]at he
   obtain⟨J,P,O⟩:=he;obtain⟨r,R,Q⟩:=one O;obtain⟨-,k2,k3⟩:=World.cells?_some P;refine⟨(r,J),mono _ _ _ R (alJ (zj (ama.2 ⟨_,al2 _,rfl⟩)) U),Q,k2,fun k u=>?_⟩
   have:=k3 k u;rw[Addr.add_add]at this;exact this
  obtain⟨d,s,q⟩:=Ns _ len each;have z:∀p∈d,p.2.length=sz:=fun p o=>by
   obtain⟨i,g,rfl⟩:=alZ.1 o;exact(q i g).2.2.1
  have m:∀p∈d,a9 W HQ p.2 (f p.1):=fun p o=>by
   obtain⟨i,g,rfl⟩:=alZ.1 o;exact(q i g).2.1
  have T:(d.map (·.1)).flatMap f=d.flatMap fun p=>f p.1:=by rw[List.flatMap_map]
  have F:=FU m;have y:(d.flatMap fun p=>p.2).length=len*sz:=by rw[JC z,s]
  have bl:=Ed (elems.map (·.1));rw[alR]at bl;refine⟨d.map (·.1),fun r m=>?_,by rw[alR,s];show _≤ku (DataW.slice (elems.map (·.1)) (c.map (·.1)));omega,a9.cons ?_ a9.nil⟩
  ·obtain⟨p,o,rfl⟩:=ama.1 m
   obtain⟨i,g,rfl⟩:=alZ.1 o;exact(q i g).1
  ·unfold aU
   rw[T,alR,s];refine .row (some a) len w false (d.flatMap fun p=>p.2) _ F.1 M L (fun h=>by cases h) (fun j C=>⟨a,rfl,fun h=>h,?_⟩) F.2
   have V:j<len*sz:=by rw[←y];exact C
   have A:j/sz<d.length:=by rw[s];exact(amk E).2 V
   have u:j%sz<sz:=al8 _ E;have S:j/sz*sz+j%sz=j:=by rw[alS];exact am4 j sz
   have I:=(q (j/sz) A).2.2.2 (j%sz) u;have G:=JD z (j/sz) (j%sz) u A;rw[S]at I G;rw[I,←G];exact alK C
theorem AO.mono(r:Raw)(a b:Nat)(h:AO r a)(c:a≤b):AO r b:=⟨⟨alJ h.1.1 c,alJ h.1.2 c⟩,h.2⟩
end
end Lw
