/- Part 9. -/
import Derived.Test.YtmcpfihkambgnaaGreatLw08
open Int renaming ofNat→zNq
open Int renaming ofNat_eq_natCast→zKq
open Go.Proofs.Tryz renaming prog→zZq
open Go.Proofs.Tryz
namespace Lw
namespace fL
def NB:Nat:=70368744177663
theorem ab1:NB=70368744177663:=rfl
theorem Bt.fit{n:Nat}{l:List Rat}(h:Bt n l)(a:n≤NB):Tw.xd KB l:=h.sz (by rw[pd];rw[ab1]at a;omega)
theorem w5.root{δ:Nat}{t:aS}(h:w5 δ t)(j:Nat):Bt δ (t.getD j []):=by
 obtain⟨Δ,Β,d,c,b,a⟩:=h;exact⟨Δ,Β,d,c,b,a j⟩
end fL
namespace Tw
open Go Go.RowKit Go.Proofs fL
theorem DC:0<KB:=by rw[pd];omega
def agz(N:Nat)(a:List Rat):D:=.row N false (a.flatMap cF)
theorem m_{a:List Rat}{N:Nat}(h:a.length=N):aA a=agz N a:=by subst h;rfl
theorem SB{a:List Rat}{l u:Nat}(h:l≤u)(hu:u≤a.length):
  D.row ((zNq u).toNat-(zNq l).toNat) false (((a.flatMap cF).drop ((zNq l).toNat*3)).take (((zNq u).toNat-(zNq l).toNat)*3))=aA ((a.take u).drop l):=by
 have c:(zNq u).toNat=u:=rfl;have b:(zNq l).toNat=l:=rfl;rw[c,b,yX bZ,C_ bZ];unfold aA aU;rw[aox,alO,alP,an9 (by omega)]
theorem A5{a:List Rat}{u:Nat}(hu:u≤a.length):
  D.row ((zNq u).toNat-(0:Int).toNat) false (((a.flatMap cF).drop ((0:Int).toNat*3)).take (((zNq u).toNat-(0:Int).toNat)*3))=aA (a.take u):=SB (amd u) hu
theorem IT{a:List Rat}{l N:Nat}(h:l≤N)(b:a.length=N):
  D.row ((zNq N).toNat-(zNq l).toNat) false (((a.flatMap cF).drop ((zNq l).toNat*3)).take (((zNq N).toNat-(zNq l).toNat)*3))=aA (a.drop l):=by
 have:=SB (a:=a) h (by omega:N≤a.length)
 rwa [al4 (by omega:a.length≤N)]at this
theorem pV{l u N:Nat}(h:l≤u)(hu:u≤N):(0:Int)≤zNq l∧zNq l≤zNq u∧zNq u≤(N:Int):=
 ⟨by simp,by simpa using h,by simpa using hu⟩
theorem jQ{u N:Nat}(hu:u≤N):(0:Int)≤(0:Int)∧(0:Int)≤zNq u∧zNq u≤(N:Int):=pV (amd u) hu
theorem uB{j:Nat}(h:j≤30):IntKind.wrap .i64 ((zNq (2^(j+1))).tdiv 2)=zNq (2^j):=by
 have e:(zNq (2^(j+1))).tdiv 2=zNq (2^(j+1)/2):=rfl;rw[e,fI];have:2^j≤2^30:=al3 (by omega) h
 have a:(2:Nat)^30=1073741824:=by decide
 generalize 2^j=N at*;rw[py (by simp only[zKq];omega) (by simp only[zKq];omega)]
theorem qm{j:Nat}(h:j≤30):2^j≤1073741824:=by
 have:2^j≤2^30:=al3 (by omega) h
 have a:(2:Nat)^30=1073741824:=by decide
 omega
theorem ge2(j:Nat):2≤2^(j+1):=by have:=dg j;rw[al5];omega
theorem Zu(j:Nat):(zNq (2^(j+1))==1)=false:=by
 rw[beq_eq_false_iff_ne];have:=ge2 j;simp only[zKq];omega
theorem ne0(j:Nat):(zNq (2^(j+1))==0)=false:=by
 rw[beq_eq_false_iff_ne];have:=ge2 j;simp only[zKq];omega
theorem gt1(j:Nat):decide (zNq (2^(j+1))>1)=true:=by
 have:=ge2 j;rw[decide_eq_true_iff];simp only[zKq];omega
theorem Ku{j:Nat}(h:j≤30):IntKind.wrap .i64 (zNq (j+1)-1)=zNq j:=by
 have e:zNq (j+1)-1=zNq j:=by simp only[zKq];omega
 rw[e,py (by simp only[zKq];omega) (by simp only[zKq];omega)]
variable {G:World→Prop}
theorem oL{t:aS}{j:Nat}(h:j<t.length):((0:Int)≤zNq j∧zNq j<(t.length:Int))∧(zNq j).toNat*1<(t.map aA).length:=by
 have e:(zNq j).toNat=j:=rfl;rw[e,alR];exact⟨⟨by simp,by simpa using h⟩,by omega⟩
theorem oM{t:aS}{j:Nat}(h:j<t.length):0<1∧1≤((t.map aA).drop ((zNq j).toNat*1)).length:=by
 have e:(zNq j).toNat=j:=rfl;rw[e,alP,alR];omega
theorem vI{t:aS}{j:Nat}(h:j<t.length):((t.map aA).drop ((zNq j).toNat*1)).headD .any=aA (t.getD j []):=by
 have e:(zNq j).toNat=j:=rfl;rw[e,amH,am1 (by rw[alR];exact h)]
 rw[ao9,amg,alD,alK h];rfl
def ya(a:List Rat):Nat→Nat
 |0=>0
 |k+1=>if eV ((a.take (2^(k+1))).drop (2^k))then ya a k else k+1
theorem TE(a:List Rat):∀k,ya a k≤k
 |0=>alE _
 |k+1=>by
  have:=TE a k;unfold ya;split<;>omega
theorem JK(a:List Rat):∀k,EA k (a.take (2^k))=if ya a k=0∧eV (a.take 1)=true then []else a.take (2^ya a k)
 |0=>by
  unfold EA ya;simp only[Nat.pow_zero,true_and]
 |k+1=>by
  unfold EA ya;split
  ·have:=JK a k
   rw[anK,an9 (al3 (by omega) (by omega))]
   exact this
  ·rw[apA (by omega)]
theorem Mv{a:List Rat}{j:Nat}(b:a.length=2^j):dO a=if ya a j=0∧eV (a.take 1)=true then []else a.take (2^ya a j):=by
 have:=dg j;unfold dO;rw[apA (by omega),b,iw,←JK]
 rw[al4 (by omega)]
def FJ(a:List Rat)(j i:Nat):St:=lay 45 [(0,agz (2^j) a),(2,.row 0 true []),(4,nat (2^i))] []
theorem X1(d:aa G){a:List Rat}{j i:Nat}(n:a.length=2^j)(k:i<j)(h:j≤30)(g:eV ((a.take (2^(i+1))).drop (2^i))=true):
  ak zZq G 0 (ah f118 0) (FJ a j (i+1)) .normal (FJ a j i):=by
 have f:2^(i+1)≤2^j:=al3 (by omega) k
 have b:2^i≤2^(i+1):=al3 (by omega) (by omega)
 have m:=qm h;have e:=SB (a:=a) b (by omega)
 have c:=AE (G:=G) d (l:=(a.take (2^(i+1))).drop (2^i)) (by rw[alP,alO];omega)
 rw[g]at c;exact ak.r d [.eb 23 (gt1 i),.eq 27 (bQ (uB (j:=i) (by omega))),.prop (pV b f),.eq 29 e,.call c,.eq 33 (bQ (uB (j:=i) (by omega)))]
theorem acS(d:aa G){a:List Rat}{j i:Nat}(n:a.length=2^j)(k:i<j)(h:j≤30)(g:eV ((a.take (2^(i+1))).drop (2^i))=false):
  ak zZq G 0 (ah f118 0) (FJ a j (i+1)) (.exit 0) (FJ a j (i+1)):=by
 have f:2^(i+1)≤2^j:=al3 (by omega) k
 have b:2^i≤2^(i+1):=al3 (by omega) (by omega)
 have m:=qm h;have e:=SB (a:=a) b (by omega)
 have c:=AE (G:=G) d (l:=(a.take (2^(i+1))).drop (2^i)) (by rw[alP,alO];omega)
 rw[g]at c;exact ak.r d [.eb 23 (gt1 i),.eq 27 (bQ (uB (j:=i) (by omega))),.prop (pV b f),.eq 29 e,.call c]
theorem acR(d:aa G){a:List Rat}{j:Nat}(f:a.length=2^j)(e:j≤30):
  bT zZq G 45 0 (.loop (ah f118 0)) (FJ a j j) (.exit 0) (FJ a j (ya a j)):=by
 refine bT.rounds (P:=zZq) (Good:=G) (gb:=0) (fun i=>i≤j∧ya a i=ya a j) (fun i=>FJ a j i) id (fun i=>ar ..) (by intro h;cases h) (fun i c=>?_) j ⟨alE j,rfl⟩
 cases i with
 |zero=>
  right
  have:ya a j=0:=by rw[←c.2];rfl
  rw[this];exact ak.r d []
 |succ i=>
  cases b:eV ((a.take (2^(i+1))).drop (2^i))with
  |true=>
   left
   refine⟨i,⟨by omega,?_⟩,by simp,X1 d f (by omega) e b⟩
   rw[←c.2,ya,apB b]
  |false=>
   right
   have:ya a j=i+1:=by rw[←c.2,ya,apA (by rw[b];simp)]
   rw[this];exact acS d f (by omega) e b
theorem pR(b:aa G){a:List Rat}{k:Nat}(t:Sh k a)(w:k≤5)(r:xd KB a):Spec zZq G 118 [aA a] (aA (dO a)):=by
 rcases t with rfl|⟨j,x,g⟩
 ·have c:=jz (G:=G) b (l:=[]) (k:=KB) (by simp) r (alE _)
  exact Spec.r b func118 [] [.call (adH b []),.call c]
 ·rw[m_ g,Mv g]
  have v:=TE a j;have f:=acR (G:=G) b g (by omega)
  have lv:=sV (G:=G) b (k:=j) (by omega) (a.flatMap cF)
  have o:=dg j;have y:=qm (j:=j) (by omega)
  have n:decide (zNq (2^j)>0)=true:=by rw[decide_eq_true_iff];simp only[zKq];omega
  have m:decide (zNq j<0)=false:=by rw[decide_eq_false_iff_not];simp only[zKq];omega
  have h:decide (zNq j>5)=false:=by rw[decide_eq_false_iff_not];simp only[zKq];omega
  generalize ya a j=i at*;have p:2^i≤2^j:=al3 (by omega) v
  have e:=A5 (a:=a) (u:=2^i) (by omega)
  have c:=jz (G:=G) b (l:=a.take (2^i)) (k:=KB) (by rw[alO];omega) (r.take _) (alE _)
  cases i with
  |zero=>
   have s:=A5 (a:=a) (u:=1) (by omega)
   have d:=AE (G:=G) b (l:=a.take 1) (by rw[alO];omega)
   cases q:eV (a.take 1)with
   |true=>
    rw[apB ⟨rfl,rfl⟩];rw[q]at d;exact Spec.r b func118 [] [.call lv,.eb 9 n,.eb 12 m,.eb 15 h,.code f,.prop (jQ (u:=1) o),.eq 38 s,.call d]
   |false=>
    rw[apA (by simp)]
    rw[q]at d;exact Spec.r b func118 [] [.call lv,.eb 9 n,.eb 12 m,.eb 15 h,.code f,.prop (jQ (u:=1) o),.eq 38 s,.call d,.prop (jQ p),.eq 43 e,.call c]
  |succ i=>
   rw[apA (by omega)]
   exact Spec.r b func118 [] [.call lv,.eb 9 n,.eb 12 m,.eb 15 h,.code f,.eb 35 (Zu i),.prop (jQ p),.eq 43 e,.call c]
theorem z4(c:aa G){l:List Rat}{N:Nat}(b:l.length=N)(d:N≤9223372036854775807)(a:xd KB l):Spec zZq G 129 [agz N l] (bool (eV l)):=by
 rw[←m_ b];exact pA c (k:=KB) (by omega) a (alE _)
def two(sw:Bool)(p q:D):List D:=if sw then [q,p]else [p,q]
def tmP(t:aS)(k:Nat)(p q:List Rat):List Rat:=
 if p.length=1 then [p.getD 0 0*q.getD 0 0]else
 if q.length≤p.length/2 then fH (bR t k (p.take (p.length/2)) q) (bR t k (p.drop (p.length/2)) q) (p.length/2)else
 fH (dJ (bR t k (p.take (p.length/2)) (q.take (p.length/2))) (bR t k (bR t k (p.drop (p.length/2)) (q.drop (p.length/2))) (t.getD (Nat.log2 (p.length/2)) [])))
  (dJ (bR t k (p.take (p.length/2)) (q.drop (p.length/2))) (bR t k (p.drop (p.length/2)) (q.take (p.length/2)))) (p.length/2)
theorem Uc(t:aS)(k:Nat)(a b:List Rat):bR t (k+1) a b=if eV a||eV b then []else tmP t k (if a.length<b.length then b else a) (if a.length<b.length then a else b):=rfl
theorem QX{m n:Nat}(h:m<n):decide (zNq m<zNq n)=true:=ay h
theorem ZW{m n:Nat}(h:m≤n):decide (zNq m≤zNq n)=true:=by rw[decide_eq_true_iff];simpa using h
theorem adz{m n:Nat}(h:n<m):decide (zNq m≤zNq n)=false:=by rw[decide_eq_false_iff_not];simpa using h
theorem Fu(a:aa G){t:aS}{p q:List Rat}(sw:Bool)(h:decide (zNq (if sw then q else p).length<zNq (if sw then p else q).length)=sw)(d:p.length≤64)(c:xd KB p)(b:eV p=true):
  Spec zZq G 59 (aP t::two sw (aA p) (aA q)) (aA []):=by
 have z:=pA (G:=G) a (k:=KB) (l:=p) (by omega) c (alE _)
 rw[b]at z;cases sw<;>exact Spec.r a func59 [3] [.eb 18 h,.call z]
theorem Ft(a:aa G){t:aS}{p q:List Rat}(sw:Bool)(h:decide (zNq (if sw then q else p).length<zNq (if sw then p else q).length)=sw)(i:p.length≤64)(g:q.length≤64)(e:xd KB p)(f:xd KB q)
  (d:eV p=false) (c:eV q=true):Spec zZq G 59 (aP t::two sw (aA p) (aA q)) (aA []):=by
 have z:=pA (G:=G) a (k:=KB) (l:=p) (by omega) e (alE _)
 have b:=pA (G:=G) a (k:=KB) (l:=q) (by omega) f (alE _)
 rw[d]at z;rw[c]at b;cases sw<;>exact Spec.r a func59 [3] [.eb 18 h,.call z,.call b]
theorem XK(a:aa G){t:aS}{x y:Rat}(d:xd KB [x])(e:xd KB [y])(g:eV [x]=false)(f:eV [y]=false):
  Spec zZq G 59 [aP t,aA [x],aA [y]] (aA [x*y]):=by
 have z:=pA (G:=G) a (k:=KB) (l:=[x]) (by simp) d (alE _)
 have b:=pA (G:=G) a (k:=KB) (l:=[y]) (by simp) e (alE _)
 rw[g]at z;rw[f]at b;have c:=DD (G:=G) a (d x (by simp)).tW (e y (by simp)).tW (alE _) (alE _)
 exact Spec.r a func59 [3] [.call z,.call b,.call c]
theorem afT(c:aa G){t:aS}{p q i g:List Rat}{j:Nat}(sw:Bool)(h:decide (zNq (if sw then q else p).length<zNq (if sw then p else q).length)=sw)(b:p.length=2^(j+1))(A:j≤5)(m:q.length≤2^j)(x:xd KB p)(y:xd KB q)
    (w:eV p=false) (v:eV q=false)
    (r:Spec zZq G 59 [aP t,aA (p.take (2^j)),aA q] (aA i)) (o:Spec zZq G 59 [aP t,aA (p.drop (2^j)),aA q] (aA g)):
    Spec zZq G 59 (aP t::two sw (aA p) (aA q)) (aA (fH i g (2^j))):=by
  have s:=dg j;have C:=qm (j:=j+1) (by omega)
  have B:2^(j+1)=2^j+2^j:=by rw[al5];omega
  have z:=z4 (G:=G) c (l:=p) b (by omega) x
  have f:=pA (G:=G) c (k:=KB) (l:=q) (by omega) y (alE _)
  have e:=A5 (a:=p) (u:=2^j) (by omega)
  have d:=IT (a:=p) (l:=2^j) (by omega:2^j≤2^(j+1)) b
  have n:=CZ (G:=G) c i g s (by omega:2^j≤1073741824)
  rw[w]at z;rw[v]at f;rw[m_ b];cases sw with
  |false=>
    simp only[b,Bool.false_eq_true,if_false]at h;exact Spec.r c func59 [3] [.eb 18 h,.call z,.call f,.eb 31 (Zu j),.eq 42 (bQ (uB (j:=j) (by omega))),.prop (jQ (u:=2^j) (N:=2^(j+1)) (by omega)),.eq 45 e,.prop (pV (l:=2^j) (u:=2^(j+1)) (N:=2^(j+1)) (by omega) (by omega)),.eq 48 d,
       .eb 52 (ZW m),.call r,.call o,.call n]
  |true=>
    simp only[b,if_true]at h;exact Spec.r c func59 [3] [.eb 18 h,.call z,.call f,.eb 31 (Zu j),.eq 42 (bQ (uB (j:=j) (by omega))),.prop (jQ (u:=2^j) (N:=2^(j+1)) (by omega)),.eq 45 e,.prop (pV (l:=2^j) (u:=2^(j+1)) (N:=2^(j+1)) (by omega) (by omega)),.eq 48 d,
       .eb 52 (ZW m),.call r,.call o,.call n]
theorem acs(c:aa G){t:aS}{p q A w b d y x g:List Rat}{j:Nat}(f:p.length=2^(j+1))(Q:j≤4)(e:q.length=2^(j+1))(s:j<t.length)(E:xd KB p)(P:xd KB q)
    (D:eV p=false) (C:eV q=false)
    (O:Spec zZq G 59 [aP t,aA (p.take (2^j)),aA (q.take (2^j))] (aA A)) (M:Spec zZq G 59 [aP t,aA (p.drop (2^j)),aA (q.drop (2^j))] (aA w))
    (L:Spec zZq G 59 [aP t,aA w,aA (t.getD j [])] (aA b)) (K:Spec zZq G 119 [aA A,aA b] (aA d))
    (J:Spec zZq G 59 [aP t,aA (p.take (2^j)),aA (q.drop (2^j))] (aA y)) (I:Spec zZq G 59 [aP t,aA (p.drop (2^j)),aA (q.take (2^j))] (aA x))
    (H:Spec zZq G 119 [aA y,aA x] (aA g)):
    Spec zZq G 59 [aP t,aA p,aA q] (aA (fH d g (2^j))):=by
  have B:=dg j;have S:=qm (j:=j+1) (by omega)
  have R:2^(j+1)=2^j+2^j:=by rw[al5];omega
  have z:=z4 (G:=G) c (l:=p) f (by omega) E
  have v:=z4 (G:=G) c (l:=q) e (by omega) P
  have r:=A5 (a:=p) (u:=2^j) (by omega)
  have o:=IT (a:=p) (l:=2^j) (by omega:2^j≤2^(j+1)) f
  have i:=A5 (a:=q) (u:=2^j) (by omega)
  have h:=IT (a:=q) (l:=2^j) (by omega:2^j≤2^(j+1)) e
  have F:=CZ (G:=G) c d g B (by omega:2^j≤1073741824)
  have lv:=sV (G:=G) c (k:=j+1) (by omega) (p.flatMap cF)
  rw[D]at z;rw[C]at v;rw[m_ f,m_ e];exact Spec.r c func59 [3] [.eb 18 (aH (alE (2^(j+1)))),.call z,.call v,.eb 31 (Zu j),.eq 42 (bQ (uB (j:=j) (by omega))),.prop (jQ (u:=2^j) (N:=2^(j+1)) (by omega)),.eq 45 r,.prop (pV (l:=2^j) (u:=2^(j+1)) (N:=2^(j+1)) (by omega) (by omega)),.eq 48 o,
     .eb 52 (adz (m:=2^(j+1)) (n:=2^j) (by omega)),.prop (jQ (u:=2^j) (N:=2^(j+1)) (by omega)),.eq 65 i,.prop (pV (l:=2^j) (u:=2^(j+1)) (N:=2^(j+1)) (by omega) (by omega)),.eq 68 h,
     .call lv,.eq 73 (bQ (Ku (j:=j) (by omega))),.prop (oL s),.prop (oM s),.eq 75 (vI s),.call O,.call M,.call L,.call K,.call J,.call I,.call H,.call F]
theorem DZ{k:Nat}{a:List Rat}(b:Sh k a)(c:k≤5):a.length≤32:=by
 have f:=b.len;have d:2^k≤2^5:=al3 (by omega) c
 have e:(2:Nat)^5=32:=by decide
 omega
theorem Jg{a:List Rat}(h:eV a=false):a≠[]:=fun e=>by rw[e,jd]at h;cases h
theorem KE{k:Nat}{a:List Rat}(d:Sh k a)(b:eV a=false)(c:a.length≤1):∃x,a=[x]:=by
 match a,c,b with
 |[],_,b=>rw[jd]at b;cases b
 |[x],_,_=>exact⟨x,rfl⟩
 |_::_::_,c,_=>simp at c
theorem fU(c:aa G){t:aS}{δ:Nat}(e:w5 δ t):∀(k:Nat)(a b:List Rat)(m n:Nat),k≤5→k≤t.length→iU k t→Sh k a→Sh k b→Bt m a→Bt n b→m+n+iR k*δ+ck k≤NB→
  Spec zZq G 59 [aP t,aA a,aA b] (aA (bR t k a b))
 |0,a,b,m,n,_,_,_,z,sb,K,J,Y=>by
  have la:=K.fit (by omega)
  have u:=J.fit (by omega)
  have O:a.length≤1:=by have:=z.len;simpa using this
  have N:b.length≤1:=by have:=sb.len;simpa using this
  unfold bR;cases d:eV a with
  |true=>
   rw[apB (by rfl)]
   rcases alU a.length b.length with h|h
   ·
    cases f:eV b with
    |true=>
     exact Fu c (p:=b) (q:=a) true (QX h) (by omega) u f
    |false=>
     exact Ft c (p:=b) (q:=a) true (QX h) (by omega) (by omega) u la f d
   ·exact Fu c (p:=a) (q:=b) false (aH h) (by omega) la d
  |false=>
   cases f:eV b with
   |true=>
    rw[apB (by rfl)]
    have:0<a.length:=amJ.2 (Jg d);exact Ft c (p:=a) (q:=b) false (aH (show b.length≤a.length by omega)) (by omega) (by omega) la u d f
   |false=>
    rw[apA (by simp)]
    obtain⟨x,rfl⟩:=KE z d O;obtain⟨y,rfl⟩:=KE sb f N;exact XK c la u d f
 |k+1,a,b,m,n,hk,hkt,X,z,sb,K,J,Y=>by
  have g:iU k t:=fun j hj=>X j (by omega)
  have la:=K.fit (by omega)
  have u:=J.fit (by omega)
  have O:=DZ z hk;have N:=DZ sb hk;have eN:iR (k+1)*δ=iR k*δ+iR k*δ+δ:=by simp only[iR];rw[amL,alQ];omega
  simp only[ck]at Y;rw[Uc];have key:∀(l:Bool)(p q:List Rat)(m n:Nat),decide (zNq (if l then q else p).length<zNq (if l then p else q).length)=l→q.length≤p.length→(q.length<p.length∨l=false)→Sh (k+1) p→Sh (k+1) q→Bt m p→Bt n q→xd KB p→xd KB q→p.length≤32→q.length≤32→
    m+n+iR (k+1)*δ+(2*ck k+2)≤NB→Spec zZq G 59 (aP t::two l (aA p) (aA q)) (aA (if eV p||eV q then []else tmP t k p q)):=by
   intro l p q m n v hle I sp sq r o H lq np nq Y;cases d:eV p with
   |true=>rw[apB (by rfl)];exact Fu c l v (by omega) H d
   |false=>
    cases f:eV q with
    |true=>rw[apB (by rfl)];exact Ft c l v (by omega) (by omega) H lq d f
    |false=>
     rw[apA (by simp)]
     have q0:0<q.length:=amJ.2 (Jg f);unfold tmP;rcases sp with rfl|⟨j,hj1,A⟩
     ·rw[jd]at d;cases d
     ·cases j with
      |zero=>
       have h1:p.length=1:=A;rw[apB h1];obtain⟨x,rfl⟩:=KE (k:=k+1) (.inr ⟨0,by omega,A⟩) d (by omega)
       obtain⟨y,rfl⟩:=KE sq f (by omega)
       have:l=false:=by
        rcases I with h|h
        ·simp at h
        ·exact h
       subst this;exact XK c H lq d f
      |succ j=>
       have hn:p.length/2=2^j:=by rw[A,fI]
       have e2:2^(j+1)=2^j+2^j:=by rw[al5];omega
       have pj:=dg j;rw[apA (by omega),hn,iw]
       have D:Sh k (p.take (2^j)):=.inr ⟨j,by omega,by rw[alO];omega⟩
       have w:Sh k (p.drop (2^j)):=.inr ⟨j,by omega,by rw[alP];omega⟩
       by_cases s:q.length≤2^j
       ·rw[apB s]
        have F:Sh k q:=by
         rcases sq with rfl|⟨i,W,P⟩
         ·exact .inl rfl
         ·refine .inr ⟨i,?_,P⟩
          rw[P]at s;have:=(aof (a:=2) (by omega)).1 s
          omega
        exact afT c l v A (by omega) s H lq d f
         (fU c e k _ _ m n (by omega) (by omega) g D F (r.take _) o (by omega))
         (fU c e k _ _ m n (by omega) (by omega) g w F (r.drop _) o (by omega))
       ·rw[apA s]
        have V:q.length=2^(j+1):=by
         rcases sq with rfl|⟨i,W,P⟩
         ·simp at s
         ·rw[P]at hle s⊢
          rw[A]at hle;have g1:=(aof (a:=2) (by omega)).1 hle
          have g2:j<i:=(Nat.pow_lt_pow_iff_right (a:=2) (by omega)).1 (by omega)
          rw[show i=j+1 by omega]
        have:l=false:=by
         rcases I with h|h
         ·omega
         ·exact h
        subst this;have M:Sh k (q.take (2^j)):=.inr ⟨j,by omega,by rw[alO];omega⟩
        have E:Sh k (q.drop (2^j)):=.inr ⟨j,by omega,by rw[alP];omega⟩
        have sd:Sh k (t.getD j []):=.inr ⟨j,by omega,X j (by omega)⟩
        have C:=(fM k _ _ g w E).1;have L:=(r.drop (2^j)).times e (o.drop (2^j)) k;have bxu:=(r.take (2^j)).times e (o.take (2^j)) k;have bxv:=(r.take (2^j)).times e (o.drop (2^j)) k;have Z:=(r.drop (2^j)).times e (o.take (2^j)) k;have byd:=L.times e (e.root j) k;have U:=(fM k _ _ g D M).2;have S:=(fM k _ _ g C sd).2;have Q:=(fM k _ _ g w E).2;have T:=(fM k _ _ g D E).2;have R:=(fM k _ _ g w M).2;have ld:=X j (by omega)
        simp only[List.length_take,List.length_drop]at U Q T R S;exact acs c A (by omega) V (by omega) H lq d f
         (fU c e k _ _ m n (by omega) (by omega) g D M (r.take _) (o.take _) (by omega))
         (fU c e k _ _ m n (by omega) (by omega) g w E (r.drop _) (o.drop _) (by omega))
         (fU c e k _ _ _ δ (by omega) (by omega) g C sd L (e.root j) (by omega))
         (Af c (bxu.fit (by omega)) (byd.fit (by omega)) DC DC (alE _) (alE _) (by omega))
         (fU c e k _ _ m n (by omega) (by omega) g D E (r.take _) (o.drop _) (by omega))
         (fU c e k _ _ m n (by omega) (by omega) g w M (r.drop _) (o.take _) (by omega))
         (Af c (bxv.fit (by omega)) (Z.fit (by omega)) DC DC (alE _) (alE _) (by omega))
  by_cases B:a.length<b.length
  ·rw[apB B,apB B,Bool.or_comm]
   exact key true b a n m (QX B) (by omega) (.inl B) sb z J K u la N O (by omega)
  ·rw[apA B,apA B]
   exact key false a b m n (aH (show b.length≤a.length by omega)) (by omega) (.inr rfl) z sb K J la u O N (by omega)
end Tw
end Lw
namespace Lw
namespace Tw
open Go Go.RowKit Go.Proofs fL
variable {G:World→Prop}
theorem xN(c:aa G){a:List Rat}{n:Nat}(h:Bt n a)(b:n≤NB)(d:a.length≤32):Spec zZq G 64 [aA a] (aA (fp a)):=
 QV c (h.fit b) (alE _) (by omega)
theorem Ah(g:aa G){a b:List Rat}{m n:Nat}(f:Bt m a)(e:Bt n b)(d:m≤NB)(c:n≤NB)(h:a.length≤32)(i:b.length≤32):Spec zZq G 119 [aA a,aA b] (aA (dJ a b)):=
 Af g (f.fit d) (e.fit c) DC DC (alE _) (alE _) (by omega)
theorem Zo(i:aa G){t:aS}{a g f b r:List Rat}{j:Nat}(h:a.length=2^(j+1))(w:j≤4)(e:j<t.length)
    (q:Spec zZq G 59 [aP t,aA (a.take (2^j)),aA (a.take (2^j))] (aA g)) (p:Spec zZq G 59 [aP t,aA (a.drop (2^j)),aA (a.drop (2^j))] (aA f))
    (o:Spec zZq G 59 [aP t,aA f,aA (t.getD j [])] (aA b)) (n:Spec zZq G 64 [aA b] (aA (fp b)))
    (m:Spec zZq G 119 [aA g,aA (fp b)] (aA r)):
    Spec zZq G 135 [aP t,aA a] (aA r):=by
  have v:=dg j;have y:=qm (j:=j+1) (by omega)
  have x:2^(j+1)=2^j+2^j:=by rw[al5];omega
  have d:=A5 (a:=a) (u:=2^j) (by omega)
  have c:=IT (a:=a) (l:=2^j) (by omega:2^j≤2^(j+1)) h
  have lv:=sV (G:=G) i (k:=j+1) (by omega) (a.flatMap cF)
  rw[m_ h];exact Spec.r i func135 [2] [.eq 10 (bQ (uB (j:=j) (by omega))),.prop (jQ (u:=2^j) (N:=2^(j+1)) (by omega)),.eq 13 d,.prop (pV (l:=2^j) (u:=2^(j+1)) (N:=2^(j+1)) (by omega) (by omega)),.eq 16 c,
     .call q,.call p,.call lv,.eq 30 (bQ (Ku (j:=j) (by omega))),.prop (oL e),.prop (oM e),.eq 32 (vI e),.call o,.call n,.call m]
theorem Jc(f:aa G){t:aS}{δ:Nat}(c:w5 δ t){k j:Nat}{a:List Rat}{n:Nat}(z:k≤4)(d:k≤t.length)(e:iU k t)(o:j≤k)(y:j<t.length)(x:(t.getD j []).length=2^j)(u:a.length=2^(j+1))(b:Bt n a)
  (A:n+n+iR (k+1)*δ+ck (k+1)≤NB):Spec zZq G 135 [aP t,aA a] (aA (fZ t k a)):=by
 have D:2^(j+1)=2^j+2^j:=by rw[al5];omega
 have B:iR (k+1)*δ=iR k*δ+iR k*δ+δ:=by simp only[iR];rw[amL,alQ];omega
 have C:ck (k+1)=2*ck k+2:=rfl;have w:a.length/2=2^j:=by rw[u,fI]
 have m:Sh k (a.take (2^j)):=.inr ⟨j,o,by rw[alO];omega⟩
 have l:Sh k (a.drop (2^j)):=.inr ⟨j,o,by rw[alP];omega⟩
 have q:Sh k (t.getD j []):=.inr ⟨j,o,x⟩;have g:=(fM k _ _ e l l).1;have h:=(b.drop (2^j)).times c (b.drop (2^j)) k;have p:=(b.take (2^j)).times c (b.take (2^j)) k;have i:=h.times c (c.root j) k;have v:=DZ (fM k _ _ e m m).1 (by omega)
 have r:=DZ (fM k _ _ e g q).1 (by omega)
 unfold fZ;simp only[w,iw];exact Zo f u (by omega) y
  (fU f c k _ _ n n (by omega) d e m m (b.take _) (b.take _) (by omega))
  (fU f c k _ _ n n (by omega) d e l l (b.drop _) (b.drop _) (by omega))
  (fU f c k _ _ _ δ (by omega) d e g q h (c.root j) (by omega))
  (xN f i (by omega) r)
  (Ah f p i.minus (by omega) (by omega) v (by rw[vR];exact r))
theorem SE(q:Rat): -1≤rW q∧rW q≤1:=by
 rcases uP q with⟨_,e⟩|⟨_,e⟩|⟨_,e⟩<;>omega
theorem S6{x y:Int}(h: -1≤x∧x≤1)(a: -1≤y∧y≤1): -1≤x*y∧x*y≤1:=by
 have:x= -1∨x=0∨x=1:=by omega
 rcases this with rfl|rfl|rfl<;>omega
theorem je(t:aS):∀(k:Nat)(a:List Rat),-1≤iu t k a∧iu t k a≤1
 |0,a=>by unfold iu;exact SE _
 |k+1,a=>by
  unfold iu;simp only;split
  ·omega
  ·split
   ·exact SE _
   ·split
    ·exact je t k _
    ·split
     ·exact je t k _
     ·split
      ·exact je t k _
      ·exact S6 (je t k _) (je t k _)
theorem aid{x:Int}(h: -1≤x∧x≤1):IntKind.wrap .i64 x=x:=py (by omega) (by omega)
theorem aen{x y:Int}(h:x=y):(x==y)=true:=by simpa using h
theorem EC{x y:Int}(h:x≠y):(x==y)=false:=by simpa using h
theorem Mu(b:aa G){t:aS}{a:List Rat}(c:Spec zZq G 118 [aA a] (aA [])):Spec zZq G 65 [aP t,aA a] (int 0):=
 Spec.r b func65 [2] [.call c]
theorem sign_one(b:aa G){t:aS}{a:List Rat}{x:Rat}(d:gU KB x)(c:Spec zZq G 118 [aA a] (aA [x])):Spec zZq G 65 [aP t,aA a] (int (rW x)):=
 Spec.r b func65 [2] [.call c,.call (tx b d.tW (alE _))]
theorem XW(n:aa G){t:aS}{a b N:List Rat}{j:Nat}{X Y Z W:Int}(c:Spec zZq G 118 [aA a] (aA b))(z:b.length=2^(j+1))(F:j≤4)(d:j<t.length)
    (x:Spec zZq G 65 [aP t,aA (b.take (2^j))] (int X)) (w:Spec zZq G 65 [aP t,aA (b.drop (2^j))] (int Y)) (v:Spec zZq G 65 [aP t,aA (t.getD j [])] (int Z))
    (A:Spec zZq G 135 [aP t,aA b] (aA N)) (D:Spec zZq G 65 [aP t,aA N] (int W)) (B: -1≤X∧X≤1) (C: -1≤W∧W≤1):
    Spec zZq G 65 [aP t,aA a] (int (if Z=0 then X else if X=Y∨Y=0 then X else if X=0 then Y else X*W)):=by
  have E:=dg j;have I:=qm (j:=j+1) (by omega)
  have H:2^(j+1)=2^j+2^j:=by rw[al5];omega
  have i:=A5 (a:=b) (u:=2^j) (by omega)
  have g:=IT (a:=b) (l:=2^j) (by omega:2^j≤2^(j+1)) z
  have lv:=sV (G:=G) n (k:=j+1) (by omega) (b.flatMap cF)
  rw[m_ z]at c A;have q:=jQ (u:=2^j) (N:=2^(j+1)) (by omega)
  have p:=pV (l:=2^j) (u:=2^(j+1)) (N:=2^(j+1)) (by omega) (by omega)
  have f:=uB (j:=j) (by omega)
  have e:=Ku (j:=j) (by omega)
  by_cases m:Z=0
  · rw[apB m]
    exact Spec.r n func65 [2] [.call c,.eb 12 (ne0 j),.eb 15 (Zu j),.eq 22 (bQ f),.er 23 (aP t),.prop q,.eq 26 i,.call x,.er 28 (aP t),.prop p,.eq 31 g,.call w,.call lv,.eq 38 (bQ e),.prop (oL d),.prop (oM d),.eq 40 (vI d),.call v,.eb 42 (aen m)]
  · rw[apA m]
    by_cases o:X=Y
    · rw[apB (.inl o)]
      exact Spec.r n func65 [2] [.call c,.eb 12 (ne0 j),.eb 15 (Zu j),.eq 22 (bQ f),.er 23 (aP t),.prop q,.eq 26 i,.call x,.er 28 (aP t),.prop p,.eq 31 g,.call w,.call lv,.eq 38 (bQ e),.prop (oL d),.prop (oM d),.eq 40 (vI d),.call v,.eb 42 (EC m),.eb 47 (aen o)]
    · by_cases r:Y=0
      · rw[apB (.inr r)]
        exact Spec.r n func65 [2] [.call c,.eb 12 (ne0 j),.eb 15 (Zu j),.eq 22 (bQ f),.er 23 (aP t),.prop q,.eq 26 i,.call x,.er 28 (aP t),.prop p,.eq 31 g,.call w,.call lv,.eq 38 (bQ e),.prop (oL d),.prop (oM d),.eq 40 (vI d),.call v,.eb 42 (EC m),.eb 47 (EC o),.eb 50 (aen r)]
      · rw[apA (by rintro(h|h);exact o h;exact r h)]
        by_cases y:X=0
        · rw[apB y]
          exact Spec.r n func65 [2] [.call c,.eb 12 (ne0 j),.eb 15 (Zu j),.eq 22 (bQ f),.er 23 (aP t),.prop q,.eq 26 i,.call x,.er 28 (aP t),.prop p,.eq 31 g,.call w,.call lv,.eq 38 (bQ e),.prop (oL d),.prop (oM d),.eq 40 (vI d),.call v,.eb 42 (EC m),.eb 47 (EC o),.eb 50 (EC r),.eb 55 (aen y)]
        · rw[apA y]
          exact Spec.r n func65 [2] [.call c,.eb 12 (ne0 j),.eb 15 (Zu j),.eq 22 (bQ f),.er 23 (aP t),.prop q,.eq 26 i,.call x,.er 28 (aP t),.prop p,.eq 31 g,.call w,.call lv,.eq 38 (bQ e),.prop (oL d),.prop (oM d),.eq 40 (vI d),.call v,.eb 42 (EC m),.eb 47 (EC o),.eb 50 (EC r),.eb 55 (EC y),
             .call A,.call D,.eq 63 (bQ (aid (S6 B C)))]
theorem A6{k:Nat}{a:List Rat}(c:Sh k a):dO a=[]∨(∃x,dO a=[x])∨∃j,j+1≤k∧(dO a).length=2^(j+1):=by
 rcases g9 c with h|⟨j,d,b⟩
 ·exact .inl h
 ·cases j with
  |zero=>exact .inr (.inl (ams.1 b))
  |succ j=>exact .inr (.inr ⟨j,d,b⟩)
theorem pE(d:aa G){t:aS}{δ:Nat}(g:w5 δ t):∀(k:Nat)(a:List Rat)(n:Nat),k≤5→k≤t.length→iU k t→Sh k a→Bt n a→sb δ k n≤NB→
  Spec zZq G 65 [aP t,aA a] (int (iu t k a))
 |0,a,n,_,_,_,f,l,q=>by
  have la:=l.fit q;have c:=pR (G:=G) d f (by omega) la
  unfold iu;rcases A6 f with h|⟨x,h⟩|⟨j,h,-⟩
  ·have e:a.getD 0 0=0:=by rw[←j5 f,h];rfl
   rw[e];rw[h]at c;exact Mu d c
  ·have e:a.getD 0 0=x:=by rw[←j5 f,h];rfl
   rw[e];rw[h]at c;exact sign_one d ((l.short f).fit q x (by rw[h];simp)) c
  ·omega
 |k+1,a,n,F,B,o,f,l,q=>by
  have m:iU k t:=fun j C=>o j (by omega)
  have E:=qZ δ (k+1) n;have A:=qZ δ k (n+n+iR (k+1)*δ+ck (k+1));have eS:sb δ (k+1) n=sb δ k (n+n+iR (k+1)*δ+ck (k+1)):=rfl;have y:=aeZ δ k n;have z:=acW δ k n;have la:=l.fit (by omega)
  have c:=pR (G:=G) d f (by omega) la
  have i:=l.short f;unfold iu;simp only;rcases A6 f with h|⟨x,h⟩|⟨j,C,h⟩
  ·rw[h]at c⊢
   rw[apB (show([]:List Rat).length=0 from rfl)]
   exact Mu d c
  ·rw[apA (by rw[h];simp),apB (by rw[h];rfl)]
   have w:=i.fit (by omega) x (by rw[h];simp)
   rw[h]at c⊢;exact sign_one d w c
  ·have H:2^(j+1)=2^j+2^j:=by rw[al5];omega
   have D:=dg j;generalize dO a=b at h c i;have p:b.length/2=2^j:=by rw[h,fI]
   rw[apA (by omega),apA (by omega),p,iw]
   have u:Sh k (b.take (2^j)):=.inr ⟨j,by omega,by rw[alO];omega⟩
   have r:Sh k (b.drop (2^j)):=.inr ⟨j,by omega,by rw[alP];omega⟩
   have v:Sh k (t.getD j []):=.inr ⟨j,by omega,o j (by omega)⟩
   exact XW d c h (by omega) (by omega)
    (pE d g k _ n (by omega) (by omega) m u (i.take _) (by omega))
    (pE d g k _ n (by omega) (by omega) m r (i.drop _) (by omega))
    (pE d g k _ δ (by omega) (by omega) m v (g.root j) (by omega))
    (Jc d g (k:=k) (j:=j) (by omega) (by omega) m (by omega) (by omega) (o j (by omega)) h i (by omega))
    (pE d g k _ _ (by omega) (by omega) m (uX o (by omega) h k (by omega) (by omega)) (i.norm g k) (by omega))
    (je t k _) (je t k _)
theorem inv_one(b:aa G){t:aS}{a:List Rat}{x:Rat}(f:gU KB x)(g:x≠0)(c:Spec zZq G 118 [aA a] (aA [x])):Spec zZq G 319 [aP t,aA a] (aA [x⁻¹]):=by
 have d:=DE (G:=G) b (afU (k:=1) (by omega)).tW f.tW (by rw[pd];omega) (alE _) g
 have e:((1:Int):Rat)/x=x⁻¹:=by rw[aoO];exact Rat.one_mul _
 rw[e]at d;exact Spec.r b func319 [2] [.call c,.call (dA b (i:=1) (by omega) (by omega)),.call d]
theorem inv_zero(i:aa G){t:aS}{a b m r:List Rat}{j:Nat}(c:Spec zZq G 118 [aA a] (aA b))(h:b.length=2^(j+1))(p:j≤4)
  (g:Spec zZq G 135 [aP t,aA b] (aA m)) (n:Spec zZq G 65 [aP t,aA m] (int 0))
  (l:Spec zZq G 119 [aA (b.take (2^j)),aA (b.take (2^j))] (aA (dJ (b.take (2^j)) (b.take (2^j))))) (k:Spec zZq G 319 [aP t,aA (dJ (b.take (2^j)) (b.take (2^j)))] (aA r)):
  Spec zZq G 319 [aP t,aA a] (aA r):=by
 have o:=dg j;have q:2^(j+1)=2^j+2^j:=by rw[al5];omega
 have d:=A5 (a:=b) (u:=2^j) (by omega)
 rw[m_ h]at c g;have f:=jQ (u:=2^j) (N:=2^(j+1)) (by omega)
 have e:=uB (j:=j) (by omega)
 exact Spec.r i func319 [2] [.call c,.eb 13 (Zu j),.eq 26 (bQ e),.call g,.call n,.er 34 (aP t),.prop f,.eq 37 d,.prop f,.eq 40 d,.call l,.call k]
theorem adM(i:aa G){t:aS}{a b m r g:List Rat}{j:Nat}{Z:Int}(c:Spec zZq G 118 [aA a] (aA b))(h:b.length=2^(j+1))(A:j≤4)(q:Z≠0)
  (k:Spec zZq G 135 [aP t,aA b] (aA m)) (z:Spec zZq G 65 [aP t,aA m] (int Z))
  (y:Spec zZq G 64 [aA (b.drop (2^j))] (aA (fp (b.drop (2^j))))) (x:Spec zZq G 319 [aP t,aA m] (aA g))
  (w:Spec zZq G 59 [aP t,aA (fH (b.take (2^j)) (fp (b.drop (2^j))) (2^j)),aA g] (aA r)):
  Spec zZq G 319 [aP t,aA a] (aA r):=by
 have n:=dg j;have C:=qm (j:=j+1) (by omega)
 have B:2^(j+1)=2^j+2^j:=by rw[al5];omega
 have f:=A5 (a:=b) (u:=2^j) (by omega)
 have e:=IT (a:=b) (l:=2^j) (by omega:2^j≤2^(j+1)) h
 have v:=CZ (G:=G) i (b.take (2^j)) (fp (b.drop (2^j))) n (by omega:2^j≤1073741824)
 rw[m_ h]at c k;have p:=jQ (u:=2^j) (N:=2^(j+1)) (by omega)
 have o:=pV (l:=2^j) (u:=2^(j+1)) (N:=2^(j+1)) (by omega) (by omega)
 have d:=uB (j:=j) (by omega)
 exact Spec.r i func319 [2] [.call c,.eb 13 (Zu j),.eq 26 (bQ d),.call k,.call z,.eb 33 (EC q),.er 43 (aP t),.prop p,.eq 46 f,.prop o,.eq 49 e,.call y,.call v,.call x,.call w]
section model
open zY fw
variable {K:Type} [fw K] (ι:r7 Rat K) (s:Nat→K)
theorem Z7{t:aS}{k j:Nat}{b:List Rat}(o:iU (k+1) t)(f:Model ι s t (k+1))(A:j≤k)(v:b.length=2^(j+1))(g:lv ι s (k+1) b≠0):
  (iu t k (fZ t k b)=0→lv ι s k (dJ (b.take (2^j)) (b.take (2^j)))≠0)∧(iu t k (fZ t k b)≠0→lv ι s k (fZ t k b)≠0):=by
 have c:iU k t:=fun j n=>o j (by omega)
 have a:Model ι s t k:=⟨fun j n=>f.nn j (by omega),fun j n=>f.sq j (by omega)⟩
 have D:2^(j+1)=2^j+2^j:=by rw[al5];omega
 have w:=dg j;have y:b.length/2=2^j:=by rw[v,fI]
 have low:∀l:List Rat,l.length≤2^j→lv ι s k l=lv ι s j l:=fun l z=>mD ι s z (by omega)
 have m:Sh k (b.take (2^j)):=.inr ⟨j,by omega,by rw[alO];omega⟩
 have i:Sh k (b.drop (2^j)):=.inr ⟨j,by omega,by rw[alP];omega⟩
 have B:=o j (by omega)
 have r:Sh k (t.getD j []):=.inr ⟨j,by omega,B⟩
 have p:lv ι s (k+1) b=lv ι s k (b.take (2^j))+lv ι s k (b.drop (2^j))*s j:=by
  rw[mD ι s (j:=j+1) (by omega) (by omega),yJ ι s b,low _ (by rw[alO];omega),low _ (by rw[alP];omega)]
 have sq:s j*s j=lv ι s k (t.getD j []):=by rw[f.sq j (by omega),low _ (by omega)]
 obtain⟨s1,v1,-⟩:=gD ι s k _ _ c a m m;obtain⟨s2,v2,-⟩:=gD ι s k _ _ c a i i;obtain⟨u,q,-⟩:=gD ι s k _ _ c a s2 r;have h:Sh k (fZ t k b)∧lv ι s k (fZ t k b)=lv ι s k (b.take (2^j))*lv ι s k (b.take (2^j))-lv ι s k (b.drop (2^j))*lv ι s k (b.drop (2^j))*lv ι s k (t.getD j []):=by
  unfold fZ;simp only[y,iw];refine⟨s1.plus u.minus,?_⟩;rw[oU,qv,v1,q,v2,sub_def']
 rw[mO ι s k _ c a h.1];rw[p]at g;rw[←sq]at h;refine⟨fun d=>?_,fun d e=>d (ny.2 e)⟩
 rw[ny,h.2]at d;have x:(lv ι s k (b.take (2^j))+lv ι s k (b.drop (2^j))*s j)*(lv ι s k (b.take (2^j))-lv ι s k (b.drop (2^j))*s j)=0:=by
  rw[←d];exact rg [lv ι s k (b.take (2^j)),lv ι s k (b.drop (2^j)),s j]
 have he:=fx.1 ((mul_eq_zero x).resolve_left g);rw[oU];intro C;refine g ?_;rw[←he];exact C
theorem vY(d:aa G){t:aS}{δ:Nat}(l:w5 δ t):∀(k:Nat)(a:List Rat)(n:Nat),k≤5→k≤t.length→iU k t→Model ι s t k→Sh k a→Bt n a→lv ι s k a≠0→sb δ k n≤NB→ib δ k n≤NB→
  Spec zZq G 319 [aP t,aA a] (aA (iS t k a))
 |0,a,n,_,_,_,_,g,r,i,P,Q=>by
  have N:=Tf δ 0 n;have la:=r.fit (by omega)
  have c:=pR (G:=G) d g (by omega) la
  have R:lv ι s 0 a=ι.φ (a.getD 0 0):=rfl;have D:a.getD 0 0≠0:=fun h=>i (by rw[R,h,ι.zero])
  unfold iS;rcases A6 g with h|⟨x,h⟩|⟨j,h,-⟩
  ·exfalso;apply D
   rw[←j5 g,h];rfl
  ·have e:a.getD 0 0=x:=by rw[←j5 g,h];rfl
   rw[e]at D⊢;have o:=(r.short g).fit (by omega) x (by rw[h];simp)
   rw[h]at c;exact inv_one d o D c
  ·omega
 |k+1,a,n,O,B,u,C,g,r,i,P,Q=>by
  have q:iU k t:=fun j w=>u j (by omega)
  have y:Model ι s t k:=⟨fun j w=>C.nn j (by omega),fun j w=>C.sq j (by omega)⟩
  have N:=Tf δ (k+1) n;have M:=qZ δ k (n+n+iR (k+1)*δ+ck (k+1));have eS:sb δ (k+1) n=sb δ k (n+n+iR (k+1)*δ+ck (k+1)):=rfl;have Z:ib δ (k+1) n=n+n+ib δ k (n+n+iR (k+1)*δ+ck (k+1))+iR (k+1)*δ+ck (k+1):=rfl;have eC:ck (k+1)=2*ck k+2:=rfl;have la:=r.fit (by omega)
  have c:=pR (G:=G) d g (by omega) la
  have f:=r.short g;rw[←mQ ι s g]at i;unfold iS;simp only;rcases A6 g with h|⟨x,h⟩|⟨j,w,h⟩
  ·rw[h]at i
   exact apC (Al ι s _) i
  ·rw[apB (by rw[h];rfl)]
   have o:=f.fit (by omega) x (by rw[h];simp)
   rw[h]at c i⊢;rw[CW]at i;exact inv_one d o (fun e=>i (by rw[show x=0 from e,ι.zero])) c
  ·have e2:2^(j+1)=2^j+2^j:=by rw[al5];omega
   have V:=dg j;generalize dO a=b at h c f i;have A:b.length/2=2^j:=by rw[h,fI]
   rw[apA (by omega),A]
   obtain⟨J,F⟩:=Z7 ι s u C (by omega) h i
   have z:Sh k (b.take (2^j)):=.inr ⟨j,by omega,by rw[alO];omega⟩
   have o:(b.take (2^j)).length≤32:=DZ z (by omega)
   have Y:b.length≤32:=DZ (k:=k+1) (.inr ⟨j+1,w,h⟩) (by omega)
   have v:Sh k (fZ t k b):=uX u (by omega) h k (by omega) (by omega)
   have E:=f.norm l k;have H:=Jc (G:=G) d l (k:=k) (j:=j) (by omega) (by omega) q (by omega) (by omega) (u j (by omega)) h f (by omega)
   have cs:=pE (G:=G) d l k _ _ (by omega) (by omega) q v E (by omega)
   split
   ·rename_i p
    rw[p]at cs;have S:=(f.take (2^j)).plus (f.take (2^j));have X:=mj δ k (m:=n+n+1) (n:=n+n+iR (k+1)*δ+ck (k+1)) (by omega)
    have W:=KX δ k (m:=n+n+1) (n:=n+n+iR (k+1)*δ+ck (k+1)) (by omega)
    exact inv_zero d c h (by omega) H cs (Ah d (f.take _) (f.take _) (by omega) (by omega) o o)
     (vY d l k _ _ (by omega) (by omega) q y (z.plus z) S (J p) (by omega) (by omega))
   ·rename_i p
    have I:Sh (k+1) (fH (b.take (2^j)) (fp (b.drop (2^j))) (2^j)):=.inr ⟨j+1,by omega,by rw[jS];omega⟩
    have L:(b.drop (2^j)).length≤32:=by rw[alP];omega
    obtain⟨i1,-⟩:=BL ι s k _ q y v (F p);have U:=Bt.inv l k _ _ q v E;have T:=(f.take (2^j)).join (f.drop (2^j)).minus (2^j);exact adM d c h (by omega) p H cs (xN d (f.drop _) (by omega) L)
     (vY d l k _ _ (by omega) (by omega) q y v E (F p) (by omega) (by omega))
     (fU d l (k+1) _ _ _ _ O B u I (i1.mono (by omega:k≤k+1)) T U (by omega))
end model
theorem HH(a:aa G){q:Rat}(h:gU KB q):Spec zZq G 42 [F q] (bool true):=by
 have:=qC (G:=G) a (r:=jR q) h.ok (alE _);rw[DR]at this;exact this
def Jb(t:aS)(l:List Rat)(i:Nat):St:=lay 34 [(2,.aV [.row t.length false (t.map aA)]),(23,aA l),(24,nat l.length),(25,nat i)] []
theorem Zm(b:aa G){t:aS}{l:List Rat}{i:Nat}(a:i<l.length)(f:l.length≤32)(d:xd KB l):
  ak zZq G 0 (ah f117 0) (Jb t l i) .normal (Jb t l (i+1)):=by
 have e:=cg bZ a 0;have c:=HH (G:=G) b (d _ (aN a 0));exact ak.r b [.eb 26 (ay a),.prop (aC bZ (by omega) a),.prop (av bZ (by omega) a),.eq 28 e,.call c,.eq 33 (bQ (aI a (by omega)))]
theorem adx(a:aa G){t:aS}{l:List Rat}(d:l.length≤32)(b:xd KB l):
  bT zZq G 34 0 (.loop (ah f117 0)) (Jb t l 0) (.exit 0) (Jb t l l.length):=
 bT.c (fun i=>Jb t l i) l.length
  (fun i c=>Zm a c d b) (ak.r a [.eb 26 (aH (alE l.length))])
theorem DW(c:aa G){t:aS}{a:List Rat}(e:Sh t.length a)(f:t.length≤5)(g:xd KB a):Spec zZq G 117 [aP t,aA a] (.lit .nilIface):=by
 have b:=adx (G:=G) c (t:=t) (DZ e f) g;rcases e with rfl|⟨j,n,d⟩
 ·exact Spec.r c func117 [2] [.code b]
 ·have lv:=sV (G:=G) c (k:=j) (by omega) (a.flatMap cF)
  have m:=dg j;have l:decide (zNq (2^j)>0)=true:=by rw[decide_eq_true_iff];simp only[zKq];omega
  have i:decide (zNq j<0)=false:=by rw[decide_eq_false_iff_not];simp only[zKq];omega
  have h:decide (zNq j>zNq t.length)=false:=by rw[decide_eq_false_iff_not];simp only[zKq];omega
  unfold Jb at b;rw[d,m_ d]at b;rw[m_ d];exact Spec.r c func117 [2] [.eb 10 l,.call lv,.eb 14 i,.eb 20 h,.code b]
end Tw
end Lw
namespace Lw
namespace fL
open zY fw
structure me(t:aS):Prop where
 len:t.length≤5
 sh:iU t.length t
 nn:∀k,k<t.length→0≤iu (t.take k) k (t.getD k [])
theorem IL(t:aS)(k j:Nat)(h:j<k):(t.take k).getD j []=t.getD j []:=by
 simp only[List.getD_eq_getElem?_getD,List.getElem?_take,if_pos h]
theorem PY(t:aS)(k j:Nat):(t.take k).getD j []=t.getD j []∨(t.take k).getD j []=[]:=by
 simp only[List.getD_eq_getElem?_getD,List.getElem?_take];split
 ·exact .inl rfl
 ·exact .inr rfl
theorem w5.take{δ:Nat}{t:aS}(h:w5 δ t)(k:Nat):w5 δ (t.take k):=by
 obtain⟨Δ,Β,d,c,b,a⟩:=h;refine⟨Δ,Β,d,c,b,fun j=>?_⟩
 rcases PY t k j with e|e
 ·rw[e];exact a j
 ·rw[e];exact .nil _ _
theorem iU.take{n:Nat}{t:aS}(h:iU n t)(k:Nat)(b:k≤n):iU k (t.take k):=fun j a=>by
 rw[IL t k j a];exact h j (by omega)
theorem Model.take{K:Type}[fw K]{ι:r7 Rat K}{s:Nat→K}{t:aS}{n k:Nat}(h:Model ι s t n)(b:k≤n):Model ι s (t.take k) k:=
 ⟨fun j a=>h.nn j (by omega),fun j a=>by rw[IL t k j a];exact h.sq j (by omega)⟩
theorem me.nil:me []:=⟨by simp,fun j b=>by simp at b,fun k a=>by simp at a⟩
theorem Model.extend{K:Type}[fw K]{ι:r7 Rat K}{s:Nat→K}{t:aS}{n:Nat}(j:Model ι s t n)(d:List Rat)(m:fw.nn (lv ι s n d)):
  ∃(c:Type)(_:fw c)(f:r7 K c)(r:c),fw.nn r∧r*r=f.φ (lv ι s n d)∧Model (f.comp ι) (fun i=>if i=n then r else f.φ (s i)) t n∧
   (∀k g,k≤n→lv (f.comp ι) (fun i=>if i=n then r else f.φ (s i)) k g=f.φ (lv ι s k g)):=by
 obtain⟨c,_,f,r,l,e⟩:=ahZ K (lv ι s n d) m;have b:∀k g,k≤n→V (f.comp ι) (fun i=>if i=n then r else f.φ (s i)) k g=f.φ (V ι s k g):=by
  intro k;induction k with
  |zero=>intro g _;rfl
  |succ k h=>
   intro g a;simp only[V];rw[h _ (by omega),h _ (by omega),apA (by omega),f.add,f.mul]
 refine⟨c,inferInstance,f,r,l,e,⟨fun k a=>?_,fun k a=>?_⟩,fun k g a=>b k _ a⟩
 ·simp only[if_neg (show k≠n by omega)]
  rcases j.nn k a with g|g
  ·exact .inl (f.pos _ g)
  ·rw[g,f.zero];exact .inr rfl
 ·simp only[if_neg (show k≠n by omega)]
  rw[←f.mul,j.sq k a];exact(b k _ (by omega)).symm
theorem me.model{t:aS}(h:me t):∀n,n≤t.length→∃(K:Type)(_:fw K)(ι:r7 Rat K)(s:Nat→K),Model ι s t n
 |0,_=>⟨Rat,inferInstance,r7.id Rat,fun _=>0,⟨fun k h=>apC h (by omega),fun k h=>apC h (by omega)⟩⟩
 |n+1,p=>by
  obtain⟨K,_,ι,s,d⟩:=h.model n (by omega)
  have m:Sh n (t.getD n []):=.of (h.sh n (by omega))
  have c:=h.nn n (by omega)
  rw[mO ι s n _ (h.sh.take n (by omega)) (d.take (alE n)) m,aeX]at c
  obtain⟨o,_,f,r,j,a,b,g⟩:=d.extend _ c;refine⟨o,inferInstance,f.comp ι,fun i=>if i=n then r else f.φ (s i),⟨fun k l=>?_,fun k l=>?_⟩⟩
  ·by_cases e:k=n
   ·simp only[e,if_true];exact j
   ·exact b.nn k (by omega)
  ·by_cases e:k=n
   ·subst e
    simp only[if_true];rw[a];exact(g k _ (alE _)).symm
   ·exact b.sq k (by omega)
end fL
namespace Tw
open Go Go.RowKit Go.Proofs fL
variable {G:World→Prop}
def TK(t:aS)(i:Nat):St:=lay 43 [(1,.aV [.row t.length false (t.map aA)]),(13,.row t.length false (t.map aA)),(14,nat t.length),(15,nat i)] []
theorem XG{t:aS}{i:Nat}(h:i≤t.length):D.row ((zNq i).toNat-(0:Int).toNat) false (((t.map aA).drop ((0:Int).toNat*1)).take (((zNq i).toNat-(0:Int).toNat)*1))=.row (t.take i).length false ((t.take i).map aA):=by
 have b:(zNq i).toNat=i:=rfl;have a:(0:Int).toNat=0:=rfl;rw[b,a,am6,Nat.sub_zero,amH,amS,aoi,alO,an9 h]
theorem acP{i:Nat}(h:i≤5):IntKind.wrap .i64 ((1:Int)*2^min (zNq i).toNat (IntKind.bits .i64))=zNq (2^i):=by
 have:i=0∨i=1∨i=2∨i=3∨i=4∨i=5:=by omega
 rcases this with rfl|rfl|rfl|rfl|rfl|rfl<;>decide
theorem abq(h:aa G){t:aS}{i δ:Nat}(ok:me t)(l:w5 δ t)(n:sb δ t.length δ≤NB)(c:i<t.length):
    ak zZq G 0 (ah f50 0) (TK t i) .normal (TK t (i+1)):=by
  have w:=ok.len;have g:=ok.sh i c;have b:=l.root i;have p:δ≤NB:=alJ (qZ δ t.length δ) n;have j:=XG (t:=t) (i:=i) (by omega)
  have v:(t.take i).length=i:=by rw[alO];omega
  have o:=DW (G:=G) h (t:=t.take i) (a:=t.getD i []) (by rw[v];exact .of g) (by omega) (b.fit p)
  have f:∀m,i≤m→sb δ i δ≤sb δ m δ:=by
    intro m r;obtain⟨d,rfl⟩:∃d,m=i+d:=⟨m-i,by omega⟩
    clear r;induction d with
    |zero=>exact alE _
    |succ d q=>exact alJ q (aeZ δ _ δ)
  have k:=pE (G:=G) h (l.take i) i (t.getD i []) δ (by omega) (by omega) (ok.sh.take i (by omega)) (.of g) b (alJ (f t.length (by omega)) n)
  have nn:=ok.nn i c;generalize iu (t.take i) i (t.getD i [])=Z at k nn;have s:decide (Z<0)=false:=by rw[decide_eq_false_iff_not];omega
  have e:=vI c;generalize t.getD i []=d at*;rw[m_ g]at e o k;exact ak.r h [.eb 16 (ay c),.prop (oL c),.prop (oM c),.eq 19 e,.eq 23 (bQ (acP (i:=i) (by omega))),.eb 24 (x:=(zNq (2^i) !=zNq (2^i))) (y:=false) (by simp),
     .er 28 (nat i),.prop (jQ (u:=i) (N:=t.length) (by omega)),.eq 29 j,.call o,.call k,.eb 40 s,.eq 42 (bQ (aI c (by omega)))]
theorem tA(a:aa G){t:aS}{δ:Nat}(ok:me t)(d:w5 δ t)(e:sb δ t.length δ≤NB):Spec zZq G 50 [aP t] (.lit .nilIface):=by
 have f:=ok.len;have b:=bT.z zZq G (ah f50 0) (.exit 0) (TK t t.length) (fun i=>TK t i) t.length
  (fun i c=>abq a ok d e c) (ak.r a [.eb 16 (aH (alE t.length))])
 have g:decide (zNq t.length>5)=false:=by rw[decide_eq_false_iff_not];simp only[Int.ofNat_eq_natCast];omega
 exact Spec.r a func50 [1] [.eb 10 g,.code b]
structure n7(δ:Nat)(t:aS):Prop where
 ok:me t
 bt:w5 δ t
 sz:sb δ t.length δ≤NB
structure aQ(n:Nat)(t:aS)(a:List Rat):Prop where
 sh:Sh t.length a
 bt:Bt n a
theorem aQ.nil(n:Nat)(t:aS):aQ n t []:=⟨.nil _,.nil _⟩
theorem aQ.mono{m n:Nat}{t:aS}{a:List Rat}(h:aQ m t a)(b:m≤n):aQ n t a:=⟨h.sh,h.bt.mono b⟩
theorem aQ.len{n:Nat}{t:aS}{a:List Rat}(h:aQ n t a)(ok:me t):a.length≤32:=DZ h.sh ok.len
theorem vP(e:aa G){t:aS}{δ n:Nat}{a:List Rat}(d:n7 δ t)(b:aQ n t a)(c:n≤NB):Spec zZq G 117 [aP t,aA a] (.lit .nilIface):=
 DW e b.sh d.ok.len (b.bt.fit c)
theorem rI(c:aa G){t:aS}{δ n:Nat}{a:List Rat}(b:n7 δ t)(e:aQ n t a)(d:n≤NB):Spec zZq G 56 [aP t,.row 1 false [aA a]] (.lit .nilIface):=
 Spec.r c func56 [2] [.call (tA c b.ok b.bt b.sz),.call (vP c b e d)]
theorem o7(d:aa G){t:aS}{δ m n:Nat}{a b:List Rat}(c:n7 δ t)(h:aQ m t a)(g:aQ n t b)(f:m≤NB)(e:n≤NB):Spec zZq G 56 [aP t,.row 2 false [aA a,aA b]] (.lit .nilIface):=
 Spec.r d func56 [2] [.call (tA d c.ok c.bt c.sz),.call (vP d c h f),.call (vP d c g e)]
theorem Hx(b:aa G){t:aS}{δ n:Nat}{a:List Rat}(e:n7 δ t)(d:aQ n t a)(c:n≤NB):Spec zZq G 157 [aP t,aA a] (bool true):=
 Spec.r b func157 [2] [.call (rI b e d c)]
theorem qB(d:aa G){t:aS}{n:Nat}{a:List Rat}(ok:me t)(b:aQ n t a)(c:n≤NB):Spec zZq G 118 [aA a] (aA (dO a)):=
 pR d b.sh ok.len (b.bt.fit c)
theorem aQ.plus{m n:Nat}{t:aS}{a b:List Rat}(d:aQ m t a)(c:aQ n t b):aQ (m+n+1) t (dJ a b):=⟨d.sh.plus c.sh,d.bt.plus c.bt⟩
theorem aQ.minus{n:Nat}{t:aS}{a:List Rat}(b:aQ n t a):aQ n t (fp a):=⟨b.sh.minus,b.bt.minus⟩
theorem aQ.short{n:Nat}{t:aS}{a:List Rat}(b:aQ n t a):aQ n t (dO a):=⟨g9 b.sh,b.bt.short b.sh⟩
def tb(δ k:Nat):Nat:=iR k*δ+ck k
theorem aQ.times{m n δ:Nat}{t:aS}{a b:List Rat}(e:n7 δ t)(d:aQ m t a)(c:aQ n t b):aQ (m+n+tb δ t.length) t (bR t t.length a b):=
 ⟨(fM _ _ _ e.ok.sh d.sh c.sh).1,(d.bt.times e.bt c.bt t.length).mono (by unfold tb;omega)⟩
theorem aQ.inv{n δ:Nat}{t:aS}{a:List Rat}(b:n7 δ t)(c:aQ n t a)(f:a7 t a≠0):aQ (ib δ t.length n) t (iS t t.length a):=by
 refine⟨?_,Bt.inv b.bt _ _ _ b.ok.sh c.sh c.bt⟩;obtain⟨K,_,ι,s,d⟩:=b.ok.model t.length (alE _);refine(BL ι s _ _ b.ok.sh d c.sh fun e=>f ?_).1
 unfold a7;rw[mO ι s _ _ b.ok.sh d c.sh,e,fw.iE]
theorem xM(d:aa G){t:aS}{n:Nat}{a:List Rat}(ok:me t)(b:aQ n t a)(c:n≤NB):Spec zZq G 64 [aA a] (aA (fp a)):=
 xN d b.bt c (b.len ok)
theorem Ag(g:aa G){t:aS}{m n:Nat}{a b:List Rat}(ok:me t)(d:aQ m t a)(c:aQ n t b)(f:m≤NB)(e:n≤NB):Spec zZq G 119 [aA a,aA b] (aA (dJ a b)):=
 Ah g d.bt c.bt f e (d.len ok) (c.len ok)
theorem DK(f:aa G){t:aS}{δ m n:Nat}{a b:List Rat}(c:n7 δ t)(e:aQ m t a)(d:aQ n t b)(h:m+n+tb δ t.length≤NB):Spec zZq G 59 [aP t,aA a,aA b] (aA (bR t t.length a b)):=
 fU f c.bt _ _ _ _ _ c.ok.len (alE _) c.ok.sh e.sh d.sh e.bt d.bt (by unfold tb at h;omega)
theorem lS(d:aa G){t:aS}{δ n:Nat}{a:List Rat}(b:n7 δ t)(c:aQ n t a)(h:sb δ t.length n≤NB):Spec zZq G 65 [aP t,aA a] (int (a7 t a)):=
 pE d b.bt _ _ _ b.ok.len (alE _) b.ok.sh c.sh c.bt h
theorem H7(f:aa G){t:aS}{δ n:Nat}{a:List Rat}(b:n7 δ t)(c:aQ n t a)(g:a7 t a≠0)(h:sb δ t.length n≤NB)(i:ib δ t.length n≤NB):
  Spec zZq G 319 [aP t,aA a] (aA (iS t t.length a)):=by
 obtain⟨K,_,ι,s,d⟩:=b.ok.model t.length (alE _);refine vY ι s f b.bt _ _ _ b.ok.len (alE _) b.ok.sh d c.sh c.bt (fun e=>g ?_) h i
 unfold a7;rw[mO ι s _ _ b.ok.sh d c.sh,e,fw.iE]
theorem oz(b:aa G){t:aS}{δ n:Nat}{a:List Rat}(d:n7 δ t)(c:aQ n t a)(h:sb δ t.length n≤NB):Spec zZq G 23 [aP t,aA a] (.aY [int (a7 t a),.lit .nilIface]):=
 Spec.r b func23 [2] [.call (rI b d c (alJ (qZ _ _ _) h)),.call (lS b d c h)]
theorem ym(b:aa G){t:aS}{δ n:Nat}{a:List Rat}(e:n7 δ t)(d:aQ n t a)(c:n≤NB):Spec zZq G 51 [aP t,aA a] (.aY [aA (xI a),.lit .nilIface]):=
 Spec.r b func51 [2] [.call (rI b e d c),.call (xM b e.ok d c),.call (qB b e.ok d.minus c)]
theorem Cj(c:aa G){t:aS}{δ m n:Nat}{a b:List Rat}(f:n7 δ t)(e:aQ m t a)(d:aQ n t b)(h:m+n+1≤NB):Spec zZq G 316 [aP t,aA a,aA b] (.aY [aA (o9 a b),.lit .nilIface]):=
 Spec.r c func316 [3] [.call (o7 c f e d (by omega) (by omega)),.call (Ag c f.ok e d (by omega) (by omega)),.call (qB c f.ok (e.plus d) h)]
theorem PA(c:aa G){t:aS}{δ m n:Nat}{a b:List Rat}(e:n7 δ t)(f:aQ m t a)(d:aQ n t b)(h:m+n+1≤NB):Spec zZq G 312 [aP t,aA a,aA b] (.aY [aA (jg a b),.lit .nilIface]):=
 Spec.r c func312 [3] [.call (o7 c e f d (by omega) (by omega)),.call (xM c e.ok d (by omega)),.call (Ag c e.ok f d.minus (by omega) (by omega)),.call (qB c e.ok (f.plus d.minus) h)]
theorem kP(d:aa G){t:aS}{δ m n:Nat}{a b:List Rat}(c:n7 δ t)(f:aQ m t a)(e:aQ n t b)(h:m+n+tb δ t.length≤NB):Spec zZq G 317 [aP t,aA a,aA b] (.aY [aA (mulL t a b),.lit .nilIface]):=
 Spec.r d func317 [3] [.call (o7 d c f e (by omega) (by omega)),.call (DK d c f e h),.call (qB d c.ok (f.times c e) h)]
theorem PF(d:aa G){t:aS}{δ m n:Nat}{a b:List Rat}(c:n7 δ t)(f:aQ m t a)(e:aQ n t b)(g:a7 t b≠0)(j:sb δ t.length n≤NB)(h:m+ib δ t.length n+tb δ t.length≤NB):
  Spec zZq G 284 [aP t,aA a,aA b] (.aY [aA (wu t a b),.lit .nilIface]):=by
 have i:=e.inv c g;have s1:=Tf δ t.length n;exact Spec.r d func284 [3] [.call (o7 d c f e (by omega) (by omega)),.call (lS d c e j),.eb 20 (EC g),.call (H7 d c e g j (by omega)),.call (DK d c f i h),.call (qB d c.ok (f.times c i) h)]
theorem yq(c:aa G){t:aS}{δ m n:Nat}{a b:List Rat}(e:n7 δ t)(f:aQ m t a)(d:aQ n t b)(h:sb δ t.length (m+n+1)≤NB):Spec zZq G 52 [aP t,aA a,aA b] (.aY [int (a7 t (dJ a (fp b))),.lit .nilIface]):=by
 have s1:=qZ δ t.length (m+n+1);exact Spec.r c func52 [3] [.call (o7 c e f d (by omega) (by omega)),.call (xM c e.ok d (by omega)),.call (Ag c e.ok f d.minus (by omega) (by omega)),.call (lS c e (f.plus d.minus) h)]
theorem dG(b:aa G){q:Rat}(h:gU KB q):Spec zZq G 86 [F q] (aA (iF q)):=by
 have c:=afD (G:=G) b h.tW (alE _);have s:=pR (G:=G) b (a:=[q]) (k:=0) (.of rfl) (by omega) (fun x d=>by rw[alI]at d;rw[d];exact h)
 exact Spec.r b func86 [1] [.call c,.call s]
end Tw
end Lw
namespace Lw
namespace fL
open zY fw
theorem Sh.AU{a:List Rat}(h:Sh 0 a):a=[]∨∃x,a=[x]:=by
 rcases h with h|⟨j,c,b⟩
 ·exact .inl h
 ·obtain rfl:j=0:=by omega
  exact .inr (ams.1 b)
def Sd(j:Nat)(t u:aS):Prop:=∀i,i<j→t.getD i []=u.getD i []
theorem Sd.mono{j k:Nat}{t u:aS}(h:Sd k t u)(a:j≤k):Sd j t u:=fun i b=>h i (by omega)
theorem Sd.snoc(t:aS)(x:List Rat):Sd t.length (t++[x]) t:=fun i a=>by
 simp only[List.getD_eq_getElem?_getD,List.getElem?_append_left a]
theorem acr(t u:aS):∀(k:Nat)(a b:List Rat),Sh 0 a→Sh 0 b→bR t k a b=bR u 0 a b
 |0,_,_,_,_=>rfl
 |k+1,a,b,e,d=>by
  simp only[bR];split
  ·rfl
  ·rename_i c
   rcases e.AU with rfl|⟨x,rfl⟩
   ·exact apC (by rw[jd];rfl) c
   ·rcases d.AU with rfl|⟨y,rfl⟩
    ·exact apC (by rw[jd,Bool.or_true]) c
    ·rfl
theorem A0{t u:aS}:∀(k j:Nat)(a b:List Rat),j≤k→Sd j t u→iU j t→Sh j a→Sh j b→bR t k a b=bR u j a b
 |k,0,a,b,_,_,_,o,l=>acr t u k a b o l
 |0,j+1,_,_,h,_,_,_,_=>by omega
 |k+1,j+1,a,b,V,A,G,o,l=>by
  have D:iU j t:=fun i F=>G i (by omega)
  have c:=fun x y M L=>A0 (t:=t) (u:=u) k j x y (by omega) (A.mono (by omega)) D M L
  rw[bR,bR];split
  ·rfl
  ·rename_i f
   have key:∀p q:List Rat,Sh (j+1) p→Sh (j+1) q→p≠[]→q.length≤p.length→
     (if p.length=1 then [p.getD 0 0*q.getD 0 0]else if q.length≤p.length/2 then fH (bR t k (p.take (p.length/2)) q) (bR t k (p.drop (p.length/2)) q) (p.length/2)else
      fH (dJ (bR t k (p.take (p.length/2)) (q.take (p.length/2))) (bR t k (bR t k (p.drop (p.length/2)) (q.drop (p.length/2))) (t.getD (Nat.log2 (p.length/2)) [])))
       (dJ (bR t k (p.take (p.length/2)) (q.drop (p.length/2))) (bR t k (p.drop (p.length/2)) (q.take (p.length/2)))) (p.length/2))=
     (if p.length=1 then [p.getD 0 0*q.getD 0 0]else if q.length≤p.length/2 then fH (bR u j (p.take (p.length/2)) q) (bR u j (p.drop (p.length/2)) q) (p.length/2)else
      fH (dJ (bR u j (p.take (p.length/2)) (q.take (p.length/2))) (bR u j (bR u j (p.drop (p.length/2)) (q.drop (p.length/2))) (u.getD (Nat.log2 (p.length/2)) [])))
       (dJ (bR u j (p.take (p.length/2)) (q.drop (p.length/2))) (bR u j (p.drop (p.length/2)) (q.take (p.length/2)))) (p.length/2)):=by
    intro p q O E R hle;rcases O with rfl|⟨m,Q,J⟩
    ·exact apC rfl R
    ·cases m with
     |zero=>
      have H:p.length=1:=by simpa using J
      simp only[if_pos H]
     |succ m=>
      have pm:=dg m;have U:2^(m+1)=2^m+2^m:=by rw[al5];omega
      have P:p.length/2=2^m:=by rw[J,fI]
      have S:¬p.length=1:=by omega
      simp only[if_neg S,P,iw];have r:Sh j (p.take (2^m)):=.inr ⟨m,by omega,by rw[alO];omega⟩
      have g:Sh j (p.drop (2^m)):=.inr ⟨m,by omega,by rw[alP];omega⟩
      by_cases d:q.length≤2^m
      ·simp only[if_pos d]
       have sq:Sh j q:=by
        rcases E with rfl|⟨i,z,B⟩
        ·exact .nil _
        ·refine .inr ⟨i,?_,B⟩
         have:i≤m:=Nat.not_lt.1 fun h=>by
          have:=aoc (a:=2) (by omega) h
          omega
         omega
       rw[c _ _ r sq,c _ _ g sq]
      ·simp only[if_neg d]
       have N:q.length=2^(m+1):=by
        rcases E with rfl|⟨i,z,B⟩
        ·exact apC (amd _) d
        ·have H:m<i:=Nat.not_le.1 fun h=>by
          have:=al3 (n:=2) (by omega) h
          omega
         have T:i≤m+1:=Nat.not_lt.1 fun h=>by
          have:=aoc (a:=2) (by omega) h
          omega
         rw[B,show i=m+1 by omega]
       have C:Sh j (q.take (2^m)):=.inr ⟨m,by omega,by rw[alO];omega⟩
       have s:Sh j (q.drop (2^m)):=.inr ⟨m,by omega,by rw[alP];omega⟩
       have K:Sh j (t.getD m []):=.inr ⟨m,by omega,G m (by omega)⟩
       have sp:=(fM j _ _ (fun i F=>by rw[←A i (by omega)];exact D i F) g s:Sh j (bR u j _ _)∧_).1
       rw[c _ _ r C,c _ _ g s,c _ _ r s,c _ _ g C,c _ _ sp K,A m (by omega)]
   simp only[Bool.not_eq_true,Bool.or_eq_false_iff]at f;have w:a≠[]:=fun e=>by rw[e,jd]at f;cases f.1
   have v:b≠[]:=fun e=>by rw[e,jd]at f;cases f.2
   by_cases I:a.length<b.length
   ·simp only[if_pos I]
    exact key b a l o v (by omega)
   ·simp only[if_neg I]
    exact key a b o l w (by omega)
theorem Nd{t u:aS}{k j m:Nat}{a:List Rat}(g:j≤k)(b:Sd (j+1) t u)(n:iU (j+1) t)(e:m≤j)(q:a.length=2^(m+1)):fZ t k a=fZ u j a:=by
 have d:iU j t:=fun i l=>n i (by omega)
 have f:iU j u:=fun i l=>by rw[←b i (by omega)];exact d i l
 have r:2^(m+1)=2^m+2^m:=by rw[al5];omega
 have p:a.length/2=2^m:=by rw[q,fI]
 have h:Sh j (a.take (2^m)):=.inr ⟨m,e,by rw[alO];omega⟩
 have c:Sh j (a.drop (2^m)):=.inr ⟨m,e,by rw[alP];omega⟩
 have o:Sh j (t.getD m []):=.inr ⟨m,e,n m (by omega)⟩
 unfold fZ;simp only[p,iw];rw[A0 k j _ _ g (b.mono (by omega)) d h h,A0 k j _ _ g (b.mono (by omega)) d c c,A0 k j _ _ g (b.mono (by omega)) d (fM j _ _ f c c).1 o,b m (by omega)]
theorem rU(t:aS):∀k,iu t k []=0
 |0=>by unfold iu;decide
 |k+1=>by
  unfold iu;have:dO []=[]:=rfl;simp only[this,List.length_nil,if_true]
theorem rV(x:Rat):dO [x]=if x=0 then []else [x]:=by
 unfold dO;have a:Nat.log2 ([x]:List Rat).length=0:=by rw[List.length_singleton];decide
 rw[apA (by simp),a]
 simp only[EA];have:eV [x]=decide (x=0):=by simp[eV]
 rw[this];by_cases h:x=0<;>simp[h]
theorem aio:rW (0:Rat)=0:=by decide
theorem FG{t u:aS}:∀(k j:Nat)(a:List Rat),j≤k→Sd j t u→iU j t→Sh j a→iu t k a=iu u j a
 |0,0,_,_,_,_,_=>rfl
 |0,j+1,_,h,_,_,_=>by omega
 |k+1,0,a,_,_,_,l=>by
  rcases l.AU with rfl|⟨x,rfl⟩
  ·rw[rU,rU]
  ·unfold iu
   simp only[rV];by_cases h:x=0
   ·subst h;simp[aio]
   ·simp[h]
 |k+1,j+1,a,C,e,d,l=>by
  have s:iU j t:=fun i g=>d i (by omega)
  have n:=g9 l;rw[iu,iu];generalize dO a=b at n;simp only;split
  ·rfl
  ·split
   ·rfl
   ·rename_i A z
    rcases n with rfl|⟨m,y,f⟩
    ·exact apC rfl A
    ·cases m with
     |zero=>exact apC (by simpa using f) z
     |succ m=>
      have B:2^(m+1)=2^m+2^m:=by rw[al5];omega
      have w:b.length/2=2^m:=by rw[f,fI]
      have p:Sh j (b.take (2^m)):=.inr ⟨m,by omega,by rw[alO];omega⟩
      have o:Sh j (b.drop (2^m)):=.inr ⟨m,by omega,by rw[alP];omega⟩
      have q:Sh j (t.getD m []):=.inr ⟨m,by omega,d m (by omega)⟩
      have r:Sh j (fZ u j b):=uX (t:=u) (k:=j+1) (j:=m) (fun i g=>by rw[←e i g];exact d i g) (by omega) f j (by omega) (by omega)
      have c:=fun x v=>FG (t:=t) (u:=u) k j x (by omega) (e.mono (by omega)) s v
      simp only[w,iw];rw[c _ p,c _ o,c _ q,e m (by omega),Nd (u:=u) (j:=j) (by omega) e d (by omega) f,c _ r]
theorem BK(t:aS):∀k,iS t k []=[0]
 |0=>by unfold iS;rw[show([]:List Rat).getD 0 0=0 from rfl,apw]
 |k+1=>by
  unfold iS;have e:dO []=[]:=rfl;have a:dJ [] []=[]:=rfl;simp only[e,List.length_nil,List.take_nil,uY,rU,if_true,a];rw[apA (by omega),BK t k]
theorem Vi(t:aS)(k:Nat){a:List Rat}(h:dO a=[]):iS t (k+1) a=[0]:=by
 have c:dJ [] []=[]:=rfl;have b:iu t k (fZ t k [])=0:=by rw[uY,rU]
 rw[iS,h];simp only[List.take_nil,List.drop_nil];rw[apA (by simp),apB b,c,BK]
theorem E0(t:aS):∀(k:Nat)(a:List Rat),iU k t→Sh k a→Sh k (iS t k a)
 |0,a,_,_=>.of rfl
 |k+1,a,d,p=>by
  have f:iU k t:=fun i s=>d i (by omega)
  have g:=g9 p;rw[iS];generalize dO a=b at g;simp only;split
  ·exact .inr ⟨0,by omega,rfl⟩
  ·rename_i r
   have sb:b=[]∨∃m,m≤k∧b.length=2^(m+1):=by
    rcases g with rfl|⟨m,o,l⟩
    ·exact .inl rfl
    ·cases m with
     |zero=>exact apC (by simpa using l) r
     |succ m=>exact .inr ⟨m,by omega,l⟩
   split
   ·refine(E0 t k _ f ?_).mono (by omega)
    rcases sb with rfl|⟨m,hm,c⟩
    ·exact .inl rfl
    ·have h:2^(m+1)=2^m+2^m:=by rw[al5];omega
     rw[c,fI];have e:Sh k (b.take (2^m)):=.inr ⟨m,hm,by rw[alO];omega⟩
     exact e.plus e
   ·rename_i q
    rcases sb with rfl|⟨m,hm,c⟩
    ·exact apC (by rw[uY,rU]) q
    ·have h:2^(m+1)=2^m+2^m:=by rw[al5];omega
     have n:Sh k (fZ t k b):=uX (t:=t) (k:=k+1) (j:=m) d (by omega) c k (by omega) (by omega)
     refine(fM (k+1) _ _ d (.inr ⟨m+1,by omega,by rw[jS,c,fI,h]⟩) ((E0 t k _ f n).mono (by omega))).1
theorem Te{t u:aS}:∀(k j:Nat)(a:List Rat),j≤k→Sd j t u→iU j t→Sh j a→iS t k a=iS u j a
 |0,0,_,_,_,_,_=>rfl
 |0,j+1,_,h,_,_,_=>by omega
 |k+1,0,a,_,_,_,l=>by
  rcases l.AU with rfl|⟨x,rfl⟩
  ·rw[BK,BK]
  ·by_cases h:x=0
   ·subst h
    rw[Vi t k (by rw[rV,apB rfl])]
    show [0]=[(0:Rat)⁻¹];rw[apw]
   ·show iS t (k+1) [x]=[x⁻¹]
    rw[iS,rV,apA h];rfl
 |k+1,j+1,a,A,c,e,l=>by
  have p:iU j t:=fun i d=>e i (by omega)
  have s:iU (j+1) u:=fun i d=>by rw[←c i d];exact e i d
  have r:=g9 l;rw[iS,iS];generalize dO a=b at r;simp only;split
  ·rfl
  ·rename_i z
   rcases r with rfl|⟨m,y,f⟩
   ·have n:dJ [] []=[]:=rfl
    simp only[uY,rU,if_true,List.take_nil,n,BK]
   ·cases m with
    |zero=>exact apC (by simpa using f) z
    |succ m=>
     have n:2^(m+1)=2^m+2^m:=by rw[al5];omega
     have w:b.length/2=2^m:=by rw[f,fI]
     have o:Sh j (b.take (2^m)):=.inr ⟨m,by omega,by rw[alO];omega⟩
     have g:Sh j (fZ u j b):=uX (t:=u) (k:=j+1) (j:=m) s (by omega) f j (by omega) (by omega)
     have q:=fun x v=>Te (t:=t) (u:=u) k j x (by omega) (c.mono (by omega)) p v
     rw[Nd (u:=u) (j:=j) (by omega) c e (by omega) f,FG k j _ (by omega) (c.mono (by omega)) p g]
     simp only[w];split
     ·exact q _ (o.plus o)
     ·rw[q _ g]
      refine A0 (k+1) (j+1) _ _ A c e (.inr ⟨m+1,by omega,by rw[jS,n]⟩) ?_
      exact(E0 u j _ (fun i d=>s i (by omega)) g).mono (by omega)
end fL
end Lw
