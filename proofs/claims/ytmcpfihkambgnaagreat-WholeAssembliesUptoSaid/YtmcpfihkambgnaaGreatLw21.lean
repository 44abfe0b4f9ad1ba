/- WholeAssemblies, where what it reads is of bulk at most 1048576. No other condition. The parts are made by a program of ours out of longer texts. -/
import Derived.Test.YtmcpfihkambgnaaGreatLw20
import Derived.Test.YtmcpfihkambgnaaGreatRows
import Derived.WalkKit
import Derived.ProofKit
import Derived.OpenShut
import Derived.JoinedCond
import Derived.LaidMore
open Int renaming ofNat→zNq
open Go.Proofs.Tryz renaming prog→zZq
open Go.Proofs.Tryz
namespace Lw
open Go Go.RowKit Go.Proofs
namespace Tw
variable {G:World→Prop}
theorem agp(f:aa G){l:Lk}{b:Nat}(c:l.bs.length≤1000000)(d:b<l.bs.length):zX zZq G 142 [g7 l,nat b] l.bs.length (aF (List.replicate l.bs.length (bool false)) (0+(zNq b).toNat*1) [bool true]):=by
 have a:=pK c;have a1:(0:Int)≤zNq b∧zNq b<(((zNq l.bs.length).toNat:Nat):Int):=aD d;have s1:0+(zNq b).toNat*1+1≤(List.replicate (zNq l.bs.length).toNat (bool false)).length:=by
  have j:(zNq l.bs.length).toNat=l.bs.length:=rfl;have h:(zNq b).toNat=b:=rfl;rw[amz,j,h];omega
 exact zX.ae f func142 (k:=(Tryz.f142.body).getD .skip) rfl (t:=4) (ro:=[2]) (m:=60) (e:=.ret) (b:=0) (aoZ rfl) rfl [.er 8 (nat l.bs.length),.prop a,.er 11 (nat b),.prop a1,.prop s1] (by kernel_rfl) (.inr rfl)
def rsS(n nj:Nat)(K U:List Bool)(gs:List Gp)(i:Nat):St:=lay 82 [(2,.row 0 true []),(3,.row 0 true []),(4,.bz 1 0 n n),(5,.bz 2 0 nj nj),(23,aU iV gs),(24,nat gs.length),(25,nat i)] [(1,K.map bool),(2,U.map bool)] []
def rsG(n nj:Nat)(K U:List Bool)(gs:List Gp)(i:Nat)(g:Gp):St:=lay 82 [(2,.row 0 true []),(3,.row 0 true []),(4,.bz 1 0 n n),(5,.bz 2 0 nj nj),(7,.ptr 3 0),(23,aU iV gs),(24,nat gs.length),(25,nat i)] [(1,K.map bool),(2,U.map bool),(3,iV g)] []
def rsK(n nj:Nat)(K U:List Bool)(gs:List Gp)(i:Nat)(g:Gp)(k:Nat):St:=lay 82 [(2,.row 0 true []),(3,.row 0 true []),(4,.bz 1 0 n n),(5,.bz 2 0 nj nj),(7,.ptr 3 0),(23,aU iV gs),(24,nat gs.length),(25,nat i),(30,mP g.bs),(31,nat g.bs.length),(32,nat k)] [(1,(ei K (g.bs.take k)).map bool),(2,U.map bool),(3,iV g)] []
def rsU(n nj:Nat)(K U:List Bool)(gs:List Gp)(i:Nat)(g:Gp)(k:Nat):St:=lay 82 [(2,.row 0 true []),(3,.row 0 true []),(4,.bz 1 0 n n),(5,.bz 2 0 nj nj),(7,.ptr 3 0),(23,aU iV gs),(24,nat gs.length),(25,nat i),(41,mP g.js),(42,nat g.js.length),(43,nat k)] [(1,K.map bool),(2,(ei U (g.js.take k)).map bool),(3,iV g)] []
section
variable {l:Lk} {K U:List Bool} {gs:List Gp} {i:Nat} {g:Gp}
theorem ac6(c:aa G)(j:K.length=l.bs.length)(m:∀b∈g.bs,b<l.bs.length)(n:g.bs.length≤1000):bT zZq G 82 0 (.loop (ah f78 1)) (rsK l.bs.length l.js.length K U gs i g 0) (.exit 2) (rsG l.bs.length l.js.length (ei K g.bs) U gs i g):=by
 refine bT.c (fun k=>rsK l.bs.length l.js.length K U gs i g k) g.bs.length (fun k a=>?_) ?_
 ·have f:=m _ (aN a 0)
  have h:(ei K (g.bs.take k)).length=l.bs.length:=by rw[mq];exact j
  have d:g.bs.getD k 0<(ei K (g.bs.take k)).length:=by rw[h];exact f
  have e:=xJ a;have g:ak zZq G 0 (ah f78 1) (rsK l.bs.length l.js.length K U gs i g k) .normal (lay 82 [(2,.row 0 true []),(3,.row 0 true []),(4,.bz 1 0 l.bs.length l.bs.length),(5,.bz 2 0 l.js.length l.js.length),(7,.ptr 3 0),(23,aU iV gs),(24,nat gs.length),(25,nat i),(30,mP g.bs),(31,nat g.bs.length),(32,nat (k+1))] [(1,aF ((ei K (g.bs.take k)).map bool) (0+(zNq (g.bs.getD k 0)).toNat*1) [bool true]),(2,U.map bool),(3,iV g)] []):=
   ak.r c [.eb 33 (ay a),.prop (sR a),.prop (sS a),.eq 35 e,.er 37 (nat (g.bs.getD k 0)),.prop (aD f),.prop (gM d),.eq 39 (bQ (aI a (by omega)))]
  rw[bG d,←Aj]at g
  ·exact g
  ·exact a
 ·show ak _ _ _ _ (rsK l.bs.length l.js.length K U gs i g g.bs.length) _ _
  unfold rsK;rw[ank];exact ak.r c [.eb 33 (aH (alE g.bs.length))]
theorem acZ(c:aa G)(j:U.length=l.js.length)(m:∀b∈g.js,b<l.js.length)(n:g.js.length≤1000):bT zZq G 82 0 (.loop (ah f78 2)) (rsU l.bs.length l.js.length K U gs i g 0) (.exit 4) (rsS l.bs.length l.js.length K (ei U g.js) gs i):=by
 refine bT.c (fun k=>rsU l.bs.length l.js.length K U gs i g k) g.js.length (fun k a=>?_) ?_
 ·have f:=m _ (aN a 0)
  have h:(ei U (g.js.take k)).length=l.js.length:=by rw[mq];exact j
  have d:g.js.getD k 0<(ei U (g.js.take k)).length:=by rw[h];exact f
  have e:=xJ a;have g:ak zZq G 0 (ah f78 2) (rsU l.bs.length l.js.length K U gs i g k) .normal (lay 82 [(2,.row 0 true []),(3,.row 0 true []),(4,.bz 1 0 l.bs.length l.bs.length),(5,.bz 2 0 l.js.length l.js.length),(7,.ptr 3 0),(23,aU iV gs),(24,nat gs.length),(25,nat i),(41,mP g.js),(42,nat g.js.length),(43,nat (k+1))] [(1,K.map bool),(2,aF ((ei U (g.js.take k)).map bool) (0+(zNq (g.js.getD k 0)).toNat*1) [bool true]),(3,iV g)] []):=
   ak.r c [.eb 44 (ay a),.prop (sR a),.prop (sS a),.eq 46 e,.er 48 (nat (g.js.getD k 0)),.prop (aD f),.prop (gM d),.eq 50 (bQ (aI a (by omega)))]
  rw[bG d,←Aj]at g
  ·exact g
  ·exact a
 ·show ak _ _ _ _ (rsU l.bs.length l.js.length K U gs i g g.js.length) _ _
  unfold rsU;rw[ank];exact ak.r c [.eb 44 (aH (alE g.js.length))]
theorem Hh(g:Gp):(iV g).length=4:=rfl
theorem Yb(b:aa G)(a:i<gs.length)(p:gs.length≤1000)(m:K.length=l.bs.length)(k:U.length=l.js.length)(j:HF l (gs.getD i default)):ak zZq G 0 (ah f78 0) (rsS l.bs.length l.js.length K U gs i) .normal (rsS l.bs.length l.js.length (ei K (gs.getD i default).bs) (ei U (gs.getD i default).js) gs (i+1)):=by
 have d:=aC Hh (by omega) a
 have c:=av Hh (by omega) a
 have e:=cg Hh a default;obtain⟨o,n,r,q⟩:=j;generalize gs.getD i default=g at*;have h:=ac6 (G:=G) b (l:=l) (K:=K) (U:=U) (gs:=gs) (i:=i) (g:=g) m o (by omega)
 have f:=acZ (G:=G) b (l:=l) (K:=ei K g.bs) (U:=U) (gs:=gs) (i:=i) (g:=g) k n (by omega)
 exact ak.r b [.eb 26 (ay a),.prop d,.prop c,.eq 28 e,.code h,.code f,.eq 51 (bQ (aI a (by omega)))]
def KU(gs:List Gp)(K:List Bool)(i:Nat):List Bool:=(gs.take i).foldl (fun K g=>ei K g.bs) K
def Ka(gs:List Gp)(U:List Bool)(i:Nat):List Bool:=(gs.take i).foldl (fun U g=>ei U g.js) U
theorem Py{α:Type}(f:α→Gp→α)(x:α){gs:List Gp}{i:Nat}(a:i<gs.length):(gs.take (i+1)).foldl f x=f ((gs.take i).foldl f x) (gs.getD i default):=by
 rw[aob,alK a,am9,alD,alK a];rfl
theorem ND:∀(gs:List Gp)(K:List Bool)(i:Nat),(KU gs K i).length=K.length:=fun gs K i=>by
 unfold KU;have:∀(gs:List Gp)(K:List Bool),(gs.foldl (fun K g=>ei K g.bs) K).length=K.length:=fun gs=>by
  induction gs with
  |nil=>intro K;rfl
  |cons g gs a=>intro K;rw[List.foldl_cons,a,mq]
 exact this _ _
theorem Mc:∀(gs:List Gp)(U:List Bool)(i:Nat),(Ka gs U i).length=U.length:=fun gs U i=>by
 unfold Ka;have:∀(gs:List Gp)(U:List Bool),(gs.foldl (fun U g=>ei U g.js) U).length=U.length:=fun gs=>by
  induction gs with
  |nil=>intro U;rfl
  |cons g gs a=>intro U;rw[List.foldl_cons,a,mq]
 exact this _ _
def rsF(n nj:Nat)(K U:List Bool):St:=lay 82 [(2,.row 0 true []),(3,.row 0 true []),(4,.bz 1 0 n n),(5,.bz 2 0 nj nj)] [(1,K.map bool),(2,U.map bool)] []
theorem ac0(b:aa G)(c:gs.length≤1000)(f:K.length=l.bs.length)(e:U.length=l.js.length)(d:∀g∈gs,HF l g):bT zZq G 82 0 (.loop (ah f78 0)) (rsS l.bs.length l.js.length K U gs 0) (.exit 0) (rsF l.bs.length l.js.length (KU gs K gs.length) (Ka gs U gs.length)):=by
 have key:=bT.z zZq G (ah f78 0) (.exit 0) (rsF l.bs.length l.js.length (KU gs K gs.length) (Ka gs U gs.length)) (fun i=>rsS l.bs.length l.js.length (KU gs K i) (Ka gs U i) gs i) gs.length (fun i a=>by
   have r:=Yb (G:=G) b (l:=l) (K:=KU gs K i) (U:=Ka gs U i) a c (by rw[ND];exact f) (by rw[Mc];exact e) (d _ (aN a default))
   have j:KU gs K (i+1)=ei (KU gs K i) (gs.getD i default).bs:=Py (fun K g=>ei K g.bs) K a
   have h:Ka gs U (i+1)=ei (Ka gs U i) (gs.getD i default).js:=Py (fun U g=>ei U g.js) U a
   rw[←j,←h]at r;exact r)
  (ak.r b [.eb 26 (aH (alE gs.length))])
 exact key
end
def xL(K:List Bool)(i:Nat):List Nat:=(List.range i).filter fun j=>!K.getD j false
theorem Ji(K:List Bool)(i:Nat):xL K (i+1)=if K.getD i false=true then xL K i else xL K i++[i]:=by
 unfold xL;rw[ang,List.filter_append];simp only[List.filter_cons,List.filter_nil];cases K.getD i false<;>simp
theorem By(K:List Bool)(i:Nat):(xL K i).length≤i:=by
 have:=List.length_filter_le (fun j=>!K.getD j false) (List.range i)
 rw[am_]at this;exact this
def riO(b:Nat):List Nat→D
 |[]=>.row 0 true []
 |x::xs=>.cR b (x::xs).length 1
def riB(b:Nat):List Nat→List (Nat×List D)
 |[]=>[]
 |x::xs=>[(b,(x::xs).map nat)]
def rbS(nj:Nat)(K U:List Bool)(b:List Nat)(i:Nat):St:=lay 82 [(2,riO 3 b),(3,.row 0 true []),(5,.bz 2 0 nj nj),(52,.bz 1 0 K.length K.length),(53,nat K.length),(54,nat i)] ([(1,K.map bool),(2,U.map bool)]++riB 3 b) []
def rbE(nj:Nat)(U:List Bool)(b:List Nat):St:=lay 82 [(2,riO 3 b),(3,.row 0 true []),(5,.bz 2 0 nj nj)] ((2,U.map bool)::riB 3 b) []
theorem abB{m:List Bool}{i:Nat}(h:i<m.length):((m.map bool).drop (0+(zNq i).toNat*1)).headD .any=bool (m.getD i false):=by
 rw[amv];exact iK h
theorem kO{m:List Bool}{i:Nat}(h:i<m.length):0<1∧0+(zNq i).toNat*1+1≤(m.map bool).length:=by
 have e:(zNq i).toNat=i:=rfl;rw[alR,e];omega
theorem CG{b:List Nat}{x:Nat}(h:b.length≤1000000):([nat x]:List D).all D.iq=true∧0<1∧(b.map nat).length=b.length*1∧([nat x]:List D).length=1*1∧b.length+1≤2^62∧(b.length+1)*8≤2^47:=by
 refine⟨rfl,by omega,by simp,rfl,by omega,by omega⟩
theorem Yt(f:aa G){nj:Nat}{K U:List Bool}{b:List Nat}{i:Nat}(a:i<K.length)(k:K.length≤1000000)(j:b.length≤1000000):ak zZq G 0 (ah f78 3) (rbS nj K U b i) .normal (rbS nj K U (if K.getD i false=true then b else b++[i]) (i+1)):=by
 have e:=abB a;have d:IntKind.wrap .i64 (zNq i+1)=zNq (i+1):=aI a (by omega)
 cases h:K.getD i false<;>rw[h]at e
 ·rw[apA (by simp)]
  cases b with
  |nil=>exact ak.r f [.eb 55 (ay a),.prop (aD a),.prop (kO a),.eq 58 e,.eq 65 (bQ d)]
  |cons y c=>
  have g:ak zZq G 0 (ah f78 3) (rbS nj K U (y::c) i) .normal (lay 82 [(2,.cR 3 ((y::c).length+1) 1),(3,.row 0 true []),(5,.bz 2 0 nj nj),(52,.bz 1 0 K.length K.length),(53,nat K.length),(54,nat (i+1))] [(1,K.map bool),(2,U.map bool),(3,(y::c).map nat++[nat i])] []):=
   ak.r f [.eb 55 (ay a),.prop (aD a),.prop (kO a),.eq 58 e,.er 63 (.row 1 true [nat i]),.prop (CG (b:=y::c) (x:=i) j),.eq 65 (bQ d)]
  rw[show(y::c).length+1=(y::c++[i]).length from by simp,show(y::c).map nat++[nat i]=(y::c++[i]).map nat from by simp]at g
  exact g
 ·rw[apB rfl]
  cases b<;>exact ak.r f [.eb 55 (ay a),.prop (aD a),.prop (kO a),.eq 58 e,.eq 65 (bQ d)]
theorem ac'(a:aa G){nj:Nat}{K U:List Bool}(c:K.length≤1000000):bT zZq G 82 0 (.loop (ah f78 3)) (rbS nj K U [] 0) (.exit 6) (rbE nj U (xL K K.length)):=by
 refine bT.z zZq G (ah f78 3) (.exit 6) (rbE nj U (xL K K.length)) (fun i=>rbS nj K U (xL K i) i) K.length (fun i d=>?_) ?_
 ·have:=By K i
  rw[Ji];exact Yt a d c (by omega)
 ·generalize xL K K.length=b
  cases b<;>exact ak.r a [.eb 55 (aH (alE K.length))]
def riN:List Nat→Nat
 |[]=>3
 |_::_=>4
def ML(U:List Bool)(b c:List Nat)(i:Nat):St:=lay 82 [(2,riO 3 b),(3,riO (riN b) c),(66,.bz 2 0 U.length U.length),(67,nat U.length),(68,nat i)] ((2,U.map bool)::(riB 3 b++riB (riN b) c)) []
def aiF(b c:List Nat):St:=lay 82 [(2,riO 3 b),(3,riO (riN b) c)] (riB 3 b++riB (riN b) c) []
theorem Yj(h:aa G){U:List Bool}{b c:List Nat}{i:Nat}(a:i<U.length)(m:U.length≤1000000)(k:c.length≤1000000):ak zZq G 0 (ah f78 4) (ML U b c i) .normal (ML U b (if U.getD i false=true then c else c++[i]) (i+1)):=by
 have e:=abB a;have f:IntKind.wrap .i64 (zNq i+1)=zNq (i+1):=aI a (by omega)
 cases j:U.getD i false<;>rw[j]at e
 ·rw[apA (by simp)]
  cases c with
  |nil=>cases b<;>exact ak.r h [.eb 69 (ay a),.prop (aD a),.prop (kO a),.eq 72 e,.eq 79 (bQ f)]
  |cons z d=>
   have g:ak zZq G 0 (ah f78 4) (ML U b (z::d) i) .normal (lay 82 [(2,riO 3 b),(3,.cR (riN b) ((z::d).length+1) 1),(66,.bz 2 0 U.length U.length),(67,nat U.length),(68,nat (i+1))] ((2,U.map bool)::(riB 3 b++[(riN b,(z::d).map nat++[nat i])])) []):=by
    cases b<;>exact ak.r h [.eb 69 (ay a),.prop (aD a),.prop (kO a),.eq 72 e,.er 77 (.row 1 true [nat i]),.prop (CG (b:=z::d) (x:=i) k),.eq 79 (bQ f)]
   rw[show(z::d).length+1=(z::d++[i]).length from by simp,show(z::d).map nat++[nat i]=(z::d++[i]).map nat from by simp]at g
   exact g
 ·rw[apB rfl]
  cases b<;>cases c<;>exact ak.r h [.eb 69 (ay a),.prop (aD a),.prop (kO a),.eq 72 e,.eq 79 (bQ f)]
theorem ac7(a:aa G){U:List Bool}{b:List Nat}(d:U.length≤1000000):bT zZq G 82 0 (.loop (ah f78 4)) (ML U b [] 0) (.exit 8) (aiF b (xL U U.length)):=by
 refine bT.z zZq G (ah f78 4) (.exit 8) (aiF b (xL U U.length)) (fun i=>ML U b (xL U i) i) U.length (fun i e=>?_) ?_
 ·have:=By U i
  rw[Ji];exact Yj a e d (by omega)
 ·generalize xL U U.length=c
  cases b<;>cases c<;>exact ak.r a [.eb 69 (aH (alE U.length))]
def apW:List Nat→D
 |[]=>mP []
 |y::a=>.row (y::a).length false (((y::a).map nat).take ((y::a).length*1))
theorem apQ(b:List Nat):apW b=mP b:=by
 cases b with
 |nil=>rfl
 |cons y a=>simp only[apW];rw[al4 (by rw[alR];omega)];rfl
theorem aga(d:aa G){l:Lk}(a:gO l):∃b c:List Nat,Spec zZq G 78 [g7 l] (.aY [mP b,mP c])∧b.length≤100∧c.length≤1000000:=by
 have t:=a.nb;have nj:=a.nj;have s:=a.b0;obtain⟨gs,f,m,x⟩:=SL (G:=G) d a;have hm:(k_ l.bs.length 0).length=l.bs.length:=by unfold k_;rw[amf,amz]
 have r:=agp (G:=G) d (l:=l) (b:=0) (by omega) s
 have k:=pK a.nj;have h:=ac0 (G:=G) d (l:=l) (K:=k_ l.bs.length 0) (U:=List.replicate l.js.length false) (gs:=gs) (by omega) hm (by simp) m
 have j:=ND gs (k_ l.bs.length 0) gs.length;have ul:=Mc gs (List.replicate l.js.length false) gs.length;rw[hm]at j;rw[amz]at ul;generalize KU gs (k_ l.bs.length 0) gs.length=K at h j;generalize Ka gs (List.replicate l.js.length false) gs.length=U at h ul;have lq:=ac' (G:=G) d (nj:=l.js.length) (K:=K) (U:=U) (by omega)
 have e:=fun b=>ac7 (G:=G) d (U:=U) (b:=b) (by omega)
 have q:(k_ l.bs.length 0).map bool=NC l.bs.length:=(EZ a.b0).symm;have p:rsS l.bs.length l.js.length (k_ l.bs.length 0) (List.replicate l.js.length false) gs 0=lay 82 [(2,.row 0 true []),(3,.row 0 true []),(4,.bz 1 0 l.bs.length l.bs.length),(5,.bz 2 0 l.js.length l.js.length),(23,aU iV gs),(24,nat gs.length),(25,nat 0)] [(1,NC l.bs.length),(2,List.replicate l.js.length (bool false))] []:=by
  unfold rsS;rw[q,aoI]
 rw[p]at h;have v:=By K K.length;have u:=By U U.length;refine⟨xL K K.length,xL U U.length,?_,by omega,by omega⟩
 have o:rbS l.js.length K U [] 0=lay 82 [(2,.row 0 true []),(3,.row 0 true []),(5,.bz 2 0 l.js.length l.js.length),(52,.bz 1 0 l.bs.length l.bs.length),(53,nat l.bs.length),(54,nat 0)] [(1,K.map bool),(2,U.map bool)] []:=by
  unfold rbS;rw[j];rfl
 rw[o]at lq;generalize xL K K.length=b at lq;generalize w:xL U U.length=c at e;have e:=e b;have n:ML U b [] 0=lay 82 [(2,riO 3 b),(3,.row 0 true []),(66,.bz 2 0 l.js.length l.js.length),(67,nat l.js.length),(68,nat 0)] ((2,U.map bool)::(riB 3 b++[])) []:=by
  unfold ML;rw[ul];rfl
 rw[n,amX]at e;rw[←apQ b,←apQ c];cases b<;>cases c<;>exact Spec.r d func78 [1] [.Ha r,.er 20 (nat l.js.length),.prop k,.call f,.code (bT.uG [(2,1),(1,0)] (by decide) h),.code lq,.code e]
theorem Ya(d:aa G){l:Lk}(k:gO l):∃(gs:List Gp)(e:Nat),Spec zZq G 32 [g7 l] (.aY [aU iV gs,nat e])∧gs.length≤l.bs.length∧(e=0∨e=7):=by
 obtain⟨b,c,h,p,o⟩:=aga (G:=G) d k;obtain⟨gs,f,-,n⟩:=SL (G:=G) d k;have m:=bQ (Fc (a:=b.length) (b:=c.length) (by omega))
 by_cases j:0<b.length+c.length
 ·exact⟨[],7,Spec.r d func32 [1] [.call h,.eq 15 m,.eb 16 (s9 j)],amd _,.inr rfl⟩
 ·exact⟨gs,0,Spec.r d func32 [1] [.call h,.eq 15 m,.eb 16 (fb j),.call f],n,.inl rfl⟩
def siS(l:pS)(xs:List zA)(i k:Nat):St:=lay 121 [(1,aU oC xs),(2,.aV (tf l)),(5,nat i),(6,nat k)] []
def soS(l:pS)(xs:List zA)(i:Nat):St:=lay 121 [(1,aU oC xs),(2,.aV (tf l)),(5,nat i)] []
def stS(l:pS)(xs:List zA)(i:Nat):St:=lay 121 [(1,aU oC xs),(2,.aV (tf l)),(7,nat i)] []
def smR:St:=lay 121 [(4,bool false)] []
def smF(l:pS)(xs:List zA):St:=lay 121 [(1,aU oC xs),(2,.aV (tf l))] []
def AN(r:Raw):Prop:=r.n.length+r.d.length≤1000000000000
section
variable {l:pS} {xs:List zA} {i k:Nat}
def spE(b:zB)(k:Nat):Nat:=if(oh (b.bC.getD k default).x||oh (b.bC.getD k default).y)=true then 1 else 0
theorem P8(g:aa G)(f:i<l.bs.length)(a:k<(l.bs.getD i default).bC.length)(r:(l.bs.getD i default).bC.length≤8)(w:AN ((l.bs.getD i default).bC.getD k default).x∧AN ((l.bs.getD i default).bC.getD k default).y):
  (spE (l.bs.getD i default) k=0→ak zZq G 0 (ah f8 1) (siS l xs i k) .normal (siS l xs i (k+1)))∧(spE (l.bs.getD i default) k≠0→ak zZq G 0 (ah f8 1) (siS l xs i k) .ret smR):=by
 have c:=ai8 (G:=G) g w.1 w.2;have a1:=zU f;have d:=bH bB f 1 (by omega)
 have b:=jA bB f default 1 (by omega)
 unfold spE;generalize l.bs.getD i default=B at*;have e:=aC bK (by omega) a
 have n:0<3∧3≤(((B.bC.flatMap px).drop ((zNq k).toNat*7)).drop 1).length:=by
  have:=(av bK (by omega) a).2
  rw[alP];omega
 have m:0<3∧3≤(((B.bC.flatMap px).drop ((zNq k).toNat*7)).drop 4).length:=by
  have:=(av bK (by omega) a).2
  rw[alP];omega
 have j:=cg bK a default;simp only[D.agg.injEq]at j;have q:D.agg ((((B.bC.flatMap px).drop ((zNq k).toNat*7)).drop 1).take 3)=.agg (qM (B.bC.getD k default).x):=by
  have:(((B.bC.flatMap px).drop ((zNq k).toNat*7)).drop 1).take 3=((((B.bC.flatMap px).drop ((zNq k).toNat*7)).take 7).drop 1).take 3:=by
   rw[aox,anK];rfl
  rw[this,j];rfl
 have p:D.agg ((((B.bC.flatMap px).drop ((zNq k).toNat*7)).drop 4).take 3)=.agg (qM (B.bC.getD k default).y):=by
  have:(((B.bC.flatMap px).drop ((zNq k).toNat*7)).drop 4).take 3=((((B.bC.flatMap px).drop ((zNq k).toNat*7)).take 7).drop 4).take 3:=by
   rw[aox,anK];rfl
  rw[this,j];rfl
 cases o:(oh (B.bC.getD k default).x||oh (B.bC.getD k default).y)with
 |false=>
  rw[o]at c;refine⟨fun _=>?_,fun h=>apC (apA (by simp)) h⟩
  exact ak.r g [.er 49 (nat i),.prop a1,.prop d,.eq 52 b,.eb 54 (ay a),.er 59 (nat i),.prop a1,.prop d,.eq 62 b,.er 63 (nat k),.prop e,.prop n,.eq 66 q,.er 69 (nat i),.prop a1,.prop d,.eq 72 b,.er 73 (nat k),.prop e,.prop m,.eq 76 p,.call c,.eq 56 (bQ (aI a (by omega)))]
 |true=>
  rw[o]at c;refine⟨fun h=>apC h (by simp),fun _=>?_⟩
  exact ak.r g [.er 49 (nat i),.prop a1,.prop d,.eq 52 b,.eb 54 (ay a),.er 59 (nat i),.prop a1,.prop d,.eq 62 b,.er 63 (nat k),.prop e,.prop n,.eq 66 q,.er 69 (nat i),.prop a1,.prop d,.eq 72 b,.er 73 (nat k),.prop e,.prop m,.eq 76 p,.call c]
theorem afY(b:aa G)(a:i<l.bs.length):ak zZq G 0 (ah f8 1) (siS l xs i (l.bs.getD i default).bC.length) (.exit 2) (soS l xs i):=by
 have a1:=zU a;have d:=bH bB a 1 (by omega)
 have c:=jA bB a default 1 (by omega)
 generalize l.bs.getD i default=B at*;exact ak.r b [.er 49 (nat i),.prop a1,.prop d,.eq 52 c,.eb 54 (aH (alE B.bC.length))]
def sbE(l:pS)(i:Nat):Nat:=kV (spE (l.bs.getD i default)) (l.bs.getD i default).bC.length
theorem P4(b:aa G)(a:i<l.bs.length)(r:l.bs.length≤1000)(n:(l.bs.getD i default).bC.length≤8)(w:∀m∈(l.bs.getD i default).bC,AN m.x∧AN m.y):
  (sbE l i=0→ak zZq G 0 (ah f8 0) (soS l xs i) .normal (soS l xs (i+1)))∧(sbE l i≠0→ak zZq G 0 (ah f8 0) (soS l xs i) .ret smR):=by
 unfold sbE;have f:∀k,k<(l.bs.getD i default).bC.length→AN ((l.bs.getD i default).bC.getD k default).x∧AN ((l.bs.getD i default).bC.getD k default).y:=fun k c=>w _ (aN c default)
 rcases dy (spE (l.bs.getD i default)) (l.bs.getD i default).bC.length with⟨e,d⟩|⟨k,e,d,q,p⟩
 ·have g:=bT.z zZq G (ah f8 1) (.exit 2) (soS l xs i) (fun k=>siS l xs i k) (l.bs.getD i default).bC.length (fun k c=>(P8 b a c n (f k c)).1 (d k c)) (afY b a)
  refine⟨fun _=>?_,fun h=>apC e h⟩
  exact ak.r b [.eb 43 (ay a),.code g,.eq 45 (bQ (aI a (by omega)))]
 ·have g:=bT.z zZq G (ah f8 1) .ret smR (fun k=>siS l xs i k) k (fun j o=>(P8 b a (by omega) n (f j (by omega))).1 (p j o)) ((P8 b a e n (f k e)).2 d)
  refine⟨fun h=>apC (q.symm.trans h) d,fun _=>?_⟩
  exact ak.r b [.eb 43 (ay a),.code g]
theorem afX(a:aa G):ak zZq G 0 (ah f8 0) (soS l xs l.bs.length) (.exit 0) (smF l xs):=
 ak.r a [.eb 43 (aH (alE l.bs.length))]
def stE(xs:List zA)(i:Nat):Nat:=if Xc (xs.getD i default)=0∧oh (xs.getD i default).t=false then 0 else 1
theorem acq(x:zA):Xc x=0∨Xc x=2:=by
 unfold Xc;split
 ·exact .inr rfl
 ·split
  ·exact .inr rfl
  ·exact .inl rfl
theorem P3(d:aa G)(a:i<xs.length)(q:xs.length≤1000)(ok:(xs.getD i default).Ok)(w:AN (xs.getD i default).t):
  (stE xs i=0→ak zZq G 0 (ah f8 2) (stS l xs i) .normal (stS l xs (i+1)))∧(stE xs i≠0→ak zZq G 0 (ah f8 2) (stS l xs i) .ret smR):=by
 have ck:=Wy (G:=G) d ok;have c:=ai9 (G:=G) d w;have b:=aC te (by omega) a
 have g:=av te (by omega) a
 have j:0<3∧3≤(((xs.flatMap oC).drop ((zNq i).toNat*4)).drop 0).length:=by
  have:=(av te (by omega) a).2
  rw[alP];omega
 have e:=cg te a default;have o:=e;simp only[D.agg.injEq]at o;have n:D.agg ((((xs.flatMap oC).drop ((zNq i).toNat*4)).drop 0).take 3)=.agg (qM (xs.getD i default).t):=by
  have:(((xs.flatMap oC).drop ((zNq i).toNat*4)).drop 0).take 3=(((xs.flatMap oC).drop ((zNq i).toNat*4)).take 4).take 3:=by
   rw[amS,anK];rfl
  rw[this,o];rfl
 have p:IntKind.wrap .i64 (zNq i+1)=zNq (i+1):=aI a (by omega)
 unfold stE;rcases acq (xs.getD i default)with f|f
 ·rw[f]at ck
  cases m:oh (xs.getD i default).t with
  |false=>
   rw[m]at c;refine⟨fun _=>?_,fun h=>apC (apB ⟨f,rfl⟩) h⟩
   exact ak.r d [.eb 82 (ay a),.er 86 (nat i),.prop b,.prop g,.eq 88 e,.call ck,.er 93 (nat i),.prop b,.prop j,.eq 96 n,.call c,.eq 84 (bQ p)]
  |true=>
   rw[m]at c;refine⟨fun h=>apC h (by simp),fun _=>?_⟩
   exact ak.r d [.eb 82 (ay a),.er 86 (nat i),.prop b,.prop g,.eq 88 e,.call ck,.er 93 (nat i),.prop b,.prop j,.eq 96 n,.call c]
 ·rw[f]at ck
  refine⟨fun h=>apC h (by rw[f];simp),fun _=>?_⟩
  exact ak.r d [.eb 82 (ay a),.er 86 (nat i),.prop b,.prop g,.eq 88 e,.call ck]
theorem afW(a:aa G):ak zZq G 0 (ah f8 2) (stS l xs xs.length) (.exit 4) (smF l xs):=
 ak.r a [.eb 82 (aH (alE xs.length))]
end
structure aex(l:pS)(xs:List zA):Prop where
 ck:Ta l=0
 b6:l.bs.length≤6
 j8:l.js.length≤8
 d2:l.ds.length≤2
 len:xs.length=l.ds.length
 sh:LS l
 tn:∀x∈xs,Xc x=0∧oh x.t=false
theorem neB{i j:Nat}(h:i≠j):(zNq i !=zNq j)=true:=by
 have:(zNq i==zNq j)=false:=eJ h;unfold bne;rw[this];rfl
theorem Le{i j:Nat}(h:i=j):(zNq i !=zNq j)=false:=by subst h;simp
theorem acM(a:aa G){l:pS}{xs:List zA}(ok:l.Ok)(o:∀x∈xs,x.Ok)(F:∀b∈l.bs,∀m∈b.bC,AN m.x∧AN m.y)(rx:∀x∈xs,AN x.t):∃z,Spec zZq G 8 [Ci l,aU oC xs] (bool z)∧(z=true→aex l xs):=by
 by_cases d:6<l.bs.length
 ·exact⟨false,Spec.r a func8 [2] [.eb 13 (s9 d)],fun h=>by cases h⟩
 by_cases f:8<l.js.length
 ·exact⟨false,Spec.r a func8 [2] [.eb 13 (fb d),.eb 18 (s9 f)],fun h=>by cases h⟩
 by_cases n:2<l.ds.length
 ·exact⟨false,Spec.r a func8 [2] [.eb 13 (fb d),.eb 18 (fb f),.eb 24 (s9 n)],fun h=>by cases h⟩
 by_cases g:xs.length=l.ds.length
 case neg=>exact⟨false,Spec.r a func8 [2] [.eb 13 (fb d),.eb 18 (fb f),.eb 24 (fb n),.eb 32 (neB g)],fun h=>by cases h⟩
 have ck:=aeh (G:=G) a ok;by_cases s:Ta l=0
 case neg=>exact⟨false,Spec.r a func8 [2] [.eb 13 (fb d),.eb 18 (fb f),.eb 24 (fb n),.eb 32 (Le g),.call ck,.eb 37 (neB s)],fun h=>by cases h⟩
 rw[s]at ck;have v:=CH s;have p:∀i,i<l.bs.length→(l.bs.getD i default).bC.length≤8∧∀m∈(l.bs.getD i default).bC,AN m.x∧AN m.y:=fun i r=>⟨(v _ (aN r default)).1,F _ (aN r default)⟩
 rcases dy (sbE l) l.bs.length with⟨-,y⟩|⟨i,C,y,-,L⟩
 case inr=>
  have q:=bT.z zZq G (ah f8 0) .ret smR (fun k=>soS l xs k) i (fun j J=>(P4 a (by omega) (by omega) (p j (by omega)).1 (p j (by omega)).2).1 (L j J)) ((P4 a C (by omega) (p i C).1 (p i C).2).2 y)
  exact⟨false,Spec.r a func8 [2] [.eb 13 (fb d),.eb 18 (fb f),.eb 24 (fb n),.eb 32 (Le g),.call ck,.code q],fun h=>by cases h⟩
 have q:=bT.z zZq G (ah f8 0) (.exit 0) (smF l xs) (fun k=>soS l xs k) l.bs.length (fun k c=>(P4 a c (by omega) (p k c).1 (p k c).2).1 (y k c)) (afX a)
 have B:LS l:=by
  refine wI fun i r=>wI fun k c=>?_
  have:=l9 (y i r) k c;unfold spE at this;split at this
  ·cases this
  ·rename_i I
   simpa using I
 rcases dy (stE xs) xs.length with⟨-,f2⟩|⟨i,f1,f2,-,f4⟩
 case inr=>
  have lq:=bT.z zZq G (ah f8 2) .ret smR (fun k=>stS l xs k) i (fun k c=>(P3 a (by omega) (by omega) (o _ (aN (by omega) default)) (rx _ (aN (by omega) default))).1 (f4 k c)) ((P3 a f1 (by omega) (o _ (aN f1 default)) (rx _ (aN f1 default))).2 f2)
  exact⟨false,Spec.r a func8 [2] [.eb 13 (fb d),.eb 18 (fb f),.eb 24 (fb n),.eb 32 (Le g),.call ck,.code q,.code lq],fun h=>by cases h⟩
 have lq:=bT.z zZq G (ah f8 2) (.exit 4) (smF l xs) (fun k=>stS l xs k) xs.length (fun k c=>(P3 a c (by omega) (o _ (aN c default)) (rx _ (aN c default))).1 (f2 k c)) (afW a)
 have A:∀x∈xs,Xc x=0∧oh x.t=false:=by
  refine wI fun i r=>?_
  have:=f2 i r;unfold stE at this;split at this
  ·assumption
  ·cases this
 have fin:aex l xs:=⟨s,by omega,by omega,by omega,g,B,A⟩
 obtain⟨gs,e,u,-,K⟩:=Ya (G:=G) a (ae' s);rw[←ZM s]at u;rcases K with rfl|rfl
 case inr=>exact⟨true,Spec.r a func8 [2] [.eb 13 (fb d),.eb 18 (fb f),.eb 24 (fb n),.eb 32 (Le g),.call ck,.code q,.code lq,.call u],fun _=>fin⟩
 cases E:decide (IntKind.wrap .i64 (zNq gs.length-zNq l.ds.length)≤1)with
 |true=>exact⟨true,Spec.r a func8 [2] [.eb 13 (fb d),.eb 18 (fb f),.eb 24 (fb n),.eb 32 (Le g),.call ck,.code q,.code lq,.call u,.eb 114 E],fun _=>fin⟩
 |false=>
  obtain⟨z,H⟩:=ai7 (G:=G) a (l:=l) (xs:=xs) (by omega) (by omega) (fun b t=>⟨(v b t).1,fun m w=>⟨Ac ((v b t).2 m w).1 (B b t m w).1,Ac ((v b t).2 m w).2 (B b t m w).2⟩⟩) (fun x D=>Ac (xi (A x D).1).1 (A x D).2)
  exact⟨z,by cases z<;>exact Spec.r a func8 [2] [.eb 13 (fb d),.eb 18 (fb f),.eb 24 (fb n),.eb 32 (Le g),.call ck,.code q,.code lq,.call u,.eb 114 E,.call H],fun _=>fin⟩
end Tw
end Lw
namespace Lw
open Go Go.RowKit Go.Proofs
namespace Tw
open fL
variable {G:World→Prop}
theorem E2{l:List Int}{i:Nat}(h:i<l.length):((0:Int)≤zNq i∧zNq i<(l.length:Int))∧(zNq i).toNat*1<(l.map int).length:=by
 have e:(zNq i).toNat=i:=rfl;rw[alR,e,amH];exact⟨⟨by simp,by simpa using h⟩,h⟩
theorem yN{l:List Int}{i:Nat}(h:i<l.length):0<1∧1≤((l.map int).drop ((zNq i).toNat*1)).length:=by
 have e:(zNq i).toNat=i:=rfl;rw[alP,alR,e];omega
theorem ints_at{l:List Int}{i:Nat}(h:i<l.length):((l.map int).drop ((zNq i).toNat*1)).headD .any=int (l.getD i 0):=by
 have e:(zNq i).toNat=i:=rfl;rw[e,amH,←List.map_drop,am1 h,amt,ao9,alD,alK h];rfl
def inS(a b:List Int)(i:Nat):St:=lay 26 [(0,kH a),(1,kH b),(5,nat i)] []
theorem Rc(f:aa G){a b:List Int}{i:Nat}(c:i<a.length)(d:i<b.length)(k:a.length≤1000000):
  (a.getD i 0=b.getD i 0→ak zZq G 0 (ah f12 0) (inS a b i) .normal (inS a b (i+1)))∧(a.getD i 0≠b.getD i 0→ak zZq G 0 (ah f12 0) (inS a b i) .ret (lay 26 [(4,bool false)] [])):=by
 have j:=ints_at c;have g:=ints_at d;generalize a.getD i 0=x at*;generalize b.getD i 0=y at*;refine⟨fun h=>?_,fun h=>?_⟩
 ·have e:(x !=y)=false:=by rw[h];simp
  exact ak.r f [.eb 14 (ay c),.er 18 (nat i),.prop (E2 c),.prop (yN c),.eq 20 j,.er 22 (nat i),.prop (E2 d),.prop (yN d),.eq 24 g,.eb 25 e,.eq 16 (bQ (aI c (by omega)))]
 ·have e:(x !=y)=true:=by simpa using h
  exact ak.r f [.eb 14 (ay c),.er 18 (nat i),.prop (E2 c),.prop (yN c),.eq 20 j,.er 22 (nat i),.prop (E2 d),.prop (yN d),.eq 24 g,.eb 25 e]
theorem ag_(c:aa G){a b:List Int}(l:a.length≤1000000):Spec zZq G 12 [kH a,kH b] (bool (decide (a=b))):=by
 by_cases d:a.length=b.length
 case neg=>
  rw[apE (fun e=>d (by rw[e]))]
  exact Spec.r c func12 [] [.eb 10 (neB d)]
 rcases dy (fun i=>if a.getD i 0=b.getD i 0 then 0 else 1) a.length with⟨-,f⟩|⟨i,h,f,-,n⟩
 ·have eq:∀i,i<a.length→a.getD i 0=b.getD i 0:=fun i g=>by
   have:=f i g;split at this
   ·assumption
   ·cases this
  have e:a=b:=by
   refine anY d fun i h f=>?_
   have:=eq i h;rw[alD,alD,alK h,alK f]at this;exact this
  rw[apD e];have k:=bT.z zZq G (ah f12 0) (.exit 0) (lay 26 [] []) (fun i=>inS a b i) a.length (fun i g=>(Rc c g (by omega) l).1 (eq i g))
   (ak.r c [.eb 14 (aH (alE a.length))])
  exact Spec.r c func12 [] [.eb 10 (Le d),.code k]
 ·have ne:a.getD i 0≠b.getD i 0:=fun e=>f (apB e)
  have e:a≠b:=fun e=>ne (by rw[e])
  rw[apE e];have k:=bT.z zZq G (ah f12 0) .ret (lay 26 [(4,bool false)] []) (fun i=>inS a b i) i (fun j m=>(Rc c (by omega) (by omega) l).1 (by
    have:=n j m;split at this
    ·assumption
    ·cases this)) ((Rc c h (by omega) l).2 ne)
  exact Spec.r c func12 [] [.eb 10 (Le d),.code k]
structure Smd(G:World→Prop)(l:Lk)(xs:List Tn):Prop where
 S:WS l xs
 ck:Spec zZq G 37 [g7 l] (.lit .nilIface)
 ht:∀x∈xs,Pz G x
theorem aex.smd(f:aa G){l:pS}{xs:List zA}(ok:l.Ok)(b:∀x∈xs,x.Ok)(h:aex l xs):Smd G (nt l) (xs.map HR)∧Ci l=g7 (nt l)∧aU oC xs=aU uI (xs.map HR):=by
 have g:=ZM h.ck;have k:aU oC xs=aU uI (xs.map HR):=xr fun x a=>afS (h.tn x a).1
 have ck:=ZI (G:=G) f ok h.ck;rw[g]at ck;have d:∀x∈xs.map HR,Pz G x∧iA 64 x.t∧(x.half=true→x.t=0):=fun x a=>by
  obtain⟨y,c,rfl⟩:=ama.1 a;exact akh f (b y c) (h.tn y c).1 (h.tn y c).2
 have j:(nt l).bs.length=l.bs.length:=alR ..;have i:(nt l).js.length=l.js.length:=alR ..;have e:(nt l).ds.length=l.ds.length:=alR ..;exact⟨⟨⟨ae' h.ck,ai_ ok h.ck h.sh,by rw[j];exact h.b6,by rw[i];exact h.j8,by rw[e];exact h.d2,ai' h.ck,by rw[alR,e];exact h.len,fun x a=>(d x a).2⟩,ck,fun x a=>(d x a).1⟩,g,k⟩
theorem Smd.split(b:aa G){l:Lk}{xs:List Tn}(h:Smd G l xs):∃t:Fn,yp l (wV l) t∧pT l t∧Path l t.gs∧t=Ck l t.gs t.gs.length∧Spec zZq G 47 [g7 l] (aim (acI t)):=by
 obtain⟨t,a⟩:=yp.ex h.S.ok _ (wV l) (wh l) (alE _);obtain⟨P,e⟩:=a.path;have ok:pT l t:=by rw[e];exact Ab l t.gs _ (alE _)
 exact⟨t,a,ok,P,e,acH b h.S.ok h.ck a ok⟩
theorem TQ{m:List Bool}(h:m.contains false≠true){i:Nat}(b:i<m.length):m.getD i false=true:=by
 cases a:m.getD i false with
 |true=>rfl
 |false=>
  exfalso;refine h ?_;rw[an',←a];exact aN b false
theorem Smd.all(g:aa G){l:Lk}{xs:List Tn}(h:Smd G l xs):
  Spec zZq G 9 [g7 l,aU uI xs] (.aY [.row 0 false [],e_ 7])∨
  ∃gs,Path l gs∧Spec zZq G 47 [g7 l] (.aY [aU iV gs,.lit .nilIface])∧(∀i,i<l.bs.length→(Ck l gs gs.length).known.getD i false=true)∧(∀j,j<l.js.length→(Ck l gs gs.length).used.getD j false=true)∧∃nn a up b,Chn gs nn a up b∧Spec zZq G 9 [g7 l,aU uI xs] (aew (Pw l xs gs))∧(Pw l xs gs).1.length≤100∧Found (HO l xs gs nn a gs.length) [] (Pw l xs gs).1:=by
 obtain⟨t,-,ok,P,e,sp⟩:=h.split g;unfold acI at sp;split at sp
 ·exact .inl (ahY g (by rw[h.S.len];exact h.S.d2) sp)
 ·rename_i k
  have f:t.known.contains false≠true:=fun h=>k (.inl h)
  have d:t.used.contains false≠true:=fun h=>k (.inr h)
  obtain⟨nn,a,up,b,c⟩:=abp h.S.ok P h.S.j8 h.S.d2;obtain⟨a1,p,o⟩:=WQ g c h.S P h.ht sp h.ck;refine .inr ⟨t.gs,P,sp,fun i n=>?_,fun j m=>?_,nn,a,up,b,c,a1,p,o⟩
  ·rw[←e];exact TQ f (by rw[ok.k];exact n)
  ·rw[←e];exact TQ d (by rw[ok.u];exact m)
theorem Chn.one{gs:List Gp}{nn ee up:Nat→Nat}{rr:Bool}(c:Chn gs nn ee up rr):∀k,k≤gs.length→1≤nn (lz gs k)
 |0,_=>by
  have d:lz gs 0=0:=by unfold lz;rw[am'];rfl
  rw[d];exact c.c0.1
 |k+1,h=>by
  have b:=c.one k (by omega)
  have s1:=(AQ (gs:=gs) (k:=k) h).1;by_cases a:(gs.getD k default).kind=0
  ·rw[apB a]at s1
   rw[s1];exact b
  ·rw[apA a]at s1
   obtain⟨-,e,-⟩:=c.st k h a;have:=c.top k (by omega)
   rw[s1];omega
section
variable {l:Lk} {xs:List Tn} {gs:List Gp} {nn ee up:Nat→Nat} {rr:Bool}
theorem HO.verify(d:aa G)(c:Chn gs nn ee up rr)(h:Smd G l xs)(b:∀i,i<l.bs.length→(Ck l gs gs.length).known.getD i false=true)(hu:∀j,j<l.js.length→(Ck l gs gs.length).used.getD j false=true){a:As}(w:HO l xs gs nn ee gs.length a):Spec zZq G 11 [g7 l,aU uI xs,b8 a] L9:=by
 obtain⟨-,E⟩:=c.tw gs.length (alE _) a.t.length w.tl;have t:=c.top gs.length (alE _);have o:=c.one gs.length (alE _);exact RB d h.S h.ck (w.tow c) E (by omega) (fun i=>vr.mono (w.pl i) t) w.lb w.v b hu
def waI(l:Lk)(xs:List Tn)(o:List As)(i k:Nat):St:=lay 86 [(1,aU uI xs),(2,.aV (EB l)),(5,aU p_ o),(8,nat i),(12,nat k)] []
def waO(l:Lk)(xs:List Tn)(o:List As)(i:Nat):St:=lay 86 [(1,aU uI xs),(2,.aV (EB l)),(5,aU p_ o),(8,nat i)] []
theorem aii(e:aa G){o:List As}{i k:Nat}(a:i<o.length)(d:k<i)(q:o.length≤1000)(m:(o.getD i ⟨[],[],[]⟩).ms.length≤1000000)(ne:(o.getD i ⟨[],[],[]⟩).ms≠(o.getD k ⟨[],[],[]⟩).ms):ak zZq G 0 (ah Tryz.f3 1) (waI l xs o i k) .normal (waI l xs o i (k+1)):=by
 have g:=aC o8 (by omega) a
 have j:=bH o8 a 2 (by omega)
 have p:=jA o8 a ⟨[],[],[]⟩ 2 (by omega)
 have f:=aC o8 (by omega) (apy d a)
 have h:=bH o8 (apy d a) 2 (by omega)
 have n:=jA o8 (apy d a) ⟨[],[],[]⟩ 2 (by omega)
 have c:=ag_ (G:=G) e (b:=(o.getD k ⟨[],[],[]⟩).ms) m;rw[apE ne]at c;generalize o.getD i ⟨[],[],[]⟩=x at*;generalize o.getD k ⟨[],[],[]⟩=y at*;exact ak.r e [.eb 72 (ay d),.er 76 (nat i),.prop g,.prop j,.eq 79 p,.er 81 (nat k),.prop f,.prop h,.eq 84 n,.call c,.eq 74 (bQ (aI d (by omega)))]
theorem afL(b:aa G){o:List As}{i:Nat}(a:i<o.length)(h:o.length≤1000)(v:Spec zZq G 11 [g7 l,aU uI xs,b8 (o.getD i ⟨[],[],[]⟩)] L9)(c:(o.getD i ⟨[],[],[]⟩).ms.length≤1000000)(ne:∀k,k<i→(o.getD i ⟨[],[],[]⟩).ms≠(o.getD k ⟨[],[],[]⟩).ms):ak zZq G 0 (ah Tryz.f3 0) (waO l xs o i) .normal (waO l xs o (i+1)):=by
 have g:=bT.z zZq G (ah Tryz.f3 1) (.exit 2) (waO l xs o i) (fun k=>waI l xs o i k) i (fun k d=>aii b a d h c (ne k d))
  (ak.r b [.eb 72 (aH (alE i))])
 have e:=aC o8 (by omega) a
 have f:=av o8 (by omega) a
 have j:=cg o8 a ⟨[],[],[]⟩;clear ne c;generalize o.getD i ⟨[],[],[]⟩=x at*;exact ak.r b [.eb 50 (ay a),.er 57 (nat i),.prop e,.prop f,.eq 59 j,.call v,.code g,.eq 52 (bQ (aI a (by omega)))]
end
theorem LI(a:aa G)(j:Spec zZq G 7 [] (bool true)){l:pS}{xs:List zA}(ok:l.Ok)(h:∀x∈xs,x.Ok)(q:∀b∈l.bs,∀m∈b.bC,AN m.x∧AN m.y)(rx:∀x∈xs,AN x.t):Spec zZq G 3 [Ci l,aU oC xs] (bool true):=by
 obtain⟨z,g,t⟩:=acM (G:=G) a ok h q rx;cases z with
 |false=>exact Spec.r a func3 [2] [.call j,.call g,.call j]
 |true=>
  obtain⟨D,v,u⟩:=(t rfl).smd a ok h;rw[v,u]at g⊢;generalize nt l=l at*;generalize xs.map HR=xs at*;rcases D.all a with f|⟨gs,P,sp,p,hu,nn,ee,up,rr,c,f,n,F⟩
  ·exact Spec.r a func3 [2] [.call j,.call g,.call f]
  ·generalize Pw l xs gs=r at f n F
   obtain⟨o,b⟩:=r;cases b with
   |false=>exact Spec.r a func3 [2] [.call j,.call g,.call f]
   |true=>
    have A:=abe a f;have n:o.length≤100:=n;have B:∀x∈o,HO l xs gs nn ee gs.length x:=F.q;have Fn:o.Pairwise fun x y=>x.ms≠y.ms:=F.ne
    have C:=(P.counts D.S.ok).2.2;have E:=D.S.b6;have ne:∀i,i<o.length→∀k,k<i→(o.getD i ⟨[],[],[]⟩).ms≠(o.getD k ⟨[],[],[]⟩).ms:=fun i d k p=>by
     have:=List.pairwise_iff_getElem.1 Fn k i (by omega) d p
     rw[alD,alD,alK d,alK (by omega:k<o.length)]
     exact fun e=>this e.symm
    have s:=bT.z zZq G (ah Tryz.f3 0) (.exit 0) (lay 86 [] []) (fun i=>waO l xs o i) o.length (fun i d=>by
      have w:=B _ (aN d ⟨[],[],[]⟩);exact afL a d (by omega) (w.verify a c D p hu) (by rw[w.ms];omega) (ne i d))
     (ak.r a [.eb 50 (aH (alE o.length))])
    exact Spec.r a func3 [2] [.call j,.call g,.call f,.call A,.eb 45 (Le (i:=o.length) rfl),.code s]
end Tw
end Lw
namespace Lw
open Go Go.RowKit Go.Proofs
namespace Fb
open Gr Tw
variable {G:World→Prop}
def Yi:FuncId→List Nat:=fun f=>if f=148 then [999]else if f=190 then [999]else if f=174 then [18,22]else if f=82 then [11]else if f=207 then [1009]else if f=315 then [1003,30]else if f=195 then [1003,27]else if f=201 then [34,1015010]else if f=191 then [999]else if f=247 then [999]else if f=301 then [999]else if f=85 then [3,4,5]else if f=153 then [997]else if f=146 then [997]else if f=34 then [999,41]else if f=35 then [999,2013010]else if f=39 then [3,4,5]else []
def nl:D:=.row 0 false []
def Zb:D:=.row 1 false [bool false,az [1],az [1]]
def xt:D:=.agg [bool false,az [1],az [1],bool false]
def a0:D:=.agg [nl,.row 4 false [Zb,nl,nl,nl,nl,nl,nl,nl,nl,nl,nl,nl,nl,nl,nl,nl],nl]
def x0:D:=.agg [bool false,nl,nl,bool false]
def a1:D:=.agg [nl,.row 4 false [Zb,nl,nl,nl,nl,Zb,nl,nl,nl,nl,nl,nl,nl,nl,nl,nl],.row 1 false [nat 1]]
def tw0:D:=.agg [nl]
def num(n:Nat):D:=.row 1 false [bool false,az [n],az [1]]
def ca:D:=.agg [nl,Zb,num 9]
def cb:D:=.agg [num 4,nl,num 9]
def afo:D:=.aY [.agg [.row 1 false [.row 1 false [bool false,.row 1 false [u32 323],.row 1 false [u32 1]]],.row 2 false [.row 2 false [bool false,.row 1 false [u32 2],.row 1 false [u32 1],bool false,.row 1 false [u32 1],.row 1 false [u32 34]],.row 2 false [bool false,.row 1 false [u32 1],.row 1 false [u32 2],bool false,.row 1 false [u32 2],.row 1 false [u32 17]],.row 2 false [bool false,.row 1 false [u32 2],.row 1 false [u32 1],bool true,.row 1 false [u32 1],.row 1 false [u32 34]],.row 2 false [bool false,.row 1 false [u32 1],.row 1 false [u32 2],bool true,.row 1 false [u32 2],.row 1 false [u32 17]]]],.lit .nilIface]
def akD:D:=match afo with|.aY (m::_)=>m|_=>.any
def q0L:List D:=[bool false,nl,nl]
def qL(n:Nat):List D:=[bool false,az [n],az [1]]
def ajE:List D:=q0L++q0L++[nl,Zb]++qL 3++q0L
def ajD:List D:=q0L++q0L++[num 4,nl]++qL 3++q0L
def SQ:D:=.aY [.row 2 false [.row 1 false [.row 1 false [bool false,.row 1 false [u32 323],.row 1 false [u32 1]]],.row 2 false [.row 2 false [bool false,.row 1 false [u32 2],.row 1 false [u32 3],bool false,.row 1 false [u32 1],.row 1 false [u32 102]],.row 2 false [bool true,.row 1 false [u32 1],.row 1 false [u32 6],bool false,.row 1 false [u32 2],.row 1 false [u32 51]],.row 0 false [],.row 1 false [bool false,.row 1 false [u32 1],.row 1 false [u32 1]],.row 2 false [bool true,.row 1 false [u32 2],.row 1 false [u32 3],bool false,.row 1 false [u32 1],.row 1 false [u32 102]],.row 2 false [bool false,.row 1 false [u32 1],.row 1 false [u32 6],bool false,.row 1 false [u32 2],.row 1 false [u32 51]],.row 1 false [bool false,.row 1 false [u32 4],.row 1 false [u32 1]],.row 0 false []],nat 1,.row 1 false [.row 1 false [bool false,.row 1 false [u32 323],.row 1 false [u32 1]]],.row 2 false [.row 2 false [bool false,.row 1 false [u32 2],.row 1 false [u32 3],bool true,.row 1 false [u32 1],.row 1 false [u32 102]],.row 2 false [bool true,.row 1 false [u32 1],.row 1 false [u32 6],bool true,.row 1 false [u32 2],.row 1 false [u32 51]],.row 0 false [],.row 1 false [bool false,.row 1 false [u32 1],.row 1 false [u32 1]],.row 2 false [bool true,.row 1 false [u32 2],.row 1 false [u32 3],bool true,.row 1 false [u32 1],.row 1 false [u32 102]],.row 2 false [bool false,.row 1 false [u32 1],.row 1 false [u32 6],bool true,.row 1 false [u32 2],.row 1 false [u32 51]],.row 1 false [bool false,.row 1 false [u32 4],.row 1 false [u32 1]],.row 0 false []],int (-1)],.lit .nilIface]
def eB(a:aa G):List (Ent zZq G):=[⟨_,_,_,XV a⟩,⟨_,_,_,On a⟩]
theorem Wu(a:aa G):Spec zZq G 199 [tw0,ca,cb] afo:=
 Spec.jN a (nY a (eB a) [] Yi) func199 (ro:=Yi 199) (m:=60) []
theorem MT(a:aa G):Spec zZq G 201 [akD,.row 2 false (ajE++ajD)] SQ:=
 Spec.jN a (nY a (eB a) [] Yi) func201 (ro:=Yi 201) (m:=60) []
def opC:List D:=(match lk with|.agg l=>l|_=>[])++g1c++(match a1 with|.agg l=>l|_=>[])++[.lit .nilIface]
def opR:D:=.aY [.ptr 10 0,.lit .nilIface]
def opB:List (Option (List D)):=List.replicate 10 none++[some opC]
theorem Y_(a:aa G):iD zZq G f148 0 [lk,nat 1,a1,bool false] [] [] opR opB []:=
 iD.Zk a (nY a (eB a) [] Yi) (Yi 148) 100 (by kernel_rfl)
theorem Uo(a:aa G):Spec zZq G 83 [lk,nat 1,x0,a1] SQ:=
 Spec.jN a (nY a (⟨_,_,_,MT a⟩::⟨_,_,_,Wu a⟩::eB a) [] Yi (fun _=>false) [W9.of func148 (Y_ a)]) func83 (ro:=[]) (m:=100) []
def aki:D:=.aY [.row 1 false [.row 0 false [],.row 1 false [.row 0 false [],.row 1 false [bool false,.row 1 false [u32 1],.row 1 false [u32 1]],.row 0 false [],.row 0 false []],nat 1],.lit .nilIface]
def xs1:D:=.row 1 false [bool false,az [1],az [1],bool false]
def a2b:D:=.agg [.row 1 false [.row 1 false [bool false,.row 1 false [u32 323],.row 1 false [u32 1]]],.row 4 false [.row 1 false [bool false,.row 1 false [u32 1],.row 1 false [u32 1]],.row 0 false [],.row 0 false [],.row 0 false [],.row 0 false [],.row 1 false [bool false,.row 1 false [u32 1],.row 1 false [u32 1]],.row 0 false [],.row 0 false [],.row 2 false [bool false,.row 1 false [u32 2],.row 1 false [u32 3],bool true,.row 1 false [u32 1],.row 1 false [u32 102]],.row 2 false [bool true,.row 1 false [u32 1],.row 1 false [u32 6],bool true,.row 1 false [u32 2],.row 1 false [u32 51]],.row 0 false [],.row 1 false [bool false,.row 1 false [u32 1],.row 1 false [u32 1]],.row 2 false [bool true,.row 1 false [u32 2],.row 1 false [u32 3],bool true,.row 1 false [u32 1],.row 1 false [u32 102]],.row 2 false [bool false,.row 1 false [u32 1],.row 1 false [u32 6],bool true,.row 1 false [u32 2],.row 1 false [u32 51]],.row 1 false [bool false,.row 1 false [u32 4],.row 1 false [u32 1]],.row 0 false []],.row 2 false [nat 1,int (-1)]]
def roV:FuncId→List Nat:=fun f=>if f=195 then []else Yi f
theorem Uq(a:aa G):Spec zZq G 83 [lk,nat 0,xt,a0] aki:=
 Spec.jN a (nY a (eB a) [] roV) func83 (ro:=[]) (m:=100) []
def L9:D:=.aY [bool true,.agg [nat 0,nat 0],.lit .nilIface]
theorem Xz(a:aa G):Spec zZq G 11 [lk,xs1,a2b] L9:=
 Spec.jN a (nY a (eB a) [] Yi) func11 (ro:=[]) (m:=100) []
def alv:D:=.aY [.row 2 false [.row 1 false [.row 1 false [bool false,.row 1 false [u32 323],.row 1 false [u32 1]]],.row 4 false [.row 1 false [bool false,.row 1 false [u32 1],.row 1 false [u32 1]],.row 0 false [],.row 0 false [],.row 0 false [],.row 0 false [],.row 1 false [bool false,.row 1 false [u32 1],.row 1 false [u32 1]],.row 0 false [],.row 0 false [],.row 2 false [bool false,.row 1 false [u32 2],.row 1 false [u32 3],bool false,.row 1 false [u32 1],.row 1 false [u32 102]],.row 2 false [bool true,.row 1 false [u32 1],.row 1 false [u32 6],bool false,.row 1 false [u32 2],.row 1 false [u32 51]],.row 0 false [],.row 1 false [bool false,.row 1 false [u32 1],.row 1 false [u32 1]],.row 2 false [bool true,.row 1 false [u32 2],.row 1 false [u32 3],bool false,.row 1 false [u32 1],.row 1 false [u32 102]],.row 2 false [bool false,.row 1 false [u32 1],.row 1 false [u32 6],bool false,.row 1 false [u32 2],.row 1 false [u32 51]],.row 1 false [bool false,.row 1 false [u32 4],.row 1 false [u32 1]],.row 0 false []],.row 2 false [nat 1,nat 1],.row 1 false [.row 1 false [bool false,.row 1 false [u32 323],.row 1 false [u32 1]]],.row 4 false [.row 1 false [bool false,.row 1 false [u32 1],.row 1 false [u32 1]],.row 0 false [],.row 0 false [],.row 0 false [],.row 0 false [],.row 1 false [bool false,.row 1 false [u32 1],.row 1 false [u32 1]],.row 0 false [],.row 0 false [],.row 2 false [bool false,.row 1 false [u32 2],.row 1 false [u32 3],bool true,.row 1 false [u32 1],.row 1 false [u32 102]],.row 2 false [bool true,.row 1 false [u32 1],.row 1 false [u32 6],bool true,.row 1 false [u32 2],.row 1 false [u32 51]],.row 0 false [],.row 1 false [bool false,.row 1 false [u32 1],.row 1 false [u32 1]],.row 2 false [bool true,.row 1 false [u32 2],.row 1 false [u32 3],bool true,.row 1 false [u32 1],.row 1 false [u32 102]],.row 2 false [bool false,.row 1 false [u32 1],.row 1 false [u32 6],bool true,.row 1 false [u32 2],.row 1 false [u32 51]],.row 1 false [bool false,.row 1 false [u32 4],.row 1 false [u32 1]],.row 0 false []],.row 2 false [nat 1,int (-1)]],.lit .nilIface]
theorem abM(a:aa G):Spec zZq G 9 [lk,xs1] alv:=
 Spec.jN a (nY a (⟨_,_,_,kK a⟩::⟨_,_,_,Uq a⟩::⟨_,_,_,Uo a⟩::eB a) [] Yi) func9 (ro:=[]) (m:=150) []
theorem LG(a:aa G):Spec zZq G 7 [] (bool true):=
 Spec.jN a (nY a [⟨_,_,_,U_ a⟩,⟨_,_,_,abM a⟩,⟨_,_,_,Xz a⟩] [] Yi) func7 (ro:=[]) (m:=60) []
end Fb
end Lw
namespace Go.Proofs.YtmcpfihkambgnaaGreat
namespace ik
open Go
theorem an{a b:Bool}(d:a=true)(c:b=true):(a&&b)=true:=by rw[d,c];rfl
theorem k1:(Rows.wholeAssembliesUptoRow.wf (OpenSpec.ofChange ((Rows.OpenSpec.upto Rows.wholeAssembliesSpec).bare)))=true:=by kernel_rfl
theorem k2:(laidOutB Tryz.pinned.checked.prog)=true:=by kernel_rfl
theorem k3:(mapsRowed Tryz.pinned.checked.prog)=true:=by kernel_rfl
theorem k4:(Tryz.f3.params.all (Tryz.pinned.checked.prog.readableRec ·))=true:=by kernel_rfl
theorem k5:(namedTie Tryz.pinned.checked.prog Rows.wholeAssembliesUptoRow.named ((Rows.OpenSpec.upto Rows.wholeAssembliesSpec).bare).vars)=true:=by kernel_rfl
theorem k6:(Rows.wholeAssembliesUptoRow.stops==[])=true:=by kernel_rfl
theorem k7:(Tryz.pinned.checked.prog.stops==[])=true:=by kernel_rfl
theorem k8:(Rows.wholeAssembliesUptoRow.knobs==[])=true:=by kernel_rfl
theorem k9:(Tryz.pinned.checked.prog.stopKnobs==[])=true:=by kernel_rfl
theorem k10:(Rows.wholeAssembliesUptoRow.inPlace==Tryz.pinned.checked.prog.inPlace 3)=true:=by kernel_rfl
theorem k11:(Rows.wholeAssembliesUptoRow.unfollowed==Tryz.pinned.checked.prog.unfollowed 3)=true:=by kernel_rfl
theorem k12:(Rows.wholeAssembliesUptoRow.recurses==Tryz.pinned.checked.prog.recurses 3)=true:=by kernel_rfl
theorem k13:(Rows.wholeAssembliesUptoRow.named==Tryz.pinned.checked.prog.varsNamed 3)=true:=by kernel_rfl
theorem k14:(Rows.wholeAssembliesUptoRow.maps==(Tryz.f3.params.toList++((Rows.OpenSpec.upto Rows.wholeAssembliesSpec).bare).plain.varTypes Tryz.pinned.checked.prog).any (Tryz.pinned.checked.prog.mapsRec ·))=true:=by kernel_rfl
theorem k15:(Rows.wholeAssembliesUptoRow.ifaces==(Tryz.f3.params.toList++((Rows.OpenSpec.upto Rows.wholeAssembliesSpec).bare).plain.varTypes Tryz.pinned.checked.prog).any (Tryz.pinned.checked.prog.ifacesRec ·))=true:=by kernel_rfl
theorem k16:(Rows.wholeAssembliesUptoRow.mapsOut==Tryz.pinned.checked.prog.mapsAmong Tryz.f3.resultTypes.toList)=true:=by kernel_rfl
theorem k17:(Rows.wholeAssembliesUptoRow.loops==(Tryz.f3.params.toList++((Rows.OpenSpec.upto Rows.wholeAssembliesSpec).bare).plain.varTypes Tryz.pinned.checked.prog).any (Tryz.pinned.checked.prog.loopsFrom ·))=true:=by kernel_rfl
theorem k18:(Rows.wholeAssembliesUptoRow.wideKeys==(Tryz.f3.params.toList++((Rows.OpenSpec.upto Rows.wholeAssembliesSpec).bare).plain.varTypes Tryz.pinned.checked.prog++Tryz.f3.resultTypes.toList).any (Tryz.pinned.checked.prog.wideKeysFrom ·))=true:=by kernel_rfl
theorem k19:(((Rows.OpenSpec.upto Rows.wholeAssembliesSpec).bare).vars.all (Tryz.pinned.checked.prog.varReadable ·))=true:=by kernel_rfl
theorem k20:(Tryz.f3.resultTypes.all (fun t=>Tryz.pinned.checked.prog.readableRec t&&decide (t<Tryz.pinned.checked.prog.types.size)))=true:=by kernel_rfl
theorem k21:(Rows.wholeAssembliesUptoRow.ifacesOut==Tryz.f3.resultTypes.toList.any (Tryz.pinned.checked.prog.ifacesRec ·))=true:=by kernel_rfl
theorem k22:(Rows.wholeAssembliesUptoRow.loopsOut==Tryz.f3.resultTypes.toList.any (Tryz.pinned.checked.prog.loopsFrom ·))=true:=by kernel_rfl
theorem k23:(Rows.wholeAssembliesUptoRow.plainKeys==Tryz.pinned.checked.prog.plainKeys)=true:=by kernel_rfl
theorem k24:(Rows.wholeAssembliesUptoRow.shortTexts.isNone)=true:=by kernel_rfl
theorem k25:(Tryz.pinned.checked.prog.stopsHeard)=true:=by kernel_rfl
theorem k26:(Tryz.pinned.checked.prog.mayEnter)=true:=by kernel_rfl
theorem k27:(Rows.wholeAssembliesUptoRow.lifted==Tryz.pinned.checked.prog.liftsFinal)=true:=by kernel_rfl
theorem k28:(Tryz.pinned.checked.prog.make==some Rows.wholeAssembliesUptoRow.make)=true:=by kernel_rfl
theorem k29:(Rows.wholeAssembliesUptoRow.kinds==(if Rows.wholeAssembliesUptoRow.domain.isEmpty then []else Tryz.f3.params.toList.map fun t=>match Tryz.pinned.checked.prog.underlying t with|some (.int k)=>some k|_=>none))=true:=by kernel_rfl
theorem k30:(Rows.wholeAssembliesUptoRow.pinned==Rows.wholeAssembliesUptoRow.pinnedBy)=true:=by kernel_rfl
theorem k31:(Rows.wholeAssembliesUptoRow.veiled==(Tryz.f3.params.toList++((Rows.OpenSpec.upto Rows.wholeAssembliesSpec).bare).plain.varTypes Tryz.pinned.checked.prog++Tryz.f3.resultTypes.toList).any (Tryz.pinned.checked.prog.veiledRec ·))=true:=by kernel_rfl
theorem k32:(Rows.wholeAssembliesUptoRow.veiledFits Tryz.pinned.checked.prog Tryz.f3.params.toList (Tryz.f3.params.toList++((Rows.OpenSpec.upto Rows.wholeAssembliesSpec).bare).plain.varTypes Tryz.pinned.checked.prog++Tryz.f3.resultTypes.toList))=true:=by kernel_rfl
set_option maxRecDepth 100000 in
theorem facts:joinedFacts Tryz.pinned.checked.prog 3 Tryz.f3 ((Rows.OpenSpec.upto Rows.wholeAssembliesSpec).bare) Rows.wholeAssembliesUptoRow=true:=by
 unfold joinedFacts;exact(an (an (an (an (an (an (an (an (an (an (an (an (an (an (an (an (an (an (an (an (an (an (an (an (an (an (an (an (an (an (an k1 k2) k3) k4) k5) k6) k7) k8) k9) k10) k11) k12) k13) k14) k15) k16) k17) k18) k19) k20) k21) k22) k23) k24) k25) k26) k27) k28) k29) k30) k31) k32)
end ik
end Go.Proofs.YtmcpfihkambgnaaGreat
namespace Go.Proofs.YtmcpfihkambgnaaGreat
namespace ik
open Go Go.ChangeShapes Go.WideShapes Go.ChangeAt Go.RowKit
theorem own:ownKnob Tryz.prog.godebug=none:=by kernel_rfl
theorem laidOut:laidOutB zZq=true:=by kernel_rfl
theorem IF:Lw.aa (fun _=>True):=fun _ _ _ _=>True.intro
theorem Ix{t:TypeId}(f:Tryz.prog.readableRec t=true)(c:t<Tryz.prog.types.size){H:Type}{enc:TypeId×Value→H}{W e:World}{v:Value}{d:DataW H}{a:List MemPlace}
  (h:DataW.Trod enc zZq W 0 (fun _=>true) true t v d a) (g:Below W.heap.size W e) (i:∀x∈a,x.block<W.heap.size):
  DataW.Trod enc zZq e 0 (fun b=>decide (b<W.heap.size)) true t v d a:=Below.trod laidOut f c h g i
theorem bound{H:Type}{d0 d1:DataW H}(a:Rows.uptoSmall H [d0,d1]=true):Lw.ku d0+Lw.ku d1≤1048576:=by
 have h:Rows.uptoBulkAll [d0,d1]≤1048576:=of_decide_eq_true a;simp only[Rows.uptoBulkAll]at h;show Rows.uptoBulk d0+Rows.uptoBulk d1≤1048576;omega
set_option maxRecDepth 100000 in
theorem abg(H:Type)(enc:TypeId×Value→H)(W:World)(base:Nat)(args:Array Value)(ds gs:List (DataW H))(before:List MemPlace)
  (s:∀(j:Nat) t v,Tryz.f3.params[j]? =some t→args[j]? =some v→Value.okWide zZq W .any base t v)
  (y:DataW.Whole enc zZq Tryz.f3.params.toList Rows.wholeAssembliesSpec.vars false W args.toList ds gs before) (f:Rows.uptoSmall H (ds++gs)=true):
  Calls zZq 3 args W fun e C=>∃v,e=.returned v∧Rows.wholeAssembliesSpec.post enc zZq Tryz.f3 false true false false W args v C:=by
 have a:=y;obtain⟨p,q,d,R,rfl,Q,BR⟩:=y;have z:DataW.TrodAll enc zZq W 0 (fun _=>true) true Tryz.f3.params.toList args.toList ds p:=d
 rw[Tryz.params3]at z s;obtain⟨v0,I,d0,U,M,q0,dU,rfl,rfl,B,K⟩:=trodAll_cons z;obtain⟨v1,F,d1,T,L,Z,rfl,rfl,rfl,A,J⟩:=trodAll_cons K;obtain⟨rfl,rfl,rfl⟩:=trodAll_nil J;obtain rfl:args= #[v0,v1]:=by cases args;simp_all
 obtain⟨rfl,rfl⟩:=trodVars_none R;clear d;simp only[List.append_nil]at a f;obtain⟨l,w,N⟩:=Lw.agY (s 0 _ v0 rfl rfl) B;obtain⟨X,u,Y,E⟩:=Lw.acp (s 1 _ v1 rfl rfl) A;have g:=bound f;have n:∀x∈M,x.block<W.heap.size:=fun x c=>a.lt x (by simp[c])
 have i:∀x∈L,x.block<W.heap.size:=fun x c=>a.lt x (by simp[c])
 have D:=Lw.Tw.LI (G:=fun _=>True) IF (Lw.Fb.LG IF) (w.ok (by omega)) (fun x c=>(u x c).ok (by omega)) (fun b V m P=>w.raw (by omega) b V m P) (fun x c=>Lw.Kr (u x c) (by omega)) W Lw.HQ [v0,v1] True.intro (Lw.a9.cons N (Lw.a9.cons E Lw.a9.nil)) (fun k f=>f.elim)
 refine D.mono fun e C S=>?_
 obtain⟨v,rfl,O,g,-⟩:=S;cases O;have o:=Ix (by kernel_rfl) (of_decide_eq_true (by kernel_rfl)) B g n
 have r:=Ix (by kernel_rfl) (of_decide_eq_true (by kernel_rfl)) A g i
 refine⟨_,rfl,_,_,_,[],_,[],a,trodAll_mk1 (shut_bool Tryz.underlying4 _),trodAll_mk2 o r,rfl,g.frame _,fun h=>by cases h⟩
set_option maxRecDepth 100000 in
theorem lifted(os:Os)(started:os.Started)(H:Type)(enc:TypeId×Value→H)(F:Stop.Interp):
  ReturnsInHanded {} Tryz.checked os 3 .any ((Rows.OpenSpec.upto Rows.wholeAssembliesSpec).pre6 enc zZq Tryz.f3 Rows.wholeAssembliesUptoRow.domain false) (((Rows.OpenSpec.upto Rows.wholeAssembliesSpec).at F).post enc zZq Tryz.f3 false true false false):=by
 refine returnsInHanded_of_cond (C:=Tryz.checked) (s:=Rows.OpenSpec.upto Rows.wholeAssembliesSpec) (k:=Rows.uptoSmall) rfl own started (by kernel_rfl) func3
  (OpenSpec.witness (enc:=enc) (C:=Tryz.checked) (s:=Rows.OpenSpec.upto Rows.wholeAssembliesSpec) (k:=Rows.uptoSmall) rfl false ⟨#[],#[.agg #[.string ByteArray.empty,.slice none 0 0,.slice none 0 0,.slice none 0 0],.slice none 0 0],[]⟩ 8 (by kernel_rfl) (by kernel_rfl) (by kernel_rfl)
   (x:=([.agg [.lit (.string []),.nil,.nil,.nil],.nil],[],[])) (by kernel_rfl) rfl (by kernel_rfl)) ?_
 intro W base a d gs before e c _ b _;exact abg H enc W base a d gs before e c b
end ik
theorem wholeAssemblies_upto:Rows.WholeAssembliesUptoSaid:=
 OpenClaim.holds_of_cond 3 Tryz.f3 rfl rfl rfl rfl rfl rfl rfl ⟨rfl,rfl,rfl,rfl,rfl⟩ rfl rfl rfl rfl rfl (by kernel_rfl) func3 ik.facts
  (of_decide_eq_true (by kernel_rfl)) (by unfold Func.isWrapper;first|(rw[apB (by decide+kernel)];kernel_rfl)|(rw[apA (by decide+kernel)];exact⟨rfl,rfl⟩))
  (fun os started H enc _ F=>ik.lifted os started H enc F)
end Go.Proofs.YtmcpfihkambgnaaGreat
