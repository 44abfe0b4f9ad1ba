/- Part 20. -/
import Derived.Test.YtmcpfihkambgnaaGreatLw19
open Go.Proofs.Tryz renaming prog→zZq
open Go.Proofs.Tryz
open Int renaming ofNat→zNq
open Bool renaming and_eq_true→zLq
namespace Lw
open Go Go.RowKit Go.Proofs Go.ChangeShapes Go.WideShapes Go.ChangeAt Tw
section
variable {H:Type} {enc:TypeId×Value→H} {W:World} {fuel:Nat} {cs:List Value} {x:DataW H×List MemPlace}
theorem vh:Tryz.prog.cellsOf 9=1:=by kernel_rfl
theorem nV:Tryz.prog.cellsOf 3=1:=by kernel_rfl
theorem xC(h:DataW.trod enc zZq W 0 (fun _=>true) true fuel 9 cs=some x):∃s:ByteArray,s.size≤ku x.1∧a9 W HQ cs [vH s]:=by
 obtain⟨s,rfl,rfl,-⟩:=DataW.trod_string Tryz.underlying9 h;refine⟨s,?_,a9.cons (.lit _) a9.nil⟩;have e:s.data.toList.length=s.size:=by rw[amM];rfl
 show s.size≤s.data.toList.length+1;omega
theorem pH(h:DataW.trod enc zZq W 0 (fun _=>true) true fuel 3 cs=some x):∃n:Int,a9 W HQ cs [int n]:=by
 obtain⟨n,rfl,-,-⟩:=DataW.trod_int Tryz.underlying3 h;exact⟨n,a9.cons (.lit _) a9.nil⟩
theorem m7{xs:List (DataW H×List MemPlace)}{i:Nat}{y:DataW H×List MemPlace}(h:xs[i]? =some y):ku y.1≤ku (.agg (xs.map (·.1))):=alJ (zj (ama.2 ⟨y,aoz h,rfl⟩)) Hk
theorem cut{α:Type}(l:List α)(k m:Nat)(h:l.length=k+m):∃a b,l=a++b∧a.length=k∧b.length=m:=⟨l.take k,l.drop k,(List.take_append_drop k l).symm,by rw[alO];omega,by rw[alP];omega⟩
def MkB(m:EG)(b:Nat):Prop:=m.nm.size≤b∧AO m.x b∧AO m.y b
theorem MkB.mono(m:EG)(a b:Nat)(h:MkB m a)(c:a≤b):MkB m b:=⟨alJ h.1 c,AO.mono _ _ _ h.2.1 c,AO.mono _ _ _ h.2.2 c⟩
theorem G8:Tryz.prog.cellsOf 93=7:=by kernel_rfl
theorem Ot:Tryz.prog.cellsOf 89=1:=by kernel_rfl
theorem G_:Tryz.prog.cellsOf 91=2:=by kernel_rfl
theorem UT(h:DataW.trod enc zZq W 0 (fun _=>true) true fuel 93 cs=some x):∃m:EG,MkB m (ku x.1)∧a9 W HQ cs (px m):=by
 obtain⟨d,n,-,Q,k,B,e⟩:=DataW.trod_struct Tryz.underlying93 h;rw[G8]at k;obtain⟨a,r,rfl,F,C⟩:=cut cs 1 6 k;obtain⟨b,c,rfl,E,A⟩:=cut r 3 3 C;obtain⟨a0,rfl⟩:=ams.1 F;obtain⟨P,O,N,rfl⟩:=three E;obtain⟨c0,M,L,rfl⟩:=three A;have R:d.length=3:=B;obtain⟨w,q⟩:=fV (l:=d) (i:=0) (by omega)
 obtain⟨v,p⟩:=fV (l:=d) (i:=1) (by omega)
 obtain⟨u,o⟩:=fV (l:=d) (i:=2) (by omega)
 have f0:=cI e 0 _ rfl (t:=9) (off:=0) rfl rfl vh;have f1:=cI e 1 _ rfl (t:=51) (off:=1) rfl rfl zd;have f2:=cI e 2 _ rfl (t:=51) (off:=4) rfl rfl zd;rw[q]at f0;rw[p]at f1;rw[o]at f2;have f0:DataW.trod enc zZq W 0 (fun _=>true) true n 9 [a0]=some w:=f0
 have f1:DataW.trod enc zZq W 0 (fun _=>true) true n 51 [P,O,N]=some v:=f1
 have f2:DataW.trod enc zZq W 0 (fun _=>true) true n 51 [c0,M,L]=some u:=f2
 obtain⟨s,s1,s2⟩:=xC f0;obtain⟨z,K,I⟩:=CM f1;obtain⟨y,J,G⟩:=CM f2;have j:=m7 q;have g:=m7 p;have f:=m7 o;have D:x.1=DataW.agg (d.map (·.1)):=apF (·.1) Q;rw[←D]at j g f;exact⟨⟨s,z,y⟩,⟨alJ s1 j,AO.mono _ _ _ K g,AO.mono _ _ _ J f⟩,a9.append s2 (a9.append I G)⟩
def BdB(m:zB)(b:Nat):Prop:=m.nm.size≤b∧m.bC.length≤b∧∀p∈m.bC,MkB p b
theorem BdB.mono(m:zB)(a b:Nat)(h:BdB m a)(c:a≤b):BdB m b:=⟨alJ h.1 c,alJ h.2.1 c,fun p d=>MkB.mono _ _ _ (h.2.2 p d) c⟩
theorem UU(h:DataW.trod enc zZq W 0 (fun _=>true) true fuel 91 cs=some x):∃m:zB,BdB m (ku x.1)∧a9 W HQ cs (rJ m):=by
 obtain⟨b,n,-,E,g,u,e⟩:=DataW.trod_struct Tryz.underlying91 h;rw[G_]at g;obtain⟨a,r,rfl,z,v⟩:=cut cs 1 1 g;obtain⟨a0,rfl⟩:=ams.1 z;obtain⟨D,rfl⟩:=ams.1 v;have F:b.length=2:=u;obtain⟨q,k⟩:=fV (l:=b) (i:=0) (by omega)
 obtain⟨o,j⟩:=fV (l:=b) (i:=1) (by omega)
 have f0:=cI e 0 _ rfl (t:=9) (off:=0) rfl rfl vh;have f1:=cI e 1 _ rfl (t:=89) (off:=1) rfl rfl Ot;rw[k]at f0;rw[j]at f1;have f0:DataW.trod enc zZq W 0 (fun _=>true) true n 9 [a0]=some q:=f0
 have f1:DataW.trod enc zZq W 0 (fun _=>true) true n 89 [D]=some o:=f1
 obtain⟨s,s1,s2⟩:=xC f0;obtain⟨l,C,B,A⟩:=sM (f:=px) (ok:=MkB) MkB.mono Tryz.underlying89 G8 (by omega) UT f1
 have d:=m7 k;have c:=m7 j;have y:x.1=DataW.agg (b.map (·.1)):=apF (·.1) E;rw[←y]at d c;exact⟨⟨s,l⟩,⟨alJ s1 d,alJ B c,fun p w=>MkB.mono _ _ _ (C p w) c⟩,a9.append s2 A⟩
def JtB(m:PK)(b:Nat):Prop:=m.nm.size≤b
theorem JtB.mono(m:PK)(a b:Nat)(h:JtB m a)(c:a≤b):JtB m b:=alJ h c
theorem Eb:Tryz.prog.cellsOf 156=7:=by kernel_rfl
theorem seven{α:Type}{l:List α}(h:l.length=7):∃a b c d e f g,l=[a,b,c,d,e,f,g]:=by
 match l,h with
 |[a,b,c,d,e,f,g],_=>exact⟨a,b,c,d,e,f,g,rfl⟩
theorem QE(h:DataW.trod enc zZq W 0 (fun _=>true) true fuel 156 cs=some x):∃m:PK,JtB m (ku x.1)∧a9 W HQ cs (Dn m):=by
 obtain⟨a,n,-,U,d,A,b⟩:=DataW.trod_struct Tryz.underlying156 h;rw[Eb]at d;obtain⟨a0,a1,T,S,R,Q,P,rfl⟩:=seven d;have V:a.length=7:=A;obtain⟨q,e⟩:=fV (l:=a) (i:=0) (by omega)
 obtain⟨p,O⟩:=fV (l:=a) (i:=1) (by omega)
 obtain⟨o,N⟩:=fV (l:=a) (i:=2) (by omega)
 obtain⟨k,M⟩:=fV (l:=a) (i:=3) (by omega)
 obtain⟨j,L⟩:=fV (l:=a) (i:=4) (by omega)
 obtain⟨g,K⟩:=fV (l:=a) (i:=5) (by omega)
 obtain⟨f,J⟩:=fV (l:=a) (i:=6) (by omega)
 have f0:=cI b 0 _ rfl (t:=9) (off:=0) rfl rfl vh;have f1:=cI b 1 _ rfl (t:=3) (off:=1) rfl rfl nV;have f2:=cI b 2 _ rfl (t:=3) (off:=2) rfl rfl nV;have f3:=cI b 3 _ rfl (t:=3) (off:=3) rfl rfl nV;have f4:=cI b 4 _ rfl (t:=3) (off:=4) rfl rfl nV;have f5:=cI b 5 _ rfl (t:=3) (off:=5) rfl rfl nV;have f6:=cI b 6 _ rfl (t:=3) (off:=6) rfl rfl nV;rw[e]at f0;rw[O]at f1;rw[N]at f2;rw[M]at f3;rw[L]at f4;rw[K]at f5;rw[J]at f6;have f0:DataW.trod enc zZq W 0 (fun _=>true) true n 9 [a0]=some q:=f0
 have f1:DataW.trod enc zZq W 0 (fun _=>true) true n 3 [a1]=some p:=f1
 have f2:DataW.trod enc zZq W 0 (fun _=>true) true n 3 [T]=some o:=f2
 have f3:DataW.trod enc zZq W 0 (fun _=>true) true n 3 [S]=some k:=f3
 have f4:DataW.trod enc zZq W 0 (fun _=>true) true n 3 [R]=some j:=f4
 have f5:DataW.trod enc zZq W 0 (fun _=>true) true n 3 [Q]=some g:=f5
 have f6:DataW.trod enc zZq W 0 (fun _=>true) true n 3 [P]=some f:=f6
 obtain⟨s,s1,s2⟩:=xC f0;obtain⟨z,I⟩:=pH f1;obtain⟨y,G⟩:=pH f2;obtain⟨w,F⟩:=pH f3;obtain⟨v,E⟩:=pH f4;obtain⟨u,D⟩:=pH f5;obtain⟨r,C⟩:=pH f6;have c:=m7 e;have B:x.1=DataW.agg (a.map (·.1)):=apF (·.1) U;rw[←B]at c;exact⟨⟨s,z,y,w,v,u,r⟩,alJ s1 c,a9.append s2 (a9.append I (a9.append G (a9.append F (a9.append E (a9.append D C)))))⟩
def DrB(m:TV)(b:Nat):Prop:=m.nm.size≤b
theorem DrB.mono(m:TV)(a b:Nat)(h:DrB m a)(c:a≤b):DrB m b:=alJ h c
theorem B_:Tryz.prog.cellsOf 158=2:=by kernel_rfl
theorem MY(h:DataW.trod enc zZq W 0 (fun _=>true) true fuel 158 cs=some x):∃m:TV,DrB m (ku x.1)∧a9 W HQ cs (zy m):=by
 obtain⟨b,n,-,z,e,o,d⟩:=DataW.trod_struct Tryz.underlying158 h;rw[B_]at e;obtain⟨a,r,rfl,u,p⟩:=cut cs 1 1 e;obtain⟨a0,rfl⟩:=ams.1 u;obtain⟨y,rfl⟩:=ams.1 p;have A:b.length=2:=o;obtain⟨j,f⟩:=fV (l:=b) (i:=0) (by omega)
 obtain⟨g,w⟩:=fV (l:=b) (i:=1) (by omega)
 have f0:=cI d 0 _ rfl (t:=9) (off:=0) rfl rfl vh;have f1:=cI d 1 _ rfl (t:=3) (off:=1) rfl rfl nV;rw[f]at f0;rw[w]at f1;have f0:DataW.trod enc zZq W 0 (fun _=>true) true n 9 [a0]=some j:=f0
 have f1:DataW.trod enc zZq W 0 (fun _=>true) true n 3 [y]=some g:=f1
 obtain⟨s,s1,s2⟩:=xC f0;obtain⟨k,v⟩:=pH f1;have c:=m7 f;have q:x.1=DataW.agg (b.map (·.1)):=apF (·.1) z;rw[←q]at c;exact⟨⟨s,k⟩,alJ s1 c,a9.append s2 v⟩
structure W6(l:pS)(b:Nat):Prop where
 nm:l.nm.size≤b
 bl:l.bs.length≤b
 jl:l.js.length≤b
 dl:l.ds.length≤b
 bs:∀x∈l.bs,BdB x b
 js:∀x∈l.js,JtB x b
 ds:∀x∈l.ds,DrB x b
theorem abr:Tryz.prog.cellsOf 26=4:=by kernel_rfl
theorem Lt:Tryz.prog.cellsOf 22=1:=by kernel_rfl
theorem Ls:Tryz.prog.cellsOf 23=1:=by kernel_rfl
theorem Ii:Tryz.prog.cellsOf 24=1:=by kernel_rfl
theorem four{α:Type}{l:List α}(h:l.length=4):∃a b c d,l=[a,b,c,d]:=by
 match l,h with
 |[a,b,c,d],_=>exact⟨a,b,c,d,rfl⟩
theorem adr(h:DataW.trod enc zZq W 0 (fun _=>true) true fuel 26 cs=some x):∃m:pS,W6 m (ku x.1)∧a9 W HQ cs (tf m):=by
 obtain⟨a,n,-,O,k,D,c⟩:=DataW.trod_struct Tryz.underlying26 h;rw[abr]at k;obtain⟨a0,a1,N,M,rfl⟩:=four k;have P:a.length=4:=D;obtain⟨z,u⟩:=fV (l:=a) (i:=0) (by omega)
 obtain⟨y,r⟩:=fV (l:=a) (i:=1) (by omega)
 obtain⟨w,q⟩:=fV (l:=a) (i:=2) (by omega)
 obtain⟨v,o⟩:=fV (l:=a) (i:=3) (by omega)
 have f0:=cI c 0 _ rfl (t:=9) (off:=0) rfl rfl vh;have f1:=cI c 1 _ rfl (t:=22) (off:=1) rfl rfl Lt;have f2:=cI c 2 _ rfl (t:=23) (off:=2) rfl rfl Ls;have f3:=cI c 3 _ rfl (t:=24) (off:=3) rfl rfl Ii;rw[u]at f0;rw[r]at f1;rw[q]at f2;rw[o]at f3;have f0:DataW.trod enc zZq W 0 (fun _=>true) true n 9 [a0]=some z:=f0
 have f1:DataW.trod enc zZq W 0 (fun _=>true) true n 22 [a1]=some y:=f1
 have f2:DataW.trod enc zZq W 0 (fun _=>true) true n 23 [N]=some w:=f2
 have f3:DataW.trod enc zZq W 0 (fun _=>true) true n 24 [M]=some v:=f3
 obtain⟨s,s1,s2⟩:=xC f0;obtain⟨C,L,k1,I⟩:=sM (f:=rJ) (ok:=BdB) BdB.mono Tryz.underlying22 G_ (by omega) UU f1
 obtain⟨B,K,k2,G⟩:=sM (f:=Dn) (ok:=JtB) JtB.mono Tryz.underlying23 Eb (by omega) QE f2
 obtain⟨A,J,k3,F⟩:=sM (f:=zy) (ok:=DrB) DrB.mono Tryz.underlying24 B_ (by omega) MY f3
 have j:=m7 u;have g:=m7 r;have e:=m7 q;have d:=m7 o;have E:x.1=DataW.agg (a.map (·.1)):=apF (·.1) O;rw[←E]at j g e d;exact⟨⟨s,C,B,A⟩,⟨alJ s1 j,alJ k1 g,alJ k2 e,alJ k3 d,fun p b=>BdB.mono _ _ _ (L p b) g,fun p b=>JtB.mono _ _ _ (K p b) e,fun p b=>DrB.mono _ _ _ (J p b) d⟩,a9.append s2 (a9.append I (a9.append G F))⟩
theorem Yu{r:Raw}{b:Nat}(h:AO r b)(c:b≤1048576):∃k,r.ok k∧2*k<KB:=by
 refine⟨1048576,⟨fun x a=>h.2.1 x a,fun x a=>h.2.2 x a,by have:=h.1.1;omega,by have:=h.1.2;omega,by omega⟩,?_⟩
 have:=pd;omega
theorem W6.ok{l:pS}{b:Nat}(h:W6 l b)(e:b≤1048576):l.Ok:=by
 refine⟨by have:=h.nm;omega,fun x f=>?_,fun j g=>?_,fun d i=>?_⟩
 ·obtain⟨n,k,c⟩:=h.bs x f
  exact⟨by omega,fun m a=>⟨by have:=(c m a).1;omega,Yu (c m a).2.1 e,Yu (c m a).2.2 e⟩⟩
 ·have:j.nm.size≤b:=h.js j g
  omega
 ·have:d.nm.size≤b:=h.ds d i
  omega
set_option maxRecDepth 100000 in
theorem agY{r:Reach}{j:Nat}{v:Value}{d:DataW H}{c:List MemPlace}(k:Value.okWide zZq W r j 26 v)(h:DataW.Trod enc zZq W 0 (fun _=>true) true 26 v d c):∃l:pS,W6 l (ku d)∧cU W HQ v (Ci l):=by
 obtain⟨f,g⟩:=h;obtain⟨l,i,b⟩:=adr g;obtain⟨a,rfl,-⟩:=okWide_struct Tryz.underlying26 k;have e:a=a.toList.toArray:=by simp
 exact⟨l,i,by rw[e];exact .agg a.toList _ b.1 b.2⟩
theorem Kr{r:Raw}{b:Nat}(h:AO r b)(a:b≤1048576):r.n.length+r.d.length≤1000000000000:=by
 obtain⟨⟨d,c⟩,-⟩:=h;omega
theorem W6.raw{l:pS}{b:Nat}(h:W6 l b)(a:b≤1048576):∀x∈l.bs,∀m∈x.bC,m.x.n.length+m.x.d.length≤1000000000000∧m.y.n.length+m.y.d.length≤1000000000000:=fun x c m d=>by
 have:=(h.bs x c).2.2 m d;exact⟨Kr this.2.1 a,Kr this.2.2 a⟩
def TnB(m:zA)(b:Nat):Prop:=AO m.t b
theorem TnB.mono(m:zA)(a b:Nat)(h:TnB m a)(c:a≤b):TnB m b:=AO.mono _ _ _ h c
theorem G7:Tryz.prog.cellsOf 87=4:=by kernel_rfl
theorem US(h:DataW.trod enc zZq W 0 (fun _=>true) true fuel 87 cs=some x):∃m:zA,TnB m (ku x.1)∧a9 W HQ cs (oC m):=by
 obtain⟨c,n,-,C,f,s,e⟩:=DataW.trod_struct Tryz.underlying87 h;rw[G7]at f;obtain⟨a,r,rfl,w,u⟩:=cut cs 3 1 f;obtain⟨B,A,z,rfl⟩:=three w;obtain⟨c0,rfl⟩:=ams.1 u;have D:c.length=2:=s;obtain⟨o,j⟩:=fV (l:=c) (i:=0) (by omega)
 obtain⟨k,y⟩:=fV (l:=c) (i:=1) (by omega)
 have f0:=cI e 0 _ rfl (t:=51) (off:=0) rfl rfl zd;have f1:=cI e 1 _ rfl (t:=4) (off:=3) rfl rfl G9;rw[j]at f0;rw[y]at f1;have f0:DataW.trod enc zZq W 0 (fun _=>true) true n 51 [B,A,z]=some o:=f0
 have f1:DataW.trod enc zZq W 0 (fun _=>true) true n 4 [c0]=some k:=f1
 obtain⟨r,q,p⟩:=CM f0;obtain⟨b,g,-⟩:=DataW.trod_bool Tryz.underlying4 f1;simp only[List.cons.injEq,and_true]at g;subst g;have d:=m7 j;have v:x.1=DataW.agg (c.map (·.1)):=apF (·.1) C;rw[←v]at d;exact⟨⟨r,b⟩,AO.mono _ _ _ q d,a9.append p (a9.cons (.lit _) a9.nil)⟩
theorem QD(h:DataW.trod enc zZq W 0 (fun _=>true) true fuel 27 cs=some x):∃l:List zA,(∀m∈l,TnB m (ku x.1))∧l.length≤ku x.1∧a9 W HQ cs [aU oC l]:=
 sM (f:=oC) (ok:=TnB) TnB.mono Tryz.underlying27 G7 (by omega) US h
theorem TnB.ok{x:zA}{b:Nat}(h:TnB x b)(a:b≤1048576):x.Ok:=Yu h a
set_option maxRecDepth 100000 in
theorem acp{r:Reach}{k:Nat}{v:Value}{d:DataW H}{b:List MemPlace}(n:Value.okWide zZq W r k 27 v)(h:DataW.Trod enc zZq W 0 (fun _=>true) true 27 v d b):∃l:List zA,(∀m∈l,TnB m (ku d))∧l.length≤ku d∧cU W HQ v (aU oC l):=by
 obtain⟨f,c⟩:=h;obtain⟨a,len,j,rfl⟩:=okWide_slice Tryz.underlying27 n;obtain⟨l,i,g,e⟩:=QD c;exact⟨l,i,g,e.head⟩
end
end Lw
namespace Lw
open Go Go.RowKit Go.Proofs
namespace Tw
open fL
variable {G:World→Prop}
def wN(r:Raw):Prop:=r=⟨false,[],[]⟩∨∃s a b,r=⟨s,[a],[b]⟩
theorem Ac{r:Raw}(c:r.valid=true)(h:oh r=false):wN r:=by
 have h:¬2<r.n.length+r.d.length:=by simpa [oh]using h
 by_cases f:r.n=[]∧r.d=[]
 ·refine .inl ?_
  have e:=c;unfold Raw.valid at e;rw[apB f]at e;obtain⟨s,n,d⟩:=r;obtain⟨rfl,rfl⟩:=f;have:s=false:=by simpa using e
  rw[this]
 ·have g:r.l7:=by
   unfold Raw.valid at c;rw[apA f]at c;simpa using c
  have k:0<r.n.length:=amJ.2 g.1;have l:0<r.d.length:=amJ.2 g.2.1;obtain⟨a,j⟩:=ams.1 (by omega:r.n.length=1)
  obtain⟨b,i⟩:=ams.1 (by omega:r.d.length=1)
  obtain⟨s,n,d⟩:=r;exact .inr ⟨s,a,b,by rw[show n=[a]from j,show d=[b]from i]⟩
theorem agU(c:aa G){x:Raw}(d:wN x):∃z,Spec zZq G 80 [.row 1 false (qM x)] (bool z):=by
 rcases d with rfl|⟨f,a0,e,rfl⟩
 ·exact⟨true,Spec.r c func80 [] []⟩
 ·by_cases a:400<a0
  ·exact⟨false,Spec.r c func80 [] [.eb 31 (s9 a)]⟩
  ·by_cases b:20<e
   ·exact⟨false,Spec.r c func80 [] [.eb 31 (fb a),.eb 44 (s9 b)]⟩
   ·exact⟨true,Spec.r c func80 [] [.eb 31 (fb a),.eb 44 (fb b)]⟩
theorem agT(e:aa G){x y:Raw}(h:wN x)(g:wN y):∃z,Spec zZq G 80 [.row 2 false (qM x++qM y)] (bool z):=by
 rcases h with rfl|⟨j,a0,i,rfl⟩
 ·rcases g with rfl|⟨s1,a1,f,rfl⟩
  ·exact⟨true,Spec.r e func80 [] []⟩
  ·by_cases a:400<a1
   ·exact⟨false,Spec.r e func80 [] [.eb 31 (s9 a)]⟩
   ·by_cases c:20<f
    ·exact⟨false,Spec.r e func80 [] [.eb 31 (fb a),.eb 44 (s9 c)]⟩
    ·exact⟨true,Spec.r e func80 [] [.eb 31 (fb a),.eb 44 (fb c)]⟩
 ·by_cases b:400<a0
  ·exact⟨false,Spec.r e func80 [] [.eb 31 (s9 b)]⟩
  ·by_cases d:20<i
   ·exact⟨false,Spec.r e func80 [] [.eb 31 (fb b),.eb 44 (s9 d)]⟩
   ·rcases g with rfl|⟨s1,a1,f,rfl⟩
    ·exact⟨true,Spec.r e func80 [] [.eb 31 (fb b),.eb 44 (fb d)]⟩
    ·by_cases a:400<a1
     ·exact⟨false,Spec.r e func80 [] [.eb 31 (fb b),.eb 44 (fb d),.eb 31 (s9 a)]⟩
     ·by_cases c:20<f
      ·exact⟨false,Spec.r e func80 [] [.eb 31 (fb b),.eb 44 (fb d),.eb 31 (fb a),.eb 44 (s9 c)]⟩
      ·exact⟨true,Spec.r e func80 [] [.eb 31 (fb b),.eb 44 (fb d),.eb 31 (fb a),.eb 44 (fb c)]⟩
end Tw
end Lw
namespace Lw
open Go Go.RowKit Go.Proofs
namespace Tw
open fL Classical
variable {G:World→Prop}
noncomputable def adE(G:World→Prop)(x y:Raw):Bool:=if h:∃z,Spec zZq G 80 [.row 2 false (qM x++qM y)] (bool z)then choose h else true
theorem agR(c:aa G){x y:Raw}(b:wN x)(a:wN y):Spec zZq G 80 [.row 2 false (qM x++qM y)] (bool (adE G x y)):=by
 have h:=agT c b a;unfold adE;rw[dif_pos h];exact choose_spec h
noncomputable def adF(G:World→Prop)(x:Raw):Bool:=if h:∃z,Spec zZq G 80 [.row 1 false (qM x)] (bool z)then choose h else true
theorem agS(b:aa G){x:Raw}(a:wN x):Spec zZq G 80 [.row 1 false (qM x)] (bool (adF G x)):=by
 have h:=agU b a;unfold adF;rw[dif_pos h];exact choose_spec h
def liS(l:pS)(xs:List zA)(i k:Nat):St:=lay 63 [(1,aU oC xs),(2,.aV (tf l)),(5,nat i),(6,nat k)] []
def loS(l:pS)(xs:List zA)(i:Nat):St:=lay 63 [(1,aU oC xs),(2,.aV (tf l)),(5,nat i)] []
def lR:St:=lay 63 [(4,bool false)] []
section
variable {l:pS} {xs:List zA} {i k:Nat}
noncomputable def lpE(G:World→Prop)(b:zB)(k:Nat):Nat:=if adE G (b.bC.getD k default).x (b.bC.getD k default).y=true then 0 else 1
theorem Q4(g:aa G)(f:i<l.bs.length)(a:k<(l.bs.getD i default).bC.length)(r:(l.bs.getD i default).bC.length≤8)(w:wN ((l.bs.getD i default).bC.getD k default).x∧wN ((l.bs.getD i default).bC.getD k default).y):
  (lpE G (l.bs.getD i default) k=0→ak zZq G 0 (ah f33 1) (liS l xs i k) .normal (liS l xs i (k+1)))∧(lpE G (l.bs.getD i default) k≠0→ak zZq G 0 (ah f33 1) (liS l xs i k) .ret lR):=by
 have c:=agR g w.1 w.2;have a1:=zU f;have d:=bH bB f 1 (by omega)
 have b:=jA bB f default 1 (by omega)
 unfold lpE;generalize l.bs.getD i default=B at*;have e:=aC bK (by omega) a
 have n:0<3∧3≤(((B.bC.flatMap px).drop ((zNq k).toNat*7)).drop 1).length:=by
  have:=(av bK (by omega) a).2
  rw[alP];omega
 have m:0<3∧3≤(((B.bC.flatMap px).drop ((zNq k).toNat*7)).drop 4).length:=by
  have:=(av bK (by omega) a).2
  rw[alP];omega
 have j:=cg bK a default;simp only[D.agg.injEq]at j;have q:D.agg ((((B.bC.flatMap px).drop ((zNq k).toNat*7)).drop 1).take 3)=.agg (qM (B.bC.getD k default).x):=by
  have:(((B.bC.flatMap px).drop ((zNq k).toNat*7)).drop 1).take 3=((((B.bC.flatMap px).drop ((zNq k).toNat*7)).take 7).drop 1).take 3:=by
   rw[aox,anK];rfl
  rw[this,j];rfl
 have p:D.agg ((((B.bC.flatMap px).drop ((zNq k).toNat*7)).drop 4).take 3)=.agg (qM (B.bC.getD k default).y):=by
  have:(((B.bC.flatMap px).drop ((zNq k).toNat*7)).drop 4).take 3=((((B.bC.flatMap px).drop ((zNq k).toNat*7)).take 7).drop 4).take 3:=by
   rw[aox,anK];rfl
  rw[this,j];rfl
 cases o:adE G (B.bC.getD k default).x (B.bC.getD k default).y with
 |true=>
  rw[o]at c;refine⟨fun _=>?_,fun h=>apC (apB rfl) h⟩
  exact ak.r g [.er 18 (nat i),.prop a1,.prop d,.eq 21 b,.eb 23 (ay a),.er 28 (nat i),.prop a1,.prop d,.eq 31 b,.er 32 (nat k),.prop e,.prop n,.eq 35 q,.er 38 (nat i),.prop a1,.prop d,.eq 41 b,.er 42 (nat k),.prop e,.prop m,.eq 45 p,.call c,.eq 25 (bQ (aI a (by omega)))]
 |false=>
  rw[o]at c;refine⟨fun h=>apC h (by simp),fun _=>?_⟩
  exact ak.r g [.er 18 (nat i),.prop a1,.prop d,.eq 21 b,.eb 23 (ay a),.er 28 (nat i),.prop a1,.prop d,.eq 31 b,.er 32 (nat k),.prop e,.prop n,.eq 35 q,.er 38 (nat i),.prop a1,.prop d,.eq 41 b,.er 42 (nat k),.prop e,.prop m,.eq 45 p,.call c]
theorem ag2(b:aa G)(a:i<l.bs.length):ak zZq G 0 (ah f33 1) (liS l xs i (l.bs.getD i default).bC.length) (.exit 2) (loS l xs i):=by
 have a1:=zU a;have d:=bH bB a 1 (by omega)
 have c:=jA bB a default 1 (by omega)
 generalize l.bs.getD i default=B at*;exact ak.r b [.er 18 (nat i),.prop a1,.prop d,.eq 21 c,.eb 23 (aH (alE B.bC.length))]
noncomputable def lbE(G:World→Prop)(l:pS)(i:Nat):Nat:=kV (lpE G (l.bs.getD i default)) (l.bs.getD i default).bC.length
theorem QZ(b:aa G)(a:i<l.bs.length)(r:l.bs.length≤1000)(n:(l.bs.getD i default).bC.length≤8)(w:∀m∈(l.bs.getD i default).bC,wN m.x∧wN m.y):
  (lbE G l i=0→ak zZq G 0 (ah f33 0) (loS l xs i) .normal (loS l xs (i+1)))∧(lbE G l i≠0→ak zZq G 0 (ah f33 0) (loS l xs i) .ret lR):=by
 unfold lbE;have f:∀k,k<(l.bs.getD i default).bC.length→wN ((l.bs.getD i default).bC.getD k default).x∧wN ((l.bs.getD i default).bC.getD k default).y:=fun k c=>w _ (aN c default)
 rcases dy (lpE G (l.bs.getD i default)) (l.bs.getD i default).bC.length with⟨e,d⟩|⟨k,e,d,q,p⟩
 ·have g:=bT.z zZq G (ah f33 1) (.exit 2) (loS l xs i) (fun k=>liS l xs i k) (l.bs.getD i default).bC.length (fun k c=>(Q4 b a c n (f k c)).1 (d k c)) (ag2 b a)
  refine⟨fun _=>?_,fun h=>apC e h⟩
  exact ak.r b [.eb 12 (ay a),.code g,.eq 14 (bQ (aI a (by omega)))]
 ·have g:=bT.z zZq G (ah f33 1) .ret lR (fun k=>liS l xs i k) k (fun j o=>(Q4 b a (by omega) n (f j (by omega))).1 (p j o)) ((Q4 b a e n (f k e)).2 d)
  refine⟨fun h=>apC (q.symm.trans h) d,fun _=>?_⟩
  exact ak.r b [.eb 12 (ay a),.code g]
def ltS(l:pS)(xs:List zA)(i:Nat):St:=lay 63 [(1,aU oC xs),(2,.aV (tf l)),(7,nat i)] []
theorem agX(a:aa G):ak zZq G 0 (ah f33 0) (loS l xs l.bs.length) (.exit 0) (lay 63 [(1,aU oC xs),(2,.aV (tf l))] []):=
 ak.r a [.eb 12 (aH (alE l.bs.length))]
noncomputable def ltE(G:World→Prop)(xs:List zA)(i:Nat):Nat:=if adF G (xs.getD i default).t=true then 0 else 1
theorem QY(b:aa G)(a:i<xs.length)(m:xs.length≤1000)(w:wN (xs.getD i default).t):
  (ltE G xs i=0→ak zZq G 0 (ah f33 2) (ltS l xs i) .normal (ltS l xs (i+1)))∧(ltE G xs i≠0→ak zZq G 0 (ah f33 2) (ltS l xs i) .ret lR):=by
 have c:=agS b w;have e:=aC te (by omega) a
 have d:0<3∧3≤(((xs.flatMap oC).drop ((zNq i).toNat*4)).drop 0).length:=by
  have:=(av te (by omega) a).2
  rw[alP];omega
 have j:=cg te a default;simp only[D.agg.injEq]at j;have g:D.agg ((((xs.flatMap oC).drop ((zNq i).toNat*4)).drop 0).take 3)=.agg (qM (xs.getD i default).t):=by
  have:(((xs.flatMap oC).drop ((zNq i).toNat*4)).drop 0).take 3=(((xs.flatMap oC).drop ((zNq i).toNat*4)).take 4).take 3:=by
   rw[amS,anK];rfl
  rw[this,j];rfl
 unfold ltE;cases f:adF G (xs.getD i default).t with
 |true=>
  rw[f]at c;refine⟨fun _=>?_,fun h=>apC (apB rfl) h⟩
  exact ak.r b [.eb 52 (ay a),.er 56 (nat i),.prop e,.prop d,.eq 59 g,.call c,.eq 54 (bQ (aI a (by omega)))]
 |false=>
  rw[f]at c;refine⟨fun h=>apC h (by simp),fun _=>?_⟩
  exact ak.r b [.eb 52 (ay a),.er 56 (nat i),.prop e,.prop d,.eq 59 g,.call c]
theorem agQ(a:aa G):ak zZq G 0 (ah f33 2) (ltS l xs xs.length) (.exit 4) (lay 63 [] []):=
 ak.r a [.eb 52 (aH (alE xs.length))]
theorem ai7(c:aa G)(g:l.bs.length≤1000)(f:xs.length≤1000)(q:∀b∈l.bs,b.bC.length≤8∧∀m∈b.bC,wN m.x∧wN m.y)(w:∀x∈xs,wN x.t):∃z,Spec zZq G 33 [Ci l,aU oC xs] (bool z):=by
 have d:∀i,i<l.bs.length→(l.bs.getD i default).bC.length≤8∧∀m∈(l.bs.getD i default).bC,wN m.x∧wN m.y:=fun i p=>q _ (aN p default)
 rcases dy (lbE G l) l.bs.length with⟨-,h⟩|⟨i,j,h,-,r⟩
 ·have e:=bT.z zZq G (ah f33 0) (.exit 0) (lay 63 [(1,aU oC xs),(2,.aV (tf l))] []) (fun k=>loS l xs k) l.bs.length (fun k a=>(QZ c a g (d k a).1 (d k a).2).1 (h k a)) (agX c)
  rcases dy (ltE G xs) xs.length with⟨-,n⟩|⟨i,o,n,-,s⟩
  ·have lq:=bT.z zZq G (ah f33 2) (.exit 4) (lay 63 [] []) (fun k=>ltS l xs k) xs.length (fun k a=>(QY c a f (w _ (aN a default))).1 (n k a)) (agQ c)
   exact⟨true,Spec.r c func33 [2] [.code e,.code lq]⟩
  ·have lq:=bT.z zZq G (ah f33 2) .ret lR (fun k=>ltS l xs k) i (fun k a=>(QY c (by omega) f (w _ (aN (by omega) default))).1 (s k a)) ((QY c o f (w _ (aN o default))).2 n)
   exact⟨false,Spec.r c func33 [2] [.code e,.code lq]⟩
 ·have e:=bT.z zZq G (ah f33 0) .ret lR (fun k=>loS l xs k) i (fun k a=>(QZ c (by omega) g (d k (by omega)).1 (d k (by omega)).2).1 (r k a)) ((QZ c j g (d i j).1 (d i j).2).2 h)
  exact⟨false,Spec.r c func33 [2] [.code e]⟩
end
end Tw
end Lw
namespace Lw
open Go Go.RowKit Go.Proofs
namespace Tw
variable {G:World→Prop}
def xV(kind body:Nat)(m:List Bool)(j:Jt):Bool:=decide (j.kind=kind)&&((decide (j.a=body)&&m.getD j.b false)||(decide (j.b=body)&&m.getD j.a false))
section
variable {l:Lk} {kind body i:Nat} {m:List Bool}
def rjS(l:Lk)(kind body:Nat)(m:List Bool)(i:Nat):St:=lay 51 [(1,nat kind),(2,nat body),(3,gC m),(4,.aV (EB l)),(12,aU Ox l.js),(13,nat l.js.length),(14,nat i)] []
theorem Yk(k:aa G)(o:gO l)(a:i<l.js.length)(y:m.length=l.bs.length):
  (xV kind body m (l.js.getD i default)=false→ak zZq G 0 (ah f188 0) (rjS l kind body m i) .normal (rjS l kind body m (i+1)))∧
  (xV kind body m (l.js.getD i default)=true→ak zZq G 0 (ah f188 0) (rjS l kind body m i) .ret (lay 51 [(8,nat i)] [])):=by
 have g:=aC br (by omega) a
 have f:=av br (by omega) a
 have e:=cg br a default;have p:=aN a (default:Jt);have w:=o.nj;have n:IntKind.wrap .i64 (zNq i+1)=zNq (i+1):=aI a (by omega)
 have la:=o.a _ p;have x:=o.b _ p;have v:=o.ab _ p;unfold xV;generalize l.js.getD i default=j at*;have a1:=gp (l:=m) (i:=j.a) (by omega)
 have u:=gw (l:=m) (i:=j.a) (by omega)
 have r:=iK (l:=m) (i:=j.a) (by omega)
 have t:=gp (l:=m) (i:=j.b) (by omega)
 have s:=gw (l:=m) (i:=j.b) (by omega)
 have q:=iK (l:=m) (i:=j.b) (by omega)
 by_cases b:j.kind=kind
 ·by_cases c:j.a=body
  ·have d:j.b≠body:=fun h=>v (c.trans h.symm)
   rw[apD b,apD c,apE d];generalize m.getD j.b false=z at q;cases z with
   |true=>
    refine⟨fun h=>by simp at h,fun _=>?_⟩
    exact ak.r k [.eb 15 (ay a),.prop g,.prop f,.eq 18 e,.eb 22 (gd b),.eb 27 (gd c),.er 31 (nat j.b),.prop t,.prop s,.eq 33 q]
   |false=>
    refine⟨fun _=>?_,fun h=>by simp at h⟩
    exact ak.r k [.eb 15 (ay a),.prop g,.prop f,.eq 18 e,.eb 22 (gd b),.eb 27 (gd c),.er 31 (nat j.b),.prop t,.prop s,.eq 33 q,.eb 39 (eJ d),.eq 50 (bQ n)]
  ·by_cases d:j.b=body
   ·rw[apD b,apE c,apD d]
    generalize m.getD j.a false=z at r;cases z with
    |true=>
     refine⟨fun h=>by simp at h,fun _=>?_⟩
     exact ak.r k [.eb 15 (ay a),.prop g,.prop f,.eq 18 e,.eb 22 (gd b),.eb 27 (eJ c),.eb 39 (gd d),.er 43 (nat j.a),.prop a1,.prop u,.eq 45 r]
    |false=>
     refine⟨fun _=>?_,fun h=>by simp at h⟩
     exact ak.r k [.eb 15 (ay a),.prop g,.prop f,.eq 18 e,.eb 22 (gd b),.eb 27 (eJ c),.eb 39 (gd d),.er 43 (nat j.a),.prop a1,.prop u,.eq 45 r,.eq 50 (bQ n)]
   ·rw[apD b,apE c,apE d]
    refine⟨fun _=>?_,fun h=>by simp at h⟩
    exact ak.r k [.eb 15 (ay a),.prop g,.prop f,.eq 18 e,.eb 22 (gd b),.eb 27 (eJ c),.eb 39 (eJ d),.eq 50 (bQ n)]
 ·rw[apE b]
  refine⟨fun _=>?_,fun h=>by simp at h⟩
  exact ak.r k [.eb 15 (ay a),.prop g,.prop f,.eq 18 e,.eb 22 (eJ b),.eq 50 (bQ n)]
def vv(l:Lk)(kind body:Nat)(m:List Bool):Int:=C2 (xV kind body m) l.js
theorem qj(a:aa G)(d:gO l)(c:m.length=l.bs.length):Spec zZq G 188 [g7 l,nat kind,nat body,gC m] (int (vv l kind body m)):=by
 have rd:∀i,i<l.js.findIdx (xV kind body m)→ak zZq G 0 (ah f188 0) (rjS l kind body m i) .normal (rjS l kind body m (i+1)):=fun i f=>by
  obtain⟨j,g⟩:=pL (default:Jt) f;exact(Yk a d j c).1 g
 unfold vv C2;split
 ·rename_i h
  have b:=bT.z zZq G (ah f188 0) .ret (lay 51 [(8,nat (l.js.findIdx (xV kind body m)))] []) (fun i=>rjS l kind body m i) _ rd ((Yk a d h c).2 (kJ default h))
  exact Spec.r a func188 [4] [.code b]
 ·rename_i h
  have e:l.js.findIdx (xV kind body m)=l.js.length:=anS amV (by omega)
  rw[e]at rd;have b:=bT.z zZq G (ah f188 0) (.exit 0) (lay 51 [] []) (fun i=>rjS l kind body m i) l.js.length rd
   (ak.r a [.eb 15 (aH (alE l.js.length))])
  exact Spec.r a func188 [4] [.code b]
def GZ(l:Lk)(b:Nat):Bool:=l.ds.any fun d=>decide (d.body=b)
def rdS(l:Lk)(b i:Nat):St:=lay 19 [(1,nat b),(8,aU PJ l.ds),(9,nat l.ds.length),(10,nat i)] []
theorem aa3(c:aa G)(r:gO l)(b:Nat):Spec zZq G 245 [g7 l,nat b] (bool (GZ l b)):=by
 have u:=r.nd;have any:∀i,i<l.ds.length→((l.ds.getD i default).body≠b→ak zZq G 0 (ah f245 0) (rdS l b i) .normal (rdS l b (i+1)))∧((l.ds.getD i default).body=b→ak zZq G 0 (ah f245 0) (rdS l b i) .ret (lay 19 [(4,bool true)] [])):=fun i a=>by
  have n:=aC fC (by omega) a
  have k:=av fC (by omega) a
  have e:=cg fC a default;generalize l.ds.getD i default=d at*;exact⟨fun h=>ak.r c [.eb 11 (ay a),.prop n,.prop k,.eq 13 e,.eb 17 (eJ h),.eq 18 (bQ (aI a (by omega)))],
   fun h=>ak.r c [.eb 11 (ay a),.prop n,.prop k,.eq 13 e,.eb 17 (gd h)]⟩
 rcases dy (fun i=>if(l.ds.getD i default).body=b then 1 else 0) l.ds.length with⟨-,g⟩|⟨i,p,g,-,t⟩
 ·have ne:∀i,i<l.ds.length→(l.ds.getD i default).body≠b:=fun i a e=>by
   have:=g i a;rw[apB e]at this;cases this
  have ev:GZ l b=false:=by
   unfold GZ;rw[aor];exact wI (P:=fun d:Dr=>¬decide (d.body=b)=true) fun i a=>by
    have:=ne i a;simpa using this
  have f:=bT.z zZq G (ah f245 0) (.exit 0) (lay 19 [] []) (fun i=>rdS l b i) l.ds.length (fun i a=>(any i a).1 (ne i a))
   (ak.r c [.eb 11 (aH (alE l.ds.length))])
  rw[ev];exact Spec.r c func245 [2] [.code f]
 ·have o:(l.ds.getD i default).body=b:=by
   by_cases q:(l.ds.getD i default).body=b
   ·exact q
   ·exact apC (apA q) g
  have ev:GZ l b=true:=by
   unfold GZ;rw[am5];exact⟨_,aN p default,by simpa using o⟩
  have f:=bT.z zZq G (ah f245 0) .ret (lay 19 [(4,bool true)] []) (fun i=>rdS l b i) i (fun j s=>(any j (by omega)).1 fun e=>by
   have:=t j s;rw[apB e]at this;cases this) ((any i p).2 o)
  rw[ev];exact Spec.r c func245 [2] [.code f]
def BW(l:Lk)(m:List Bool)(b:Nat):Bool:= !m.getD b false&& !GZ l b
theorem GU(c:aa G)(h:gO l){b:Nat}(a:b<m.length):Spec zZq G 189 [g7 l,gC m,nat b] (bool (BW l m b)):=by
 have g:=gp a;have f:=gw a;have e:=iK a;have d:=aa3 c h b;unfold BW;generalize m.getD b false=z at e;generalize GZ l b=y at d;cases z
 ·cases y<;>exact Spec.r c func189 [3] [.er 8 (nat b),.prop g,.prop f,.eq 10 e,.call d]
 ·exact Spec.r c func189 [3] [.er 8 (nat b),.prop g,.prop f,.eq 10 e]
end
theorem Y'(e:aa G){l:Lk}{b:Nat}(c:l.bs.length≤1000000)(d:b<l.bs.length):Spec zZq G 142 [g7 l,nat b] (.row l.bs.length false (((aF (List.replicate l.bs.length (bool false)) (0+(zNq b).toNat*1) [bool true]).drop 0).take l.bs.length)):=by
 have a:=pK c;have a1:(0:Int)≤zNq b∧zNq b<(((zNq l.bs.length).toNat:Nat):Int):=aD d;have s1:0+(zNq b).toNat*1+1≤(List.replicate (zNq l.bs.length).toNat (bool false)).length:=by
  have g:(zNq l.bs.length).toNat=l.bs.length:=rfl;have f:(zNq b).toNat=b:=rfl;rw[amz,g,f];omega
 exact Spec.r e func142 [2] [.er 8 (nat l.bs.length),.prop a,.er 11 (nat b),.prop a1,.prop s1]
def k_(n b:Nat):List Bool:=(List.replicate n false).set b true
theorem Za(f:aa G){l:Lk}{b:Nat}(d:l.bs.length≤1000000)(a:b<l.bs.length):Spec zZq G 142 [g7 l,nat b] (gC (k_ l.bs.length b)):=by
 have h:=Y' (G:=G) f d a;have e:=bG (m:=List.replicate l.bs.length false) (i:=b) (by simpa using a)
 rw[aoI]at e;have c:(k_ l.bs.length b).length=l.bs.length:=by unfold k_;rw[amf,amz]
 rw[e,amS,al4 (by rw[alR,amf,amz];exact alE _)]at h
 unfold gC;rw[c];exact h
def h_(l:Lk)(m:List Bool)(d:Dr):Bool:= !m.getD d.body false&&decide (vv l 0 d.body m≥0)
def tZ(l:Lk)(m:List Bool):Option Gp:=
 if l.ds.findIdx (h_ l m)<l.ds.length then
  some ⟨0,[(l.ds.getD (l.ds.findIdx (h_ l m)) default).body],[(vv l 0 (l.ds.getD (l.ds.findIdx (h_ l m)) default).body m).toNat],l.ds.findIdx (h_ l m)⟩
 else none
def ad_(l:Lk)(m:List Bool)(i:Nat):St:=lay 38 [(1,gC m),(2,.aV (EB l)),(4,.ptr 0 0),(10,aU PJ l.ds),(11,nat l.ds.length),(12,nat i)] [(0,Br)] [0]
theorem I0(j:aa G){l:Lk}{m:List Bool}(t:gO l)(v:m.length=l.bs.length):iz zZq G 143 [g7 l,gC m] (Ky (tZ l m)):=by
 have ca:∀b,Spec zZq G 188 [g7 l,nat 0,nat b,gC m] (int (vv l 0 b m)):=fun b=>qj j t v
 have k:∀i,i<l.ds.length→(l.ds.getD i default).body<m.length:=fun i u=>by rw[v];exact t.body _ (aN u _)
 have y:=t.nd;have rd:∀i,i<l.ds.findIdx (h_ l m)→ak zZq G 0 (ah f143 0) (ad_ l m i) .normal (ad_ l m (i+1)):=fun i u=>by
  obtain⟨a,d⟩:=pL default u;have e:=cg fC a default;have r:=gp (k i a);have q:=gw (k i a);have o:=iK (k i a);have c:=ca (l.ds.getD i default).body;rw[h_]at d;generalize m.getD (l.ds.getD i default).body false=z at o d;cases z with
  |true=>exact ak.r j [.eb 13 (ay a),.prop (aC fC (by omega) a),.prop (av fC (by omega) a),.eq 16 e,.er 19 (nat (l.ds.getD i default).body),.prop r,.prop q,.eq 21 o,.eq 36 (bQ (aI a (by omega)))]
  |false=>
   rcases eO (xV 0 (l.ds.getD i default).body m) l.js with g|⟨n,-,g⟩
   ·have f:vv l 0 (l.ds.getD i default).body m= -1:=g
    rw[f]at c;exact ak.r j [.eb 13 (ay a),.prop (aC fC (by omega) a),.prop (av fC (by omega) a),.eq 16 e,.er 19 (nat (l.ds.getD i default).body),.prop r,.prop q,.eq 21 o,.call c,.eq 36 (bQ (aI a (by omega)))]
   ·have f:vv l 0 (l.ds.getD i default).body m=zNq n:=g
    rw[f]at d;simp at d
 unfold tZ;split
 ·rename_i h
  have d:=kJ (p:=h_ l m) default h;have e:=cg fC h default;have r:=gp (k _ h);have q:=gw (k _ h);have o:=iK (k _ h);have c:=ca (l.ds.getD (l.ds.findIdx (h_ l m)) default).body;rcases eO (xV 0 (l.ds.getD (l.ds.findIdx (h_ l m)) default).body m) l.js with g|⟨n,-,g⟩
  ·have f:vv l 0 (l.ds.getD (l.ds.findIdx (h_ l m)) default).body m= -1:=g
   rw[h_,f,Bool.and_eq_true]at d;exact apC d.2 (by decide)
  ·have f:vv l 0 (l.ds.getD (l.ds.findIdx (h_ l m)) default).body m=zNq n:=g
   have x:m.getD (l.ds.getD (l.ds.findIdx (h_ l m)) default).body false=false:=by
    rw[h_]at d;simpa using(Bool.and_eq_true_iff.1 d).1
   rw[x]at o;rw[f]at c⊢;have s:=bT.z zZq G (ah f143 0) .ret (lay 38 [(4,.ptr 0 0),(5,bool true)] [(0,[nat 0,.bz 2 0 1 1,.bz 3 0 1 1,nat (l.ds.findIdx (h_ l m))]),(2,[nat (l.ds.getD (l.ds.findIdx (h_ l m)) default).body]),(3,[nat n])] [0]) (fun i=>ad_ l m i) _ rd
    (ak.ae j (ro:=[31,33]) (m:=60) (af ..) [.eb 13 (ay h),.prop (aC fC (by omega) h),.prop (av fC (by omega) h),.eq 16 e,.er 19 (nat (l.ds.getD (l.ds.findIdx (h_ l m)) default).body),.prop r,.prop q,.eq 21 o,.call c,.eb 28 (l8 n)])
   exact iz.ae j func143 (ro:=[2]) (m:=60) [.code s]
 ·rename_i h
  have w:l.ds.findIdx (h_ l m)=l.ds.length:=anS amV (by omega)
  rw[w]at rd;have s:=bT.z zZq G (ah f143 0) (.exit 0) (lay 38 [(4,.ptr 0 0)] [(0,Br)] [0]) (fun i=>ad_ l m i) _ rd
   (ak.r j [.eb 13 (aH (alE l.ds.length))])
  exact iz.ae j func143 (ro:=[2]) (m:=60) [.code s]
def qK(l:Lk)(m:List Bool)(i:Nat):Bool:=BW l m i&&(decide (vv l 0 i m≥0)&&decide (vv l 1 i m≥0))
def xm(l:Lk)(m:List Bool):Nat:=(List.range l.bs.length).findIdx (qK l m)
def singleR(l:Lk)(m:List Bool):Option Gp:=
 if xm l m<l.bs.length then
  some ⟨fW l (xm l m) (vv l 1 (xm l m) m).toNat,[xm l m],[(vv l 0 (xm l m) m).toNat,(vv l 1 (xm l m) m).toNat],0⟩
 else none
def X2(l:Lk)(m:List Bool)(i:Nat):St:=lay 52 [(1,gC m),(2,.aV (EB l)),(4,.ptr 0 0),(12,nat l.bs.length),(13,nat i)] [(0,Br)] [0]
theorem IW(a:aa G){l:Lk}{m:List Bool}(u:gO l)(E:m.length=l.bs.length):iz zZq G 145 [g7 l,gC m] (Ky (singleR l m)):=by
 have ca:∀k d,Spec zZq G 188 [g7 l,nat k,nat d,gC m] (int (vv l k d m)):=fun k d=>qj a u E
 have D:∀i,i<l.bs.length→Spec zZq G 189 [g7 l,gC m,nat i] (bool (BW l m i)):=fun i B=>GU a u (by omega)
 have I:=u.nb;have w:(List.range l.bs.length).length=l.bs.length:=am_;have rd:∀i,i<xm l m→ak zZq G 0 (ah f145 0) (X2 l m i) .normal (X2 l m (i+1)):=fun i B=>by
  obtain⟨f,b⟩:=pL 0 (p:=qK l m) B;rw[w]at f;rw[lZ f]at b;have c:=D i f;have c0:=ca 0 i;have q:=ca 1 i;rw[qK]at b;generalize BW l m i=z at c b;cases z with
  |false=>exact ak.r a [.eb 14 (ay f),.call c,.eq 50 (bQ (aI f (by omega)))]
  |true=>
   rw[aoP]at b;rcases eO (xV 0 i m) l.js with j|⟨n,-,j⟩
   ·have g:vv l 0 i m= -1:=j
    rw[g]at c0;exact ak.r a [.eb 14 (ay f),.call c,.call c0,.call q,.eq 50 (bQ (aI f (by omega)))]
   ·have g:vv l 0 i m=zNq n:=j
    rw[g]at c0;rcases eO (xV 1 i m) l.js with o|⟨k,-,o⟩
    ·have r:vv l 1 i m= -1:=o
     rw[r]at q;exact ak.r a [.eb 14 (ay f),.call c,.call c0,.call q,.eb 30 (aB n),.eq 50 (bQ (aI f (by omega)))]
    ·have r:vv l 1 i m=zNq k:=o
     rw[g,r]at b;simp at b
 unfold singleR;split
 ·rename_i h
  have F:(List.range l.bs.length).findIdx (qK l m)<(List.range l.bs.length).length:=by rw[w];exact h
  have b:qK l m ((List.range l.bs.length).getD (xm l m) 0)=true:=kJ (p:=qK l m) 0 F;rw[lZ h]at b;generalize H:xm l m=i at h b rd;have c:=D i h;have c0:=ca 0 i;have q:=ca 1 i;rw[qK,Bool.and_eq_true,Bool.and_eq_true]at b;obtain⟨f1,f2,f3⟩:=b;rw[f1]at c;rcases eO (xV 0 i m) l.js with j|⟨n,A,j⟩
  ·have g:vv l 0 i m= -1:=j
   rw[g]at f2;exact apC f2 (by decide)
  rcases eO (xV 1 i m) l.js with o|⟨k,v,o⟩
  ·have r:vv l 1 i m= -1:=o
   rw[r]at f3;exact apC f3 (by decide)
  have g:vv l 0 i m=zNq n:=j;have r:vv l 1 i m=zNq k:=o;rw[g]at c0⊢;rw[r]at q⊢;have y:=aC br (by omega) v
  have x:=bH br v 2 (by omega)
  have e:=jA br v default 2 (by omega)
  have C:(((l.js.flatMap Ox).drop ((zNq k).toNat*7)).drop 2).headD .any=nat (l.js.getD k default).a:=e;unfold fW;by_cases t:(l.js.getD (zNq k).toNat default).a=i
  ·rw[apB t]
   have s:=bT.z zZq G (ah f145 0) .ret (lay 52 [(4,.ptr 0 0),(5,bool true)] [(0,[nat 2,.bz 1 0 1 1,.bz 2 0 2 2,nat 0]),(1,[nat i]),(2,[nat n,nat k])] [0]) (fun i=>X2 l m i) i rd
    (ak.ae a (ro:=[45,48]) (m:=60) (af ..) [.eb 14 (ay h),.call c,.call c0,.call q,.eb 30 (aB n),.eb 33 (aB k),.er 37 (nat k),.prop y,.prop x,.eq 40 C,.eb 42 (gd t)])
   exact iz.ae a func145 (ro:=[2]) (m:=60) [.code s]
  ·rw[apA t]
   have s:=bT.z zZq G (ah f145 0) .ret (lay 52 [(4,.ptr 0 0),(5,bool true)] [(0,[nat 3,.bz 1 0 1 1,.bz 2 0 2 2,nat 0]),(1,[nat i]),(2,[nat n,nat k])] [0]) (fun i=>X2 l m i) i rd
    (ak.ae a (ro:=[45,48]) (m:=60) (af ..) [.eb 14 (ay h),.call c,.call c0,.call q,.eb 30 (aB n),.eb 33 (aB k),.er 37 (nat k),.prop y,.prop x,.eq 40 C,.eb 42 (eJ t)])
   exact iz.ae a func145 (ro:=[2]) (m:=60) [.code s]
 ·rename_i h
  have A:xm l m=l.bs.length:=anS (by have:= @amV _ (qK l m) (List.range l.bs.length);rw[w]at this;exact this) (by omega)
  rw[A]at rd;have s:=bT.z zZq G (ah f145 0) (.exit 0) (lay 52 [(4,.ptr 0 0)] [(0,Br)] [0]) (fun i=>X2 l m i) _ rd
   (ak.r a [.eb 14 (aH (alE l.bs.length))])
  exact iz.ae a func145 (ro:=[2]) (m:=60) [.code s]
def jcR(l:Lk)(i k:Nat):Int:=vv l 0 i (k_ l.bs.length k)
def vN(l:Lk)(m:List Bool)(i k:Nat):Bool:=(BW l m i&&BW l m k)&&(decide (vv l 0 i m≥0)&&(decide (vv l 0 k m≥0)&&decide (jcR l i k≥0)))
section
variable {l:Lk} {m:List Bool} {i k:Nat}
def prI(l:Lk)(m:List Bool)(i k:Nat):St:=lay 72 [(1,gC m),(2,.aV (EB l)),(4,.ptr 0 0),(6,nat i),(7,nat k),(13,nat l.bs.length),(14,nat i)] [(0,Br)] [0]
def prO(l:Lk)(m:List Bool)(i:Nat):St:=lay 72 [(1,gC m),(2,.aV (EB l)),(4,.ptr 0 0),(13,nat l.bs.length),(14,nat i)] [(0,Br)] [0]
theorem yM(l:Lk)(kind b:Nat)(m:List Bool):vv l kind b m= -1∨∃n,vv l kind b m=zNq n:=by
 rcases eO (xV kind b m) l.js with h|⟨n,-,h⟩
 ·exact .inl h
 ·exact .inr ⟨n,h⟩
theorem SP(a:aa G)(d:gO l)(u:m.length=l.bs.length)(B:i<l.bs.length)(c:k<l.bs.length)(h:vN l m i k=false):
  ak zZq G 0 (ah f144 1) (prI l m i k) .normal (prI l m i (k+1)):=by
 have x:=d.nb;have e:=GU (G:=G) a d (m:=m) (b:=i) (by omega)
 have n:=GU (G:=G) a d (m:=m) (b:=k) (by omega)
 have p:=Za (G:=G) a (l:=l) (b:=k) (by omega) c
 have w:(k_ l.bs.length k).length=l.bs.length:=by unfold k_;rw[amf,amz]
 have j:=qj (G:=G) (kind:=0) (body:=i) a d u;have g:=qj (G:=G) (kind:=0) (body:=k) a d u;have o:=qj (G:=G) (kind:=0) (body:=i) a d w;unfold vN jcR at h;have f:IntKind.wrap .i64 (zNq k+1)=zNq (k+1):=aI c (by omega)
 generalize BW l m i=z at e h;generalize BW l m k=y at n h;cases z
 ·exact ak.r a [.eb 23 (ay c),.call e,.eq 25 (bQ f)]
 ·cases y
  ·exact ak.r a [.eb 23 (ay c),.call e,.call n,.eq 25 (bQ f)]
  ·rcases yM l 0 i m with s|⟨t,s⟩
   ·rw[s]at j
    exact ak.r a [.eb 23 (ay c),.call e,.call n,.call j,.call g,.call p,.call o,.eq 25 (bQ f)]
   ·rw[s]at j h
    rcases yM l 0 k m with r|⟨v,r⟩
    ·rw[r]at g
     exact ak.r a [.eb 23 (ay c),.call e,.call n,.call j,.call g,.call p,.call o,.eb 53 (l8 t),.eq 25 (bQ f)]
    ·rw[r]at g h
     rcases yM l 0 i (k_ l.bs.length k)with q|⟨A,q⟩
     ·rw[q]at o
      exact ak.r a [.eb 23 (ay c),.call e,.call n,.call j,.call g,.call p,.call o,.eb 53 (l8 t),.eb 56 (l8 v),.eq 25 (bQ f)]
     ·rw[q]at h
      simp at h
def prR(i k c b a:Nat):St:=lay 72 [(4,.ptr 0 0),(5,bool true)] [(0,[nat 1,.bz 1 0 2 2,.bz 2 0 3 3,nat 0]),(1,[nat i,nat k]),(2,[nat c,nat b,nat a])] [0]
theorem agi(a:aa G)(c:gO l)(o:m.length=l.bs.length)(B:i<l.bs.length)(p:k<l.bs.length)(h:vN l m i k=true):
  ak zZq G 0 (ah f144 1) (prI l m i k) .ret (prR i k (vv l 0 i m).toNat (vv l 0 k m).toNat (jcR l i k).toNat):=by
 have A:=c.nb;have u:=GU (G:=G) a c (m:=m) (b:=i) (by omega)
 have t:=GU (G:=G) a c (m:=m) (b:=k) (by omega)
 have z:=Za (G:=G) a (l:=l) (b:=k) (by omega) p
 have y:(k_ l.bs.length k).length=l.bs.length:=by unfold k_;rw[amf,amz]
 have n:=qj (G:=G) (kind:=0) (body:=i) a c o;have j:=qj (G:=G) (kind:=0) (body:=k) a c o;have g:=qj (G:=G) (kind:=0) (body:=i) a c y;unfold vN at h;unfold jcR at h⊢;rw[zLq,zLq,zLq,zLq]at h;obtain⟨⟨f1,f2⟩,s,r,q⟩:=h;rw[f1]at u;rw[f2]at t;rcases yM l 0 i m with f|⟨x,f⟩
 ·rw[f]at s;exact apC s (by decide)
 rcases yM l 0 k m with e|⟨w,e⟩
 ·rw[e]at r;exact apC r (by decide)
 rcases yM l 0 i (k_ l.bs.length k)with d|⟨v,d⟩
 ·rw[d]at q;exact apC q (by decide)
 rw[f]at n;rw[e]at j;rw[d]at g;rw[f,e,d];exact ak.ae a (ro:=[64,68]) (m:=60) (af ..) [.eb 23 (ay p),.call u,.call t,.call n,.call j,.call z,.call g,.eb 53 (l8 x),.eb 56 (l8 w),.eb 60 (l8 v)]
theorem Qw(b:aa G)(a:l.bs.length≤k):ak zZq G 0 (ah f144 1) (prI l m i k) (.exit 2) (prO l m i):=
 ak.r b [.eb 23 (aH a)]
end
section
variable {l:Lk} {m:List Bool} {i k:Nat}
theorem Jn{kind b:Nat}{m:List Bool}(h:decide (vv l kind b m≥0)=true):(vv l kind b m).toNat<l.js.length:=by
 rcases eO (xV kind b m) l.js with e|⟨n,a,e⟩
 ·have e:vv l kind b m= -1:=e
  rw[e]at h;exact apC h (by decide)
 ·have e:vv l kind b m=zNq n:=e
  rw[e];exact a
def PrB(l:Lk)(k c b a:Nat):Prop:=k<l.bs.length∧c<l.js.length∧b<l.js.length∧a<l.js.length
theorem YK(c:aa G)(f:gO l)(o:m.length=l.bs.length)(b:i<l.bs.length):
  ak zZq G 0 (ah f144 0) (prO l m i) .normal (prO l m (i+1))∨∃k s r q,PrB l k s r q∧ak zZq G 0 (ah f144 0) (prO l m i) .ret (prR i k s r q):=by
 have y:=f.nb;have h:IntKind.wrap .i64 (zNq i+1)=zNq (i+1):=aI b (by omega)
 rcases dy (fun d=>if vN l m i (i+1+d)=true then 1 else 0) (l.bs.length-(i+1))with⟨-,g⟩|⟨d,z,g,-,u⟩
 ·have no:∀d,d<l.bs.length-(i+1)→vN l m i (i+1+d)=false:=fun d a=>by
   have:=g d a;split at this
   ·cases this
   ·rename_i n;simpa using n
  have j:=bT.z zZq G (ah f144 1) (.exit 2) (prO l m i) (fun d=>prI l m i (i+1+d)) (l.bs.length-(i+1)) (fun d a=>SP c f o b (by omega) (no d a)) (Qw c (by omega))
  exact .inl (ak.r c [.eb 15 (ay b),.eq 18 (bQ h),.code j,.eq 70 (bQ h)])
 ·have a:vN l m i (i+1+d)=true:=by
   split at g
   ·assumption
   ·exact apC rfl g
  have no:∀e,e<d→vN l m i (i+1+e)=false:=fun e p=>by
   have:=u e p;split at this
   ·cases this
   ·rename_i n;simpa using n
  have j:=bT.z zZq G (ah f144 1) .ret (prR i (i+1+d) (vv l 0 i m).toNat (vv l 0 (i+1+d) m).toNat (jcR l i (i+1+d)).toNat) (fun d=>prI l m i (i+1+d)) d (fun e p=>SP c f o b (by omega) (no e p)) (agi c f o b (by omega) a)
  have t:PrB l (i+1+d) (vv l 0 i m).toNat (vv l 0 (i+1+d) m).toNat (jcR l i (i+1+d)).toNat:=by
   unfold vN at a;rw[zLq,zLq,zLq,zLq]at a;obtain⟨-,x,w,v⟩:=a;exact⟨by omega,Jn x,Jn w,Jn v⟩
  exact .inr ⟨i+1+d,(vv l 0 i m).toNat,(vv l 0 (i+1+d) m).toNat,(jcR l i (i+1+d)).toNat,t,ak.r c [.eb 15 (ay b),.eq 18 (bQ h),.code j]⟩
theorem ac2(f:aa G)(t:gO l)(s:m.length=l.bs.length):∃o,iz zZq G 144 [g7 l,gC m] (Ky o)∧∀g,o=some g→(∀b∈g.bs,b<l.bs.length)∧(∀j∈g.js,j<l.js.length)∧g.bs.length≤2∧g.js.length≤3:=by
 open Classical in
 rcases dy (fun i=>if(∃k d c a,PrB l k d c a∧ak zZq G 0 (ah f144 0) (prO l m i) .ret (prR i k d c a))then 1 else 0) l.bs.length with⟨-,r⟩|⟨i,y,r,-,x⟩
 ·have n:=bT.z zZq G (ah f144 0) (.exit 0) (lay 72 [(4,.ptr 0 0)] [(0,Br)] [0]) (fun i=>prO l m i) l.bs.length (fun i u=>(YK f t s u).elim id fun e=>by
    have:=r i u;rw[apB e]at this;cases this)
   (ak.r f [.eb 15 (aH (alE l.bs.length))])
  exact⟨none,iz.ae f func144 (ro:=[2]) (m:=60) [.code n],fun g h=>by cases h⟩
 ·have e:∃k d c a,PrB l k d c a∧ak zZq G 0 (ah f144 0) (prO l m i) .ret (prR i k d c a):=by
   by_cases q:∃k d c a,PrB l k d c a∧ak zZq G 0 (ah f144 0) (prO l m i) .ret (prR i k d c a)
   ·exact q
   ·exact apC (apA q) r
  obtain⟨k,d,c,a,⟨C,B,A,z⟩,e⟩:=e;have n:=bT.z zZq G (ah f144 0) .ret (prR i k d c a) (fun i=>prO l m i) i (fun j p=>(YK f t s (by omega)).elim id fun v=>by
    have:=x j p;rw[apB v]at this;cases this) e
  exact⟨some ⟨1,[i,k],[d,c,a],0⟩,iz.ae f func144 (ro:=[2]) (m:=60) [.code n],fun g h=>by
   cases h;exact⟨fun b w=>by simp at w;omega,fun j p=>by simp at p;omega,alE 2,alE 3⟩⟩
end
end Tw
end Lw
namespace Lw
open Go Go.RowKit Go.Proofs
namespace Tw
def HF(l:Lk)(g:Gp):Prop:=(∀b∈g.bs,b<l.bs.length)∧(∀j∈g.js,j<l.js.length)∧g.bs.length≤2∧g.js.length≤3
theorem RE{l:Lk}{m:List Bool}(e:gO l){g:Gp}(h:tZ l m=some g):HF l g:=by
 unfold tZ at h;split at h
 ·rename_i c
  cases h;have d:=kJ (p:=h_ l m) default c;rw[h_,zLq]at d;have i:=e.body _ (aN c default);have f:=Jn d.2;exact⟨fun b a=>by simp at a;rw[a];simpa using i,fun j a=>by rw[alI]at a;rw[a];exact f,by simp,by simp⟩
 ·cases h
theorem P6{l:Lk}{m:List Bool}{g:Gp}(h:singleR l m=some g):HF l g:=by
 unfold singleR at h;split at h
 ·rename_i d
  cases h;have f:(List.range l.bs.length).findIdx (qK l m)<(List.range l.bs.length).length:=by rw[am_];exact d
  have e:qK l m ((List.range l.bs.length).getD (xm l m) 0)=true:=kJ (p:=qK l m) 0 f;rw[lZ d,qK,zLq,zLq]at e;have a:=Jn e.2.1;have b:=Jn e.2.2;refine⟨fun x c=>?_,fun j c=>?_,by simp,by simp⟩
  ·rw[alI]at c;rw[c];exact d
  ·simp only[List.mem_cons,List.not_mem_nil,or_false]at c
   rcases c with rfl|rfl
   ·exact a
   ·exact b
 ·cases h
end Tw
end Lw
namespace Lw
open Go Go.RowKit Go.Proofs
namespace Tw
open Classical
variable {G:World→Prop}
noncomputable def F9(G:World→Prop)(l:Lk)(m:List Bool):Option Gp:=
 if h:∃o,iz zZq G 144 [g7 l,gC m] (Ky o)∧∀g,o=some g→HF l g then choose h else none
theorem Kx(c:aa G){l:Lk}{m:List Bool}(b:gO l)(a:m.length=l.bs.length):iz zZq G 144 [g7 l,gC m] (Ky (F9 G l m))∧∀g,F9 G l m=some g→HF l g:=by
 have h:∃o,iz zZq G 144 [g7 l,gC m] (Ky o)∧∀g,o=some g→HF l g:=ac2 (G:=G) c b a;unfold F9;rw[dif_pos h];exact choose_spec h
noncomputable def Bv(G:World→Prop)(l:Lk)(m:List Bool):Option Gp:=match tZ l m with
 |some g=>some g
 |none=>match F9 G l m with
  |some g=>some g
  |none=>singleR l m
theorem Gh(e:aa G){l:Lk}{m:List Bool}(c:gO l)(d:m.length=l.bs.length){g:Gp}(h:Bv G l m=some g):HF l g:=by
 unfold Bv at h;cases b:tZ l m with
 |some x=>rw[b]at h;cases h;exact RE c b
 |none=>
  rw[b]at h;cases a:F9 G l m with
  |some x=>rw[a]at h;cases h;exact(Kx e c d).2 _ a
  |none=>rw[a]at h;exact P6 h
def rfO(b:Nat):List Gp→D
 |[]=>.row 0 true []
 |g::gs=>.cR b (g::gs).length 4
def rfB(m:List Bool):List Gp→List (Nat×List D)
 |[]=>[(1,m.map bool)]
 |g::gs=>[(1,m.map bool),(2,(g::gs).flatMap iV)]
def rfS(l:Lk)(m:List Bool)(gs:List Gp)(i:Nat):St:=lay 57 [(1,.aV (EB l)),(3,.bz 1 0 l.bs.length l.bs.length),(4,rfO 2 gs),(13,nat l.bs.length),(14,nat i)] (rfB m gs) []
def rfE(gs:List Gp):St:=lay 57 [(4,rfO 2 gs)] (match gs with|[]=>[]|g::gs=>[(2,(g::gs).flatMap iV)]) []
theorem af'(b:aa G){l:Lk}{m:List Bool}(c:gO l)(a:m.length=l.bs.length){i:Nat}(j:i<l.bs.length)(h:Bv G l m=none)(gs:List Gp):iC zZq G 0 (ah f79 0) (rfS l m gs i) (.exit 0) (rfE gs):=by
 have e:=I0 (G:=G) b c a;have d:=(Kx (G:=G) b c a).1;have cs:=IW (G:=G) b c a;rw[←lP a]at e d cs;unfold Bv at h;cases g:tZ l m with
 |some x=>rw[g]at h;cases h
 |none=>
  rw[g]at h e;cases f:F9 G l m with
  |some x=>rw[f]at h;cases h
  |none=>
   rw[f]at h d;have h:singleR l m=none:=h;rw[h]at cs;cases gs<;>exact iC.ae b (ro:=[]) (m:=60) [] (af ..) [.eb 15 (ay j),.dY e,.dY d,.dY cs] (by decide)
def rmS(l:Lk)(m:List Bool)(gs:List Gp)(i:Nat)(bs:List Nat)(k:Nat):St:=lay 57 [(1,.aV (EB l)),(3,.bz 1 0 l.bs.length l.bs.length),(4,rfO 2 gs),(13,nat l.bs.length),(14,nat i),(45,mP bs),(46,nat bs.length),(47,nat k)] (rfB (ei m (bs.take k)) gs) []
theorem Aj(m:List Bool)(bs:List Nat){k:Nat}(a:k<bs.length):ei m (bs.take (k+1))=(ei m (bs.take k)).set (bs.getD k 0) true:=by
 unfold ei;rw[aob,alK a,am9,alD,alK a];rfl
theorem SK(c:aa G){l:Lk}{m:List Bool}(j:m.length=l.bs.length){g0:Gp}{gs:List Gp}{i:Nat}{bs:List Nat}(n:∀b∈bs,b<l.bs.length)(o:bs.length≤1000):bT zZq G 57 0 (.loop (ah f79 1)) (rmS l m (g0::gs) i bs 0) (.exit 2) (rfS l (ei m bs) (g0::gs) i):=by
 refine bT.c (fun k=>rmS l m (g0::gs) i bs k) bs.length (fun k a=>?_) ?_
 ·have f:=n _ (aN a 0)
  have h:(ei m (bs.take k)).length=l.bs.length:=by rw[mq];exact j
  have d:bs.getD k 0<(ei m (bs.take k)).length:=by rw[h];exact f
  have e:=xJ a;have g:ak zZq G 0 (ah f79 1) (rmS l m (g0::gs) i bs k) .normal (lay 57 [(1,.aV (EB l)),(3,.bz 1 0 l.bs.length l.bs.length),(4,rfO 2 (g0::gs)),(13,nat l.bs.length),(14,nat i),(45,mP bs),(46,nat bs.length),(47,nat (k+1))] [(1,aF ((ei m (bs.take k)).map bool) (0+(zNq (bs.getD k 0)).toNat*1) [bool true]),(2,(g0::gs).flatMap iV)] []):=
   ak.r c [.eb 48 (ay a),.prop (sR a),.prop (sS a),.eq 50 e,.er 52 (nat (bs.getD k 0)),.prop (aD f),.prop (gM d),.eq 54 (bQ (aI a (by omega)))]
  rw[bG d,←Aj m bs a]at g;exact g
 ·show ak _ _ _ _ (rmS l m (g0::gs) i bs bs.length) _ _
  unfold rmS;rw[ank];exact ak.r c [.eb 48 (aH (alE bs.length))]
theorem ac5(e:aa G){l:Lk}{m:List Bool}(c:m.length=l.bs.length){g0 g:Gp}{gs:List Gp}{i:Nat}{bs:List Nat}(d:∀b∈bs,b<l.bs.length)(a:bs.length≤1000):bT zZq G 57 0 (.loop (ah f79 1)) (lay 57 [(1,.aV (EB l)),(3,.bz 1 0 l.bs.length l.bs.length),(4,.cR 2 ((g0::gs).length+1) 4),(13,nat l.bs.length),(14,nat i),(45,mP bs),(46,nat bs.length),(47,nat 0)] [(1,m.map bool),(2,(g0::gs).flatMap iV++iV g)] []) (.exit 2) (rfS l (ei m bs) (g0::(gs++[g])) i):=by
 have h:=SK e c (g0:=g0) (gs:=gs++[g]) (i:=i) d a;have k:(g0::(gs++[g])).length=(g0::gs).length+1:=by simp
 have j:(g0::(gs++[g])).flatMap iV=(g0::gs).flatMap iV++iV g:=E5 (g0::gs) g;have f:rmS l m (g0::(gs++[g])) i bs 0=lay 57 [(1,.aV (EB l)),(3,.bz 1 0 l.bs.length l.bs.length),(4,.cR 2 ((g0::gs).length+1) 4),(13,nat l.bs.length),(14,nat i),(45,mP bs),(46,nat bs.length),(47,nat 0)] [(1,m.map bool),(2,(g0::gs).flatMap iV++iV g)] []:=by
  rw[←k,←j];rfl
 rw[f]at h;exact h
theorem aiG(a:aa G){l:Lk}{m:List Bool}(k:gO l)(d:m.length=l.bs.length){i:Nat}(e:i<l.bs.length){g:Gp}(h:Bv G l m=some g)(gs:List Gp)(o:gs.length≤1000):iC zZq G 0 (ah f79 0) (rfS l m gs i) .normal (rfS l (ei m g.bs) (gs++[g]) (i+1)):=by
 have t:=k.nb;have b:=I0 (G:=G) a k d;have f:=(Kx (G:=G) a k d).1;have cs:=IW (G:=G) a k d;rw[←lP d]at b f cs;have s:=(Gh a k d h).1;have r:g.bs.length≤1000:=by have:=(Gh a k d h).2.2.1;omega
 have j:IntKind.wrap .i64 (zNq i+1)=zNq (i+1):=aI e (by omega)
 have lt:=fun(g0 g:Gp) (gs:List Gp)=>ac5 (G:=G) a d (g0:=g0) (g:=g) (gs:=gs) (i:=i) s r
 have n:=fun(g0:Gp) (gs:List Gp)=>SK (G:=G) a d (g0:=g0) (gs:=gs) (i:=i) s r
 unfold Bv at h;cases q:tZ l m with
 |some x=>
  rw[q]at h b;cases h;cases gs with
  |nil=>exact iC.ae a (ro:=[]) (m:=60) [] (af ..) [.eb 15 (ay e),.dY b,.code (bT.uG [(2,3)] (by decide) (n g [])),.eq 55 (bQ j)] (by decide)
  |cons y c=>
   have lq:=lt y g c;exact iC.ae a (ro:=[]) (m:=60) [] (af ..) [.eb 15 (ay e),.dY b,.er 42 (.row 1 true (iV g)),.prop (mu (gs:=y::c) (g:=g) o rfl),.code lq,.eq 55 (bQ j)] (by decide)
 |none=>
  rw[q]at h b;cases p:F9 G l m with
  |some x=>
   rw[p]at h f;cases h;cases gs with
   |nil=>exact iC.ae a (ro:=[]) (m:=60) [] (af ..) [.eb 15 (ay e),.dY b,.dY f,.code (bT.uG [(2,3)] (by decide) (n g [])),.eq 55 (bQ j)] (by decide)
   |cons y c=>
    have lq:=lt y g c;exact iC.ae a (ro:=[]) (m:=60) [] (af ..) [.eb 15 (ay e),.dY b,.dY f,.er 42 (.row 1 true (iV g)),.prop (mu (gs:=y::c) (g:=g) o rfl),.code lq,.eq 55 (bQ j)] (by decide)
  |none=>
   rw[p]at h f;have h:singleR l m=some g:=h;rw[h]at cs;cases gs with
   |nil=>exact iC.ae a (ro:=[]) (m:=60) [] (af ..) [.eb 15 (ay e),.dY b,.dY f,.dY cs,.code (bT.uG [(2,3)] (by decide) (n g [])),.eq 55 (bQ j)] (by decide)
   |cons y c=>
    have lq:=lt y g c;exact iC.ae a (ro:=[]) (m:=60) [] (af ..) [.eb 15 (ay e),.dY b,.dY f,.dY cs,.er 42 (.row 1 true (iV g)),.prop (mu (gs:=y::c) (g:=g) o rfl),.code lq,.eq 55 (bQ j)] (by decide)
noncomputable def FT(G:World→Prop)(l:Lk):Nat→List Bool→List Gp→List Gp
 |0,_,gs=>gs
 |n+1,m,gs=>match Bv G l m with
  |none=>gs
  |some g=>FT G l n (ei m g.bs) (gs++[g])
theorem SM(c:aa G){l:Lk}(b:gO l):∀(n:Nat)(m:List Bool)(gs:List Gp),m.length=l.bs.length→(∀g∈gs,HF l g)→(∀g∈FT G l n m gs,HF l g)∧(FT G l n m gs).length≤gs.length+n
 |0,m,gs,_,h=>⟨h,alE _⟩
 |n+1,m,gs,hm,h=>by
  unfold FT;cases a:Bv G l m with
  |none=>exact⟨h,by simp only;omega⟩
  |some g=>
   have d:=Gh c b hm a;obtain⟨f,e⟩:=SM c b n (ei m g.bs) (gs++[g]) (by rw[mq];exact hm) fun x a=>by
    rcases amy.1 a with a|a
    ·exact h x a
    ·rw[alI]at a;rw[a];exact d
   refine⟨f,?_⟩;simp only[List.length_append,List.length_cons,List.length_nil]at e;simp only;omega
theorem ac8(f:aa G){l:Lk}(e:gO l){m:List Bool}(k:m.length=l.bs.length):bT zZq G 57 0 (.loop (ah f79 0)) (rfS l m [] 0) (.exit 0) (rfE (FT G l l.bs.length m [])):=by
 have t:=e.nb;generalize n:FT G l l.bs.length m []=R;refine bT.Km (ι:=List Bool×List Gp×Nat) (fun x=>x.1.length=l.bs.length∧x.2.2≤l.bs.length∧x.2.1.length≤x.2.2∧FT G l (l.bs.length-x.2.2) x.1 x.2.1=R) (fun x=>rfS l x.1 x.2.1 x.2.2) (fun x=>l.bs.length-x.2.2) (fun s=>af ..) (by intro h;cases h) (fun x h=>?_) (m,[],0) ⟨k,amd _,alE _,n⟩
 obtain⟨j,gs,i⟩:=x;obtain⟨d,p,o,a⟩:=h;simp only at d p o a⊢;rcases alU i l.bs.length with c|c
 ·have q:l.bs.length-i=(l.bs.length-(i+1))+1:=by omega
  rw[q]at a;unfold FT at a;cases b:Bv G l j with
  |none=>
   rw[b]at a;rw[←a];exact .inr (af' f e d c b gs)
  |some g=>
   rw[b]at a;exact .inl ⟨(ei j g.bs,gs++[g],i+1),⟨by rw[mq];exact d,c,by simp only[List.length_append,List.length_cons,List.length_nil];omega,a⟩,by simp only;omega,aiG f e d c b gs (by omega)⟩
 ·have r:l.bs.length-i=0:=by omega
  obtain rfl:i=l.bs.length:=by omega
  rw[r]at a;unfold FT at a;rw[←a];refine .inr ?_;cases gs<;>exact iC.ae f (ro:=[]) (m:=60) [] (af ..) [.eb 15 (aH (alE l.bs.length))] (by decide)
theorem SL(c:aa G){l:Lk}(a:gO l):∃gs:List Gp,Spec zZq G 79 [g7 l] (aU iV gs)∧(∀g∈gs,HF l g)∧gs.length≤l.bs.length:=by
 have o:=a.nb;have p:=a.b0;have hm:(k_ l.bs.length 0).length=l.bs.length:=by unfold k_;rw[amf,amz]
 obtain⟨k1,k2⟩:=SM (G:=G) c a l.bs.length (k_ l.bs.length 0) [] hm (fun g j=>by cases j)
 have b:=ac8 (G:=G) c a hm;have i:=pK (n:=l.bs.length) (by omega)
 have h:=Pv a.b0;have f:=Mp (d:=bool false) a.b0;refine⟨FT G l l.bs.length (k_ l.bs.length 0) [],?_,k1,by simpa using k2⟩
 generalize FT G l l.bs.length (k_ l.bs.length 0) []=gs at b;have m:(k_ l.bs.length 0).map bool=NC l.bs.length:=(EZ a.b0).symm;have k:rfS l (k_ l.bs.length 0) [] 0=lay 57 [(1,.aV (EB l)),(3,.bz 1 0 l.bs.length l.bs.length),(4,.row 0 true []),(13,nat l.bs.length),(14,nat 0)] [(1,NC l.bs.length)] []:=by
  rw[←m];rfl
 rw[k]at b;cases gs with
 |nil=>exact Spec.r c func79 [1] [.inl [2] func142,.er 8 (nat l.bs.length),.prop i,.er 11 (nat 0),.prop h,.prop f,.code (bT.uG [(1,0)] (by decide) b)]
 |cons y e=>
  have key:Spec zZq G 79 [g7 l] (.row (y::e).length false (((y::e).flatMap iV).take ((y::e).length*4))):=Spec.r c func79 [1] [.inl [2] func142,.er 8 (nat l.bs.length),.prop i,.er 11 (nat 0),.prop h,.prop f,.code (bT.uG [(1,0)] (by decide) b)]
  rw[al4 (by rw[Oy];exact alE _)]at key
  exact key
end Tw
end Lw
