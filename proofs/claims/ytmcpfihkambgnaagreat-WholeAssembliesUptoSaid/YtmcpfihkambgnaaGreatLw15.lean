/- Part 15. -/
import Derived.Test.YtmcpfihkambgnaaGreatLw14
open Go.Proofs.Tryz renaming prog→zZq
open Go.Proofs.Tryz
open Int renaming ofNat→zNq
namespace Lw
open Go Go.RowKit Go.Proofs
namespace Fb
open Gr Tw
variable {G:World→Prop}
def U7:D:=str [102,111,117,114,98,97,114]
def U8:List D:=[str [102,114,97,109,101],.row 2 false [str [79],bool false,.row 0 false [],.row 0 false [],bool false,.row 0 false [],.row 0 false [],str [81],bool false,.row 1 false [u32 4],.row 1 false [u32 1],bool false,.row 0 false [],.row 0 false []],str [99,114,97,110,107],.row 2 false [str [79],bool false,.row 0 false [],.row 0 false [],bool false,.row 0 false [],.row 0 false [],str [65],bool false,.row 1 false [u32 1],.row 1 false [u32 1],bool false,.row 0 false [],.row 0 false []],str [99,111,117,112,108,101,114],.row 3 false [str [65],bool false,.row 0 false [],.row 0 false [],bool false,.row 0 false [],.row 0 false [],str [66],bool false,.row 1 false [u32 3],.row 1 false [u32 1],bool false,.row 0 false [],.row 0 false [],str [80],bool false,.row 0 false [],.row 0 false [],bool false,.row 0 false [],.row 0 false []],str [114,111,99,107,101,114],.row 2 false [str [81],bool false,.row 0 false [],.row 0 false [],bool false,.row 0 false [],.row 0 false [],str [66],bool false,.row 1 false [u32 3],.row 1 false [u32 1],bool false,.row 0 false [],.row 0 false []]]
def agZ:List D:=[str [111],nat 0,nat 1,nat 0,nat 0,nat 0,nat 0,str [97],nat 0,nat 2,nat 0,nat 1,nat 1,nat 0,str [98],nat 0,nat 3,nat 1,nat 2,nat 1,nat 0,str [113],nat 0,nat 3,nat 0,nat 0,nat 1,nat 0]
def ag0:List D:=[str [100],nat 1]
def lk:D:=.agg [U7,.row 4 false U8,.row 4 false agZ,.row 1 false ag0]
theorem U5(c:aa G)(s:ByteArray)(a b:Bool)(m n p q:List Nat):Spec zZq G 73 [.lit (.string s),qd a m n,qd b p q] (.agg [.lit (.string s),bool a,az m,az n,bool b,az p,az q]):=
 Spec.r c func73 [] []
def Gn(a:aa G)(s:List Nat)(n m:List Nat):Ent zZq G:=⟨73,[str s,qd false n m,qd false [] []],_,U5 a ⟨(s.map UInt8.ofNat).toArray⟩ false false n m [] []⟩
def q0:List D:=[bool false,az [],az []]
def qn(n:Nat):List D:=[bool false,az [n],az [1]]
theorem U_(a:aa G):Spec zZq G 29 [.agg (qn 4++qn 1++qn 3++qn 3++q0++q0)] lk:=
 Spec.jN a (nY a [Gn a [79] [] [],Gn a [81] [4] [1],Gn a [65] [1] [1],Gn a [65] [] [],Gn a [66] [3] [1],Gn a [80] [] [],Gn a [81] [] []]) func29 (ro:=[]) (m:=60) []
theorem aji(a:aa G):Spec zZq G 156 [nat 0,nat 2] (bool true):=Spec.r a func156 [] []
theorem ajg(a:aa G):Spec zZq G 156 [nat 1,nat 2] (bool true):=Spec.r a func156 [] []
theorem ajh(a:aa G):Spec zZq G 156 [nat 0,nat 3] (bool true):=Spec.r a func156 [] []
theorem ajf(a:aa G):Spec zZq G 156 [nat 1,nat 3] (bool true):=Spec.r a func156 [] []
theorem On(a:aa G):Spec zZq G 37 [lk] (.lit .nilIface):=
 Spec.jN a (nY a [⟨_,_,_,aji a⟩,⟨_,_,_,ajg a⟩,⟨_,_,_,ajh a⟩,⟨_,_,_,ajf a⟩]) func37 (ro:=[]) (m:=60) []
def T:D:=bool true
def Fa:D:=bool false
def afm(known b used:List D)(c:Nat)(a:List D):List D:=[.row 4 false agZ,.row 1 false ag0,.row 4 false known,.row 4 false b,.row 4 false used,.row c false a]
def g0c:List D:=[nat 0,.row 1 false [nat 1],.row 1 false [nat 0],nat 0]
def g1c:List D:=[nat 1,.row 2 false [nat 2,nat 3],.row 3 false [nat 1,nat 3,nat 2],nat 0]
def aiH:List D:=[.row 4 false agZ,.row 1 false ag0,.row 4 false [T,Fa,Fa,Fa],.row 4 false [Fa,T,Fa,Fa],.row 4 false [Fa,Fa,Fa,Fa],.row 0 true []]
def ae5:List D:=afm [T,T,Fa,Fa] [Fa,T,Fa,Fa] [T,Fa,Fa,Fa] 1 g0c
def ae4:List D:=afm [T,T,T,T] [Fa,T,Fa,Fa] [T,T,T,T] 2 (g0c++g1c)
def ak9:D:=jv U7 4 U8 aiH
def aaV:D:=jv U7 4 U8 ae5
def ajN:D:=jv U7 4 U8 ae4
def roJ:FuncId→List Nat:=fun f=>if f=295 then [5,6,7]else if f=113 then [32]else []
theorem an1(a:aa G):Spec zZq G 293 [ak9,nat 0,nat 1] (int 0):=Spec.jN a (nY a [] [] roJ) func293 (ro:=[]) (m:=60) []
theorem an2(a:aa G):Spec zZq G 293 [aaV,nat 0,nat 2] (int 1):=Spec.jN a (nY a [] [] roJ) func293 (ro:=[]) (m:=60) []
theorem an3(a:aa G):Spec zZq G 293 [aaV,nat 0,nat 3] (int 3):=Spec.jN a (nY a [] [] roJ) func293 (ro:=[]) (m:=60) []
theorem jn2(a:aa G):Spec zZq G 295 [aaV,nat 0,nat 2,.fn 296 [] [.aV [nat 3]]] (int 2):=Spec.jN a (nY a [] [] roJ) func295 (ro:=[5,6,7]) (m:=60) []
def N4(i:Nat):Bool:=decide (2≤i)
theorem fr2(a:aa G)(i:Nat)(b:i<4):Spec zZq G 297 [aaV,nat i] (bool (N4 i)):=by
 have:i=0∨i=1∨i=2∨i=3:=by omega
 rcases this with rfl|rfl|rfl|rfl
 ·exact Spec.r a func297 [] []
 ·exact Spec.r a func297 [] []
 ·exact Spec.r a func297 [] []
 ·exact Spec.r a func297 [] []
theorem fr3(a:aa G)(i:Nat)(b:i<4):Spec zZq G 297 [ajN,nat i] (bool false):=by
 have:i=0∨i=1∨i=2∨i=3:=by omega
 rcases this with rfl|rfl|rfl|rfl
 ·exact Spec.r a func297 [] []
 ·exact Spec.r a func297 [] []
 ·exact Spec.r a func297 [] []
 ·exact Spec.r a func297 [] []
def an(i:Nat):Int:=if i=2 then 1 else 3
theorem pa2(b:aa G):iz zZq G 239 [aaV] (.aY [.agg g1c,bool true]):=by
 refine Ai (nm:=U7) (bs:=U8) (rest:=ae5) (an:=an) (jn:=fun _ _=>2) (free:=N4) b (by omega) (fr2 b) (fun i c a=>?_) (fun i j d e c a=>?_) (fun h=>?_) fun i j d e c a g f=>?_
 ·have:i=2∨i=3:=by simp only[N4,decide_eq_true_eq]at a;omega
  rcases this with rfl|rfl
  ·exact an2 b
  ·exact an3 b
 ·obtain⟨rfl,rfl⟩:i=2∧j=3:=by simp only[N4,decide_eq_true_eq]at a c;omega
  exact jn2 b
 ·exact apC (h (2,3) (by decide)) (by decide)
 ·obtain⟨rfl,rfl⟩:i=2∧j=3:=by simp only[N4,decide_eq_true_eq]at a c;omega
  rfl
theorem pa3(c:aa G):iz zZq G 239 [ajN] afl:=by
 refine Ai (nm:=U7) (bs:=U8) (rest:=ae4) (an:=an) (jn:=fun _ _=>2) (free:=fun _=>false) c (by omega) (fr3 c) (fun i b a=>by cases a) (fun i j d e b a=>by cases a) (fun h=>rfl) fun i j d e b a g f=>by cases a
def gs:D:=.row 2 false (g0c++g1c)
theorem XV(a:aa G):Spec zZq G 47 [lk] (.aY [gs,.lit .nilIface]):=
 Spec.jN a (nY a [⟨_,_,_,On a⟩,⟨_,_,_,an1 a⟩] [⟨_,_,_,pa2 a⟩,⟨_,_,_,pa3 a⟩] roJ) func47 (ro:=[]) (m:=60) []
end Fb
end Lw
namespace Lw
open Go Go.RowKit
variable {P:Program} {Good:World→Prop}
def X9(P:Program){Good:World→Prop}(ro:List Nat)(m:Nat)(fn:Func)(args:List D)(b:List (Item P Good)):Option (D×List (Item P Good)×List (de×de)):=
 match fn.body with
 |some k=>if Nat.ble args.length fn.ntmps then
   match oA P m ro 0 k (fN fn.ntmps args []) b with
   |some (.normal,s,tr',eqs)|some (.ret,s,tr',eqs)=>match gY P s fn.results.toList with
    |some a=>if a.all (fun d=>d.refs.isEmpty)then some (re a,tr',eqs)else none
    |none=>none
   |_=>none
  else none
 |none=>none
theorem Spec.M7(T:aa Good){f:FuncId}{fn:Func}(Y:P.funcs[f]? =some fn){ro:List Nat}{m:Nat}{args:List D}{r:D}(I K:List (Item P Good)){eqs:List (de×de)}(Ju:jI eqs)
  (h:X9 P ro m fn args I=some (r,K,eqs)):Spec P Good f args r:=by
 intro w F y S A E;unfold X9 at h;split at h
 ·rename_i k M
  split at h
  ·rename_i hle
   rw[anb]at hle;have key:∀e s,oA P m ro 0 k (fN fn.ntmps args []) I=some (e,s,K,eqs)→(e=.normal∨e=.ret)→(∃g,gY P s fn.results.toList=some g∧g.all (fun d=>d.refs.isEmpty)=true∧re g=r)→
     Calls P f y.toArray w fun e q=>∃v,e=.returned v∧cU q F v r∧Below w.heap.size w q∧Good q:=by
    intro e s x Z K1;obtain⟨g,B,j,rfl⟩:=K1;have W:=iO T m ro 0 k _ I e s K _ x Ju;have hlen:=pD (blks:=[]) (ns:=[]) hle;refine(callsIn_wide (n:=0)).1 (callsIn_of_wp Y M trivial ?_);show Code.wpIn (Fw none) 0 _ _ _ _ _
    let c:Ctx:=⟨P,Good,F,w,[],0,none,[],fun _=>none,0,fun _=>none,fun _=>False⟩
    have J:∀b,(fN fn.ntmps args []).fs.blk b=none:=fun b=>by simp[fN,St.fs]
    refine W.2 c _ _ w rfl rfl S (alE _) ⟨fun _=>0,F,rfl,?_,fun t=>?_,?_,fun b cs l=>?_,fun b cs l=>?_,fun b b' l=>?_,fun _ h=>h,E,E,⟨Below.refl _ _,fun k o M=>(by cases M),amd _⟩,fun p L=>?_,fun p L=>?_,n9.none rfl rfl⟩ fun U q aW=>?_
    ·rw[hlen];have:=A.1;simp;omega
    ·exact rR (Q':=fun v d=>cW (fun _=>0) w F v d) A.1 hle (fun i O N=>.c (.p (A.2 i O N))) (.c (.p (.lit _))) (.c (.p (.any _))) t
    ·refine rS fun d hd b l=>?_
     obtain⟨i,C,rfl⟩:=alZ.1 hd;rw[ff (A.2 i (by rw[A.1];exact C) C)]at l;cases l
    ·rw[J]at l;cases l
    ·rw[J]at l;cases l
    ·rw[J]at l;cases l
    ·cases L
    ·cases L
    ·obtain⟨β,X,z⟩:=aW
     obtain⟨H,O,N,h3,h4⟩:=lY (c:=c) z B;have fu:a9 q F H g:=by
      refine⟨N,fun i C R=>?_⟩
      have x:g[i].refs=[]:=by
       have:=al9.1 j g[i] (al2 R);simpa using this
      exact((h3 i C R).pure x).mono fun a u hu V=>⟨hu,fun E=>V (z.F _ E)⟩
     have BO:U.defers=[]∧∃v,(results fn U.tmps).run P q=.ok v q∧(∃Q,Ending.returned v=.returned Q∧cU q F Q (re g)∧Below w.heap.size w q∧Good q):=
      ⟨z.defers,tQ H,O,tQ H,rfl,yF fu,z.below.uJ,z.l7 T S⟩
     rcases Z with rfl|rfl<;>exact BO
   split at h
   ·rename_i s tr' eqs x
    split at h
    ·rename_i g B
     split at h
     ·rename_i j
      simp only[Option.some.injEq,Prod.mk.injEq]at h;obtain⟨rfl,rfl,rfl⟩:=h;exact key _ _ x (.inl rfl) ⟨g,B,j,rfl⟩
     ·cases h
    ·cases h
   ·rename_i s tr' eqs x
    split at h
    ·rename_i g B
     split at h
     ·rename_i j
      simp only[Option.some.injEq,Prod.mk.injEq]at h;obtain⟨rfl,rfl,rfl⟩:=h;exact key _ _ x (.inr rfl) ⟨g,B,j,rfl⟩
     ·cases h
    ·cases h
   ·cases h
  ·cases h
 ·cases h
end Lw
namespace Lw
open Go Go.RowKit Go.Proofs
namespace Fb
open Gr Tw
variable {G:World→Prop}
theorem ahG(c:aa G)(a:Nat):Spec zZq G 146 [.lit (.slice none 0 a)] (.row 0 true []):=Spec.M7 (eqs:=[]) c func146 (ro:=[]) (m:=60) [] [] (fun e b=>by cases b) (by kernel_rfl)
theorem aeg(d:aa G)(a:Addr)(b:Nat):Spec zZq G 146 [.lit (.slice (some a) 0 b)] (.row 0 true []):=Spec.M7 (eqs:=[]) d func146 (ro:=[]) (m:=60) [] [] (fun e c=>by cases c) (by kernel_rfl)
theorem kK(f:aa G):Spec zZq G 146 [.row 0 false []] (.row 0 true []):=by
 intro w F c e b g
 match c,b with
 |[v],b=>
  obtain⟨i,d,j,h,o,n,m,l,k⟩:=oK b.head;subst h;cases i with
  |none=>exact ahG f d w F _ e (a9.cons (.lit _) a9.nil) g
  |some a=>exact aeg f a d w F _ e (a9.cons (.lit _) a9.nil) g
 |[],b=>have:=b.1;simp at this
 |_::_::_,b=>have:=b.1;simp at this
end Fb
end Lw
namespace Lw
open Go Go.RowKit
variable {P:Program} {Good:World→Prop}
def uw(lD:List Nat)(mx:Nat):Nat→List (Option (List D))→List (Option (List D))
 |_,[]=>[]
 |i,o::l=>(match Nat.blt i mx||lD.contains i with|true=>o|false=>none)::uw lD mx (i+1) l
theorem xS(lD:List Nat)(mx:Nat):∀(i:Nat)(l:List (Option (List D)))(b:Nat),(uw lD mx i l).getD b none=if Nat.blt (i+b) mx||lD.contains (i+b)then l.getD b none else none
 |i,[],b=>by simp[uw]
 |i,o::l,0=>by
  simp only[uw,List.getD_cons_zero,Nat.add_zero];split<;>rename_i h<;>rw[h]<;>rfl
 |i,o::l,b+1=>by
  simp only[uw,List.getD_cons_succ];rw[xS lD mx (i+1) l b,show i+1+b=i+(b+1) by omega]
theorem iD.lD{fn:Func}{mx:Nat}{args:List D}{blks blks':List (Option (List D))}{d:D}(h:iD P Good fn mx args blks [] d blks' []):iD P Good fn mx args blks [] d (uw d.refs mx 0 blks') []:=by
 intro f s c w β X vals H G F E C B A z y l;refine(h f s c w β X vals H G F E C B A z y l).mono fun e N I=>?_
 obtain⟨v,n,M,rfl,g,q,u⟩:=I;have kept:∀b,b<c.gb∨b∈d.refs→(uw d.refs mx 0 blks').getD b none=blks'.getD b none:=fun b a=>by
  rw[xS,amv,apB];rw[amo];rcases a with a|a
  ·left;rw[al6];omega
  ·right;exact an'.2 a
 have back:∀b cs,(uw d.refs mx 0 blks').getD b none=some cs→blks'.getD b none=some cs:=fun b cs a=>by
  rw[xS]at a;split at a
  ·exact a
  ·cases a
 refine⟨v,n,M,rfl,⟨g.defers,g.size,g.tmp,fun t b a=>by simp[D.refs]at a,fun b cs a=>g.blk b cs (back b cs a),fun b cs a x o j e=>?_,fun b j K J=>?_,g.F,g.vt,g.oE,g.below,g.gh,fun p r b a=>?_,g.kp.sub fun b a=>?_⟩,q,fun b a=>?_⟩
 ·have:=(g.tB b cs (back b cs a) x o j e).1
  simp at this
 ·obtain⟨m,i⟩:=alL.1 K
  obtain⟨L,k⟩:=alL.1 J;exact g.inj b j (by show(blks'.getD b none).isSome=true;rw[back b m i];rfl) (by show(blks'.getD j none).isSome=true;rw[back j L k];rfl)
 ·obtain⟨i,k⟩:=g.iY p r b a
  refine⟨i,?_⟩;show((uw d.refs mx 0 blks').getD b none).isSome=true;rw[kept b (.inl i)];exact k
 ·obtain⟨m,i⟩:=alL.1 a
  show(blks'.getD b none).isSome=true;rw[back b m i];rfl
 ·rw[kept b (.inr a)];exact u b a
def X8(P:Program){Good:World→Prop}(ro:List Nat)(m mx:Nat)(fn:Func)(args:List D)(blks:List (Option (List D)))(a:List (Item P Good)):Option (D×List (Option (List D))×List Nat×List (de×de)):=
 match runIn P ro m mx fn args blks a with
 |some (d,blks',ns',eqs)=>some (d,uw d.refs mx 0 blks',ns',eqs)
 |none=>none
theorem iD.Zk(a:aa Good)(A:rM P Good){fn:Func}(ro:List Nat)(m:Nat){mx:Nat}{args:List D}{blks blks':List (Option (List D))}{d:D}
  (h:X8 P ro m mx fn args blks [Item.auto A]=some (d,blks',[],[])):iD P Good fn mx args blks [] d blks' []:=by
 unfold X8 at h;split at h
 ·rename_i d1 f c e b
  simp only[Option.some.injEq,Prod.mk.injEq]at h;obtain⟨rfl,rfl,rfl,rfl⟩:=h;exact(iD.jN a A b).lD
 ·cases h
def W9.of{f:FuncId}{fn:Func}(b:P.funcs[f]? =some fn){mx:Nat}{args:List D}{blks blks':List (Option (List D))}{d:D}(h:iD P Good fn mx args blks [] d blks' []):W9 P Good:=
 ⟨f,mx,args,blks,d,blks',fun c a=>by rw[b]at a;exact(amq a)▸h⟩
end Lw
namespace Lw
open Go Go.RowKit Go.Proofs
variable {P:Program} {Good:World→Prop}
namespace Tw
open fL
variable {G:World→Prop}
def ixB(m:List Bool)(i:Nat):St:=lay 19 [(0,gC m),(1,bool false),(7,nat m.length),(8,nat i)] []
theorem Rb(a:aa G)(m:List Bool)(k:m.length≤1000000):Spec zZq G 173 [gC m,bool false] (int (C2 (fun z=>!z) m)):=by
 have rd:∀i,i<m.findIdx (fun z=>!z)→ak zZq G 0 (ah f173 0) (ixB m i) .normal (ixB m (i+1)):=fun i j=>by
  obtain⟨b,f⟩:=pL false j;have e:=iK b;have d:m.getD i false=true:=by simpa using f
  rw[d]at e;exact ak.r a [.eb 9 (ay b),.prop (gp b),.prop (gw b),.eq 15 e,.eq 18 (bQ (aI b (by omega)))]
 unfold C2;split
 ·rename_i h
  have f:=kJ (p:=fun z=>!z) false h
  have e:=iK h;have d:m.getD (m.findIdx fun z=>!z) false=false:=by simpa using f
  rw[d]at e;have c:=bT.z zZq G (ah f173 0) .ret (lay 19 [(4,nat (m.findIdx fun z=>!z))] []) (fun i=>ixB m i) _ rd
   (ak.r a [.eb 9 (ay h),.prop (gp h),.prop (gw h),.eq 15 e])
  exact Spec.r a func173 [] [.code c]
 ·rename_i h
  have g:m.findIdx (fun z=>!z)=m.length:=anS amV (by omega)
  rw[g]at rd;have c:=bT.z zZq G (ah f173 0) (.exit 0) (lay 19 [] []) (fun i=>ixB m i) _ rd
   (ak.r a [.eb 9 (aH (alE m.length))])
  exact Spec.r a func173 [] [.code c]
theorem zR(a:aa G)(m:List Bool)(b:m.length≤1000000):Spec zZq G 114 [gC m,bool false] (bool (m.contains false)):=by
 have c:=Rb a m b;have key:m.contains false=decide (m.findIdx (fun z=>!z)<m.length):=by
  rw[am3,decide_eq_true_eq,List.findIdx_lt_length];simp
 unfold C2 at c;rw[key];by_cases h:m.findIdx (fun z=>!z)<m.length
 ·rw[apB h]at c
  rw[apD h];exact Spec.y a (ax [173]) func114 [] [.call c,.eb 8 (l8 (m.findIdx fun z=>!z))]
 ·rw[apA h]at c
  rw[apE h];exact Spec.y a (ax [173]) func114 [] [.call c]
def acI(t:Fn):Option (List Gp):=if t.known.contains false=true∨t.used.contains false=true then none else some t.gs
def aim:Option (List Gp)→D
 |none=>.aY [.row 0 false [],e_ 7]
 |some gs=>.aY [aU iV gs,.lit .nilIface]
theorem acH(a:aa G){l:Lk}(f:gO l)(ck:Spec zZq G 37 [g7 l] (.lit .nilIface)){t:Fn}(i:yp l (wV l) t)(d:pT l t):Spec zZq G 47 [g7 l] (aim (acI t)):=by
 have c:=ahw a f ck i d;have m:=f.nb;have k:=f.nj;have b:=zR (G:=G) a t.known (by rw[d.k];omega)
 have e:=zR (G:=G) a t.used (by rw[d.u];omega)
 unfold acI;cases h:t.known.contains false with
 |true=>
  rw[h]at b;rw[apB (.inl rfl)];exact Spec.y a (ax [113,114]) func47 [] [.call c,.call b]
 |false=>
  rw[h]at b;cases g:t.used.contains false with
  |true=>
   rw[g]at e;rw[apB (.inr rfl)];exact Spec.y a (ax [113,114]) func47 [] [.call c,.call b,.call e]
  |false=>
   rw[g]at e;rw[apA (by simp)]
   clear h g i d;obtain⟨n,o,j,gs⟩:=t;cases gs<;>exact Spec.y a (ax [113,114]) func47 [] [.call c,.call b,.call e]
end Tw
end Lw
namespace Lw
open Go Go.RowKit Go.Proofs
namespace Tw
open fL
variable {G:World→Prop}
theorem fh(a:aa G){x i:Nat}(h:x=i):Spec zZq G 246 [mP [i],nat x] (bool true):=
 Spec.y a (ax []) func246 [] [.eb 16 (gd h)]
theorem gN(a:aa G){x i:Nat}(h:x≠i):Spec zZq G 246 [mP [i],nat x] (bool false):=
 Spec.y a (ax []) func246 [] [.eb 16 (eJ h)]
theorem gr(a:aa G){x i k:Nat}(h:x=i):Spec zZq G 246 [mP [i,k],nat x] (bool true):=
 Spec.y a (ax []) func246 [] [.eb 16 (gd h)]
theorem gm(a:aa G){x i k:Nat}(h:x≠i)(b:x=k):Spec zZq G 246 [mP [i,k],nat x] (bool true):=
 Spec.y a (ax []) func246 [] [.eb 16 (eJ h),.eb 16 (gd b)]
theorem iy(a:aa G){x i k:Nat}(h:x≠i)(b:x≠k):Spec zZq G 246 [mP [i,k],nat x] (bool false):=
 Spec.y a (ax []) func246 [] [.eb 16 (eJ h),.eb 16 (eJ b)]
theorem aeU(a:aa G)(x:Nat):fF zZq G f191 [.cR 0 1 1] [nat x] (.aY []) [nat x]:=
 fF.aq a (ax []) _ (ro:=[998]) (m:=60) []
theorem ae9(a:aa G)(z:Int):Spec zZq G 333 [int z] (bool false):=
 Spec.y a (ax []) func333 [] [.eb 5 (show(z !=z)=false by simp)]
theorem CY(a:aa G){x y:Int}(h:x<y):Spec zZq G 307 [int x,int y] (bool true):=
 Spec.y a (ax [333]) func307 [] [.call (ae9 a x),.eb 15 (apD h)]
theorem ZS(a:aa G){x y:Int}(h:¬x<y):Spec zZq G 307 [int x,int y] (bool false):=
 Spec.y a (ax [333]) func307 [] [.call (ae9 a x),.eb 15 (apE h)]
def roS:FuncId→List Nat:=fun f=>if f=301 then [996]else if f=247 then [996]else []
theorem DN(a:aa G)(x y:Nat):∃p q:Nat,(p=x∨p=y)∧(q=x∨q=y)∧fF zZq G f191 [.cR 0 2 1] [nat x,nat y] (.aY []) [nat p,nat q]:=by
 by_cases h:zNq y<zNq x
 ·exact⟨y,x,.inr rfl,.inl rfl,fF.aq a (ax [307] roS) _ (ro:=[998]) (m:=60) [.call (CY a h)]⟩
 ·exact⟨x,y,.inl rfl,.inr rfl,fF.aq a (ax [307] roS) _ (ro:=[998]) (m:=60) [.call (ZS a h)]⟩
theorem KR(x:Nat):(-1:Int)<zNq x:=by simp;omega
theorem DM(a:aa G)(x y:Nat):∃p q:Nat,(p=x∨p=y)∧(q=x∨q=y)∧fF zZq G f191 [.cR 0 3 1] [nat x,nat y,int (-1)] (.aY []) [int (-1),nat p,nat q]:=by
 by_cases h:zNq y<zNq x
 ·exact⟨y,x,.inr rfl,.inl rfl,fF.aq a (ax [307] roS) _ (ro:=[998]) (m:=60) [.call (CY a h),.call (CY a (KR x)),.call (CY a (KR y))]⟩
 ·exact⟨x,y,.inl rfl,.inr rfl,fF.aq a (ax [307] roS) _ (ro:=[998]) (m:=60) [.call (ZS a h),.call (CY a (KR y)),.call (CY a (KR x))]⟩
theorem gT(g:Gp):(iV g).length=4:=rfl
instance:Inhabited Gp:=⟨⟨0,[],[],0⟩⟩
theorem aR{i n:Nat}(h:i<n):decide (zNq i≥zNq n)=false:=by simp;omega
theorem fO{m n:Nat}(h:m=n):(zNq m !=zNq n)=false:=by rw[h];simp
theorem DY:decide ((-1:Int)<0)=true:=by decide
def w8:List FuncId:=[47,50,37,246,191,51,149,150,151,152]
def LX:FuncId→List Nat:=fun f=>if f=148 then [997]else if f=190 then [997]else if f=191 then [996]else []
def HV:Option (List wK)→D
 |none=>.aY [.row 0 false [],e_ 15]
 |some l=>.aY [.row l.length false (l.flatMap abw),.lit .nilIface]
structure Dz(G:World→Prop)(l:Lk)(a:As)(gs:List Gp)(k:Nat)(g:Gp)(δ:Nat):Prop where
 zH:Spec zZq G 47 [g7 l] (.aY [aU iV gs,.lit .nilIface])
 ck:Spec zZq G 37 [g7 l] (.lit .nilIface)
 hk:k<gs.length
 hg:gs.getD k default=g
 hT:b7 δ a.t
 lb:a.bs.length=l.bs.length
 pl:∀i,aeG a.t (dC a i)
theorem apS{l:Lk}{j u v:Nat}(h:j<l.js.length)(e:(l.js.getD j default).a=u∧(l.js.getD j default).b=v):D.agg (((l.js.flatMap Ox).drop ((zNq j).toNat*7)).take 7)=.agg [.lit (.string (l.js.getD j default).nm),nat (l.js.getD j default).kind,nat u,nat (l.js.getD j default).p,nat v,nat (l.js.getD j default).on,nat (l.js.getD j default).to]:=by
 rw[←e.1,←e.2];exact cg br h default
def apP(l:Lk)(j b o:Nat):Prop:=((l.js.getD j default).a=b∧(l.js.getD j default).b=o)∨((l.js.getD j default).a=o∧(l.js.getD j default).b=b)
def apV(G:World→Prop)(bs:List Nat)(x:Nat)(z:Bool):Prop:=Spec zZq G 246 [mP bs,nat x] (bool z)
theorem apR{l:Lk}{j b o:Nat}{bs:List Nat}{z:Bool}(h:apP l j b o)(c:apV G bs b true)(d:apV G bs o z):∃u v:Nat,∃y w:Bool,((l.js.getD j default).a=u∧(l.js.getD j default).b=v)∧apV G bs u y∧apV G bs v w∧((b=u∧o=v∧true=y∧z=w)∨(o=u∧b=v∧z=y∧true=w)):=by
 rcases h with h|h
 ·exact⟨_,_,_,_,h,c,d,.inl ⟨rfl,rfl,rfl,rfl⟩⟩
 ·exact⟨_,_,_,_,h,d,c,.inr ⟨rfl,rfl,rfl,rfl⟩⟩
theorem Um(c:aa G)(l:Lk)(a:As){gs:List Gp}{k b j d δ:Nat}(w:Dz G l a gs k ⟨0,[b],[j],d⟩ δ){o:Nat}(e:j<l.js.length)(i:o<a.bs.length)(q:o≠b)(p:apP l j b o){x:Tn}{r:Option (List wK)}
  (run:fF zZq G f149 [.ptr 0 0,EF x] (iH l ⟨0,[b],[j],d⟩ a) (Mq r) (iH l ⟨0,[b],[j],d⟩ a)):Spec zZq G 83 [g7 l,nat k,EF x,b8 a] (HV r):=by
 have n:=cg gT w.hk default;rw[w.hg]at n;obtain⟨u,v0,t,s,f,h,g,q0⟩:=apR p (fh c rfl) (gN c q);rcases q0 with⟨rfl,rfl,rfl,rfl⟩|⟨rfl,rfl,rfl,rfl⟩<;>cases r<;>exact Spec.aq c (ax w8 LX) func83 (ro:=[]) (m:=150) [.call w.zH,.eb 30 (aB k),.eb 35 (aR w.hk),.eb 44 (fO w.lb),.call (gg c w.hT),.er 55 (nat k),.prop (aC gT (by omega) w.hk),.prop (av gT (by omega) w.hk),.eq 57 n,.call w.ck,.eb 26 (aB j),.eb 32 (aR e),.er 37 (nat j),.prop (aC br (by omega) e),.prop (av br (by omega) e),.eq 39 (apS e f),.call h,.call g,.aT func191 (aeU c o),.eb 81 (aB o),.er 84 (nat o),.prop (aC aG (by omega) i),.prop (av aG (by omega) i),.eq 86 (cg aG i ⟨[],[],[],[]⟩),.call (aM c w.hT (w.pl o).c),.call (aM c w.hT (w.pl o).s),.call (aM c w.hT (w.pl o).x),.call (aM c w.hT (w.pl o).y),.er 115 (nat k),.prop (aC gT (by omega) w.hk),.prop (av gT (by omega) w.hk),.eq 117 n,.aT func149 run]
theorem acK(c:aa G)(l:Lk)(a:As){gs:List Gp}{k b j m d δ:Nat}(w:Dz G l a gs k ⟨2,[b],[j,m],d⟩ δ){o p:Nat}(f:j<l.js.length)(e:m<l.js.length)(M:o<a.bs.length)(L:p<a.bs.length)(C:o≠b)(B:p≠b)(A:apP l j b o)(hw:apP l m b p){x:Tn}{r:Option (List wK)}
  (run:fF zZq G f151 [.ptr 0 0] (iH l ⟨2,[b],[j,m],d⟩ a) (Mq r) (iH l ⟨2,[b],[j,m],d⟩ a)):Spec zZq G 83 [g7 l,nat k,EF x,b8 a] (HV r):=by
 have t:=cg gT w.hk default;rw[w.hg]at t;obtain⟨J,v0,H,E,h,n,i,q0⟩:=apR A (fh c rfl) (gN c C);obtain⟨I,v1,F,D,g,k11,k12,z⟩:=apR hw (fh c rfl) (gN c B);obtain⟨u,v,hu,K,y⟩:=DN (G:=G) c o p;have s:u<a.bs.length:=by omega
 have q:v<a.bs.length:=by omega
 rcases q0 with⟨rfl,rfl,rfl,rfl⟩|⟨rfl,rfl,rfl,rfl⟩<;>rcases z with⟨rfl,rfl,rfl,rfl⟩|⟨rfl,rfl,rfl,rfl⟩<;>cases r<;>exact Spec.aq c (ax w8 LX) func83 (ro:=[]) (m:=150) [.call w.zH,.eb 30 (aB k),.eb 35 (aR w.hk),.eb 44 (fO w.lb),.call (gg c w.hT),.er 55 (nat k),.prop (aC gT (by omega) w.hk),.prop (av gT (by omega) w.hk),.eq 57 t,.call w.ck,.eb 26 (aB j),.eb 32 (aR f),.er 37 (nat j),.prop (aC br (by omega) f),.prop (av br (by omega) f),.eq 39 (apS f h),.call n,.call i,.eb 26 (aB m),.eb 32 (aR e),.er 37 (nat m),.prop (aC br (by omega) e),.prop (av br (by omega) e),.eq 39 (apS e g),.call k11,.call k12,.aT func191 y,.eb 81 (aB u),.er 84 (nat u),.prop (aC aG (by omega) s),.prop (av aG (by omega) s),.eq 86 (cg aG s ⟨[],[],[],[]⟩),.call (aM c w.hT (w.pl u).c),.call (aM c w.hT (w.pl u).s),.call (aM c w.hT (w.pl u).x),.call (aM c w.hT (w.pl u).y),.eb 81 (aB v),.er 84 (nat v),.prop (aC aG (by omega) q),.prop (av aG (by omega) q),.eq 86 (cg aG q ⟨[],[],[],[]⟩),.call (aM c w.hT (w.pl v).c),.call (aM c w.hT (w.pl v).s),.call (aM c w.hT (w.pl v).x),.call (aM c w.hT (w.pl v).y),.er 115 (nat k),.prop (aC gT (by omega) w.hk),.prop (av gT (by omega) w.hk),.eq 117 t,.aT func151 run]
theorem acJ(c:aa G)(l:Lk)(a:As){gs:List Gp}{k b j m d δ:Nat}(w:Dz G l a gs k ⟨3,[b],[j,m],d⟩ δ){o p:Nat}(f:j<l.js.length)(e:m<l.js.length)(M:o<a.bs.length)(L:p<a.bs.length)(C:o≠b)(B:p≠b)(A:apP l j b o)(hw:apP l m b p){x:Tn}{r:Option (List wK)}
  (run:fF zZq G f152 [.ptr 0 0] (iH l ⟨3,[b],[j,m],d⟩ a) (Mq r) (iH l ⟨3,[b],[j,m],d⟩ a)):Spec zZq G 83 [g7 l,nat k,EF x,b8 a] (HV r):=by
 have t:=cg gT w.hk default;rw[w.hg]at t;obtain⟨J,v0,H,E,h,n,i,q0⟩:=apR A (fh c rfl) (gN c C);obtain⟨I,v1,F,D,g,k11,k12,z⟩:=apR hw (fh c rfl) (gN c B);obtain⟨u,v,hu,K,y⟩:=DN (G:=G) c o p;have s:u<a.bs.length:=by omega
 have q:v<a.bs.length:=by omega
 rcases q0 with⟨rfl,rfl,rfl,rfl⟩|⟨rfl,rfl,rfl,rfl⟩<;>rcases z with⟨rfl,rfl,rfl,rfl⟩|⟨rfl,rfl,rfl,rfl⟩<;>cases r<;>exact Spec.aq c (ax w8 LX) func83 (ro:=[]) (m:=150) [.call w.zH,.eb 30 (aB k),.eb 35 (aR w.hk),.eb 44 (fO w.lb),.call (gg c w.hT),.er 55 (nat k),.prop (aC gT (by omega) w.hk),.prop (av gT (by omega) w.hk),.eq 57 t,.call w.ck,.eb 26 (aB j),.eb 32 (aR f),.er 37 (nat j),.prop (aC br (by omega) f),.prop (av br (by omega) f),.eq 39 (apS f h),.call n,.call i,.eb 26 (aB m),.eb 32 (aR e),.er 37 (nat m),.prop (aC br (by omega) e),.prop (av br (by omega) e),.eq 39 (apS e g),.call k11,.call k12,.aT func191 y,.eb 81 (aB u),.er 84 (nat u),.prop (aC aG (by omega) s),.prop (av aG (by omega) s),.eq 86 (cg aG s ⟨[],[],[],[]⟩),.call (aM c w.hT (w.pl u).c),.call (aM c w.hT (w.pl u).s),.call (aM c w.hT (w.pl u).x),.call (aM c w.hT (w.pl u).y),.eb 81 (aB v),.er 84 (nat v),.prop (aC aG (by omega) q),.prop (av aG (by omega) q),.eq 86 (cg aG q ⟨[],[],[],[]⟩),.call (aM c w.hT (w.pl v).c),.call (aM c w.hT (w.pl v).s),.call (aM c w.hT (w.pl v).x),.call (aM c w.hT (w.pl v).y),.er 115 (nat k),.prop (aC gT (by omega) w.hk),.prop (av gT (by omega) w.hk),.eq 117 t,.aT func152 run]
theorem acL(f:aa G)(l:Lk)(a:As){gs:List Gp}{k b c j m n d δ:Nat}(w:Dz G l a gs k ⟨1,[b,c],[j,m,n],d⟩ δ){o p:Nat}(i:j<l.js.length)(h:m<l.js.length)(g:n<l.js.length)(Z:o<a.bs.length)(Y:p<a.bs.length)(ob:o≠b)(K:o≠c)(J:p≠b)(I:p≠c)(D:b≠c)(N:apP l j b o)(M:apP l m c p)(L:apP l n b c){x:Tn}{r:Option (List wK)}
  (run:fF zZq G f150 [.ptr 0 0] (iH l ⟨1,[b,c],[j,m,n],d⟩ a) (Mq r) (iH l ⟨1,[b,c],[j,m,n],d⟩ a)):Spec zZq G 83 [g7 l,nat k,EF x,b8 a] (HV r):=by
 have C:=cg gT w.hk default;rw[w.hg]at C;obtain⟨W,v0,T,Q,t,z,y,q0⟩:=apR N (gr f rfl) (iy f ob K);obtain⟨V,v1,S,P,s,k11,k12,H⟩:=apR M (gm f (fun e=>D e.symm) rfl) (iy f J I)
 obtain⟨U,v2,R,O,q,k21,k22,F⟩:=apR L (gr f rfl) (gm f (fun e=>D e.symm) rfl)
 obtain⟨u,v,hu,X,E⟩:=DM (G:=G) f o p;have B:u<a.bs.length:=by omega
 have A:v<a.bs.length:=by omega
 rcases q0 with⟨rfl,rfl,rfl,rfl⟩|⟨rfl,rfl,rfl,rfl⟩<;>rcases H with⟨rfl,rfl,rfl,rfl⟩|⟨rfl,rfl,rfl,rfl⟩<;>rcases F with⟨rfl,rfl,rfl,rfl⟩|⟨rfl,rfl,rfl,rfl⟩<;>cases r<;>exact Spec.aq f (ax w8 LX) func83 (ro:=[]) (m:=150) [.call w.zH,.eb 30 (aB k),.eb 35 (aR w.hk),.eb 44 (fO w.lb),.call (gg f w.hT),.er 55 (nat k),.prop (aC gT (by omega) w.hk),.prop (av gT (by omega) w.hk),.eq 57 C,.call w.ck,.eb 26 (aB j),.eb 32 (aR i),.er 37 (nat j),.prop (aC br (by omega) i),.prop (av br (by omega) i),.eq 39 (apS i t),.call z,.call y,.eb 26 (aB m),.eb 32 (aR h),.er 37 (nat m),.prop (aC br (by omega) h),.prop (av br (by omega) h),.eq 39 (apS h s),.call k11,.call k12,.eb 26 (aB n),.eb 32 (aR g),.er 37 (nat n),.prop (aC br (by omega) g),.prop (av br (by omega) g),.eq 39 (apS g q),.call k21,.call k22,.aT func191 E,.eb 81 DY,.eb 81 (aB u),.er 84 (nat u),.prop (aC aG (by omega) B),.prop (av aG (by omega) B),.eq 86 (cg aG B ⟨[],[],[],[]⟩),.call (aM f w.hT (w.pl u).c),.call (aM f w.hT (w.pl u).s),.call (aM f w.hT (w.pl u).x),.call (aM f w.hT (w.pl u).y),.eb 81 (aB v),.er 84 (nat v),.prop (aC aG (by omega) A),.prop (av aG (by omega) A),.eq 86 (cg aG A ⟨[],[],[],[]⟩),.call (aM f w.hT (w.pl v).c),.call (aM f w.hT (w.pl v).s),.call (aM f w.hT (w.pl v).x),.call (aM f w.hT (w.pl v).y),.er 115 (nat k),.prop (aC gT (by omega) w.hk),.prop (av gT (by omega) w.hk),.eq 117 C,.aT func150 run]
end Tw
end Lw
namespace Lw
open Go Go.RowKit Go.Proofs
namespace Tw
open fL zY
variable {G:World→Prop} {t T:aS} {δ η:Nat}
theorem Xy{K:Type}[fw K](ι:r7 Rat K)(s:Nat→K){t:aS}(c:iU t.length t)(i:Model ι s t t.length){b:Pl}(h:Sh t.length b.c)(g:Sh t.length b.s)(j:Sh t.length b.x)(x y:Rat):vl ι s t (JT t b x y).1=vl ι s t b.c*ι.φ x-vl ι s t b.s*ι.φ y+vl ι s t b.x:=by
 have f:=Sh.mul c h (Sh.mJ t.length x);have d:=Sh.mul c g (Sh.mJ t.length y);have e:(JT t b x y).1=o9 (jg (mulL t b.c (iF x)) (mulL t b.s (iF y))) b.x:=by simp only[JT,zz,tI,xE]
 rw[e];rw[r_ ι s (f.sub d) j,gP ι s f d,dW ι s c i h (Sh.mJ _ _),dW ι s c i g (Sh.mJ _ _),jP,jP]
theorem Xx{K:Type}[fw K](ι:r7 Rat K)(s:Nat→K){t:aS}(c:iU t.length t)(i:Model ι s t t.length){b:Pl}(h:Sh t.length b.c)(g:Sh t.length b.s)(j:Sh t.length b.y)(x y:Rat):vl ι s t (JT t b x y).2=vl ι s t b.s*ι.φ x+vl ι s t b.c*ι.φ y+vl ι s t b.y:=by
 have f:=Sh.mul c g (Sh.mJ t.length x);have d:=Sh.mul c h (Sh.mJ t.length y);have e:(JT t b x y).2=o9 (o9 (mulL t b.s (iF x)) (mulL t b.c (iF y))) b.y:=by simp only[JT,zz,tI,xE]
 rw[e];rw[r_ ι s (f.add d) j,r_ ι s f d,dW ι s c i g (Sh.mJ _ _),dW ι s c i h (Sh.mJ _ _),jP,jP]
set_option synthInstance.maxSize 100000 in
set_option synthInstance.maxHeartbeats 2000000 in
theorem ac4{K:Type}[fw K]{c s f d e b X Y:K}(h:c*c+s*s=1):(c*e-s*b+X-(c*f-s*d+X))*(c*e-s*b+X-(c*f-s*d+X))+(s*e+c*b+Y-(s*f+c*d+Y))*(s*e+c*b+Y-(s*f+c*d+Y))=(e-f)*(e-f)+(b-d)*(b-d):=
 rg1 [c,s,f,d,e,b,X,Y] ((e-f)*(e-f)+(b-d)*(b-d)) h
def LkB(r:Nat)(l:Lk):Prop:=∀b k,jL l b k→V2.B r (nE (dP l b k))
def Hy(t:aS)(b:Pl):Prop:=∀(K:Type)[fw K](ι:r7 Rat K)(s:Nat→K),Model ι s t t.length→vl ι s t b.c*vl ι s t b.c+vl ι s t b.s*vl ι s t b.s=1
structure gV(r n δ k N D:Nat)(rr:Bool):Prop where
 pr:∃n1 nQ nX I nP nw nC,afz r n δ k N D n1 nQ nX I nP nw nC
 rp:∃n1 nd nX I nz nz0 nC nC0,afx r n δ k N D n1 nd nX I nz nz0 nC nC0
 rrr:rr=true→∃n1 nd nS nX nW I nG nF nH nP nw nC,abS r n δ k N D n1 nd nS nX nW I nG nF nH nP nw nC
theorem gO.at{l:Lk}(b:gO l){j:Nat}(h:j<l.js.length):(l.js.getD j default).a<l.bs.length∧(l.js.getD j default).b<l.bs.length∧jL l (l.js.getD j default).a (l.js.getD j default).p∧jL l (l.js.getD j default).b (l.js.getD j default).on∧
  ((l.js.getD j default).kind=1→jL l (l.js.getD j default).b (l.js.getD j default).to):=by
 have hm:=aN h (default:Jt);exact⟨b.a _ hm,b.b _ hm,⟨b.a _ hm,b.p _ hm⟩,⟨b.b _ hm,b.on _ hm⟩,fun c=>⟨b.b _ hm,b.to _ hm c⟩⟩
theorem m8{j:Jt}{b o:Nat}(h:sK j b=some o)(d:o≠b):(j.a=b∧j.b=o)∨(j.a=o∧j.b=b):=by
 unfold sK at h;split at h
 ·rename_i c;cases h;exact .inl ⟨c.symm,rfl⟩
 ·split at h
  ·rename_i c;cases h;exact .inr ⟨rfl,c.symm⟩
  ·cases h
section
variable {l:Lk} {a:As} {r n:Nat}
theorem ur(d:me a.t)(c:LkB r l)(pl:∀i,vr n a.t (dC a i)){b k:Nat}(h:jL l b k):lJ (n+r+r+2) a.t (b9 l a b k):=ahW d.sh (pl b) (c b k h).x (c b k h).y
theorem tO(f:aa G)(e:b7 δ a.t)(c:LkB r l)(pl:∀i,vr n a.t (dC a i))(d:n+r+r+2≤MB){b k:Nat}(h:jL l b k):xe G l a b k:=aer f e (pl b) (c b k h).x (c b k h).y d
theorem F7(j:aa G)(f:b7 δ a.t)(w:gO l)(d:LkB r l)(lb:a.bs.length=l.bs.length)(pl:∀i,vr n a.t (dC a i))(u:n+r+r+2≤MB){g:Gp}{k body o:Nat}(x:k<g.js.length)(v:g.js.getD k 0<l.js.length)(hw:((fR l g k).a=body∧(fR l g k).b=o)∨((fR l g k).a=o∧(fR l g k).b=body))(_:o≠body):
  fF zZq G f192 [.ptr 0 0,nat k,nat body] (iH l g a) (.aY [(nE (kE l g k body)).AH,iX (jG l g a k body)]) (iH l g a)∧V2.B r (nE (kE l g k body))∧lJ (n+r+r+2) a.t (jG l g a k body):=by
 obtain⟨s,q,c,b,-⟩:=w.at v;have e:l.js.getD (g.js.getD k 0) default=fR l g k:=rfl;rw[e]at s q c b;have m:=aiQ j l g a x v (body:=body) (fun h=>⟨h▸c,b,by rw[lb];exact q,tO j f d pl u b⟩) (fun h=>by
  have p:(fR l g k).b=body:=(hw.resolve_left fun e=>h e.1).2
  exact⟨p▸b,c,by rw[lb];exact s,tO j f d pl u c⟩)
 refine⟨m,?_,?_⟩
 ·unfold kE
  split
  ·rename_i h;exact d _ _ (h▸c)
  ·rename_i h
   have p:(fR l g k).b=body:=(hw.resolve_left fun e=>h e.1).2
   exact d _ _ (p▸b)
 ·unfold jG
  split
  ·exact ur f.b.ok d pl b
  ·exact ur f.b.ok d pl c
theorem Y5(o:aa G)(k:gO l)(d:LkB r l){g:Gp}{body:Nat}(p:2<g.js.length)(f:g.js.getD 2 0<l.js.length)(hw:(fR l g 2).a=body∨(fR l g 2).b=body):
  fF zZq G f255 [.ptr 0 0,nat body] (iH l g a) (nE (kE l g 2 body)).AH (iH l g a)∧V2.B r (nE (kE l g 2 body)):=by
 obtain⟨j,i,c,b,-⟩:=k.at f;have e:l.js.getD (g.js.getD 2 0) default=fR l g 2:=rfl;rw[e]at j i c b;have m:=aiR o l g a p f (body:=body) (fun h=>h▸c) (fun h=>(hw.resolve_left h)▸b)
 refine⟨m,?_⟩;unfold kE;split
 ·rename_i h;exact d _ _ (h▸c)
 ·rename_i h;exact d _ _ ((hw.resolve_left h)▸b)
theorem Nu(g:b7 δ a.t)(C:LkB r l)(pl:∀i,vr n a.t (dC a i)){b p q:Nat}(N:jL l b p)(M:jL l b q)(un:Hy a.t (dC a b))(f:(dP l b p).x≠(dP l b q).x∨(dP l b p).y≠(dP l b q).y):a7 a.t (lQ a.t (b9 l a b p) (b9 l a b q))=1:=by
 obtain⟨K,_,ι,s,d⟩:=g.b.ok.model a.t.length (alE _);have c:=g.b.ok.sh;have hu:=un K ι s d;have sp:=ur g.b.ok C pl N;have sq:=ur g.b.ok C pl M;have A:Sh a.t.length (dC a b).c:=fQ.sh (pl b) _ (by simp)
 have z:Sh a.t.length (dC a b).s:=fQ.sh (pl b) _ (by simp)
 have J:Sh a.t.length (dC a b).x:=fQ.sh (pl b) _ (by simp)
 have I:Sh a.t.length (dC a b).y:=fQ.sh (pl b) _ (by simp)
 have m:∀k,vl ι s a.t (b9 l a b k).1=vl ι s a.t (dC a b).c*ι.φ (dP l b k).x-vl ι s a.t (dC a b).s*ι.φ (dP l b k).y+vl ι s a.t (dC a b).x:=fun k=>by rw[b9];exact Xy ι s c d A z J _ _
 have j:∀k,vl ι s a.t (b9 l a b k).2=vl ι s a.t (dC a b).s*ι.φ (dP l b k).x+vl ι s a.t (dC a b).c*ι.φ (dP l b k).y+vl ι s a.t (dC a b).y:=fun k=>by rw[b9];exact Xx ι s c d A z I _ _
 have y:=sp.x.sh;have x:=sq.x.sh;have w:=sp.y.sh;have o:=sq.y.sh;have E:=m p;have D:=j p;have H:=m q;have F:=j q;clear m j sp sq;unfold lQ lV;generalize b9 l a b p=P at*;generalize b9 l a b q=Q at*;have v1:Sh a.t.length (fD Q P).1:=x.sub y;have v2:Sh a.t.length (fD Q P).2:=o.sub w;have U:vl ι s a.t (fD Q P).1=vl ι s a.t Q.1-vl ι s a.t P.1:=gP ι s x y;have S:vl ι s a.t (fD Q P).2=vl ι s a.t Q.2-vl ι s a.t P.2:=gP ι s o w;have e:vl ι s a.t (ta a.t (fD Q P) (fD Q P))=(ι.φ (dP l b q).x-ι.φ (dP l b p).x)*(ι.φ (dP l b q).x-ι.φ (dP l b p).x)+(ι.φ (dP l b q).y-ι.φ (dP l b p).y)*(ι.φ (dP l b q).y-ι.φ (dP l b p).y):=by
  unfold ta;rw[r_ ι s (Sh.mul c v1 v1) (Sh.mul c v2 v2),dW ι s c d v1 v1,dW ι s c d v2 v2,U,S,E,D,H,F];exact ac4 hu
 have L:Sh a.t.length (ta a.t (fD Q P) (fD Q P)):=(Sh.mul c v1 v1).add (Sh.mul c v2 v2);rw[lN ι s c d L,e];refine fw.sG ?_;rcases fw.QP (fw.qX (ι.φ (dP l b q).x-ι.φ (dP l b p).x)) (fw.qX (ι.φ (dP l b q).y-ι.φ (dP l b p).y))with h|h
 ·exact h
 ·exfalso
  obtain⟨R,O⟩:=DL h;have inj:∀{u v:Rat},ι.φ u-ι.φ v=0→u=v:=fun{u v} B=>by
   rw[←ι.sub]at B;have:rW (u-v)=0:=by rw[Cy ι,B];exact fw.iE
   have:=(A7 _).1 this
   grind
  rcases f with f|f
  ·exact f (inj R).symm
  ·exact f (inj O).symm
end
end Tw
end Lw
namespace Lw
open Go Go.RowKit Go.Proofs
namespace Tw
open fL
variable {G:World→Prop} {t T:aS} {δ η:Nat}
theorem V2.XR{p q:V2}(h:p.x≠q.x∨p.y≠q.y):(q.sub p).sq≠0:=by
 intro e;have a:(q.x-p.x)*(q.x-p.x)+(q.y-p.y)*(q.y-p.y)=0:=e;obtain⟨c,b⟩:=DL a;rcases h with h|h
 ·exact h (by grind)
 ·exact h (by grind)
structure ah0(l:Lk)(s:Fn)(a:As)(n:Nat):Prop where
 pl:∀i,vr n a.t (dC a i)
 un:∀i,s.known.getD i false=true→Hy a.t (dC a i)
theorem aas(c:aa G){l:Lk}{a:As}{gs:List Gp}{k:Nat}{g:Gp}(Q:gO l){r n N D:Nat}{rr:Bool}(u:LkB r l)(w:Dz G l a gs k g δ){s:Fn}(hs:pT l s)(Rl:rL l s g)(st:ah0 l s a n)(h3:a.t.length≤3∨g.kind=0)(h4:a.t.length≤4)
  (X:n+r+r+2≤MB) (F:g.kind≠0→gV r n δ a.t.length N D rr) (hrr:g.kind=1→rr=true) (Fd:g.kind=0→ab7 r n δ a.t.length N∧δ≤D) {x:Tn} (hx:iA r x.t) (hh:x.half=true→x.t=0):
  Spec zZq G 83 [g7 l,nat k,EF x,b8 a] (HV (ot l a g x))∧∀ss,ot l a g x=some ss→∀z∈ss,PB N D a.t z:=by
 have v:=w.hT;have W:=w.lb;have B:∀{o b:Nat},s.known.getD o false=true→s.known.getD b false=false→o≠b:=fun h1 h2 e=>by rw[e,h2]at h1;cases h1
 have y:∀{o:Nat},s.known.getD o false=true→o<a.bs.length:=fun{o} h=>by
  rw[W,←hs.k];rcases alU o s.known.length with h'|h'
  ·exact h'
  ·rw[alD,alX h']at h;cases h
 cases Rl with
 |s_ d body qO hd hb kb hp=>
  obtain⟨hpl,S,o,ho,M⟩:=hp;have gI:=B M kb;have qD:=m8 ho gI;obtain⟨Fd1,Fd2⟩:=Fd rfl;have f:=F7 (g:=⟨0,[body],[qO],d⟩) (k:=0) c v Q u W st.pl X (by simp) hpl qD gI
  obtain⟨q1,q2⟩:=VM l a (D:=D) c v h4 hx hh Fd1 Fd2 f.2.1 f.2.2 f.1;exact⟨Um c l a w hpl (y M) gI qD q1,q2⟩
 |pair i j E m jc oZ hj fi fj ha hb hc kc oc=>
  obtain⟨C,apk,o,ho,M⟩:=ha;obtain⟨R,Z,p,hp,S⟩:=hb;have ui:=f_ fi;have uj:=f_ fj;have O:=B M ui;have oj:=B M uj;have pi:=B S ui;have pj:=B S uj;have ij:i≠j:=by omega
  have Y:=m8 ho O;have U:=m8 hp pj;have J:=m8 oc (anm ij);have l3:a.t.length≤3:=h3.resolve_right (by intro h;cases h)
  obtain⟨n1,nd,nS,nX,nW,I,nG,nF,nH,nP,nw,nC,F⟩:=(F (by intro h;cases h)).rrr (hrr rfl)
  have e1:n+r+r+2=n1:=by have:=F.e1;omega
  have f:=F7 (g:=⟨1,[i,j],[E,m,jc],0⟩) (k:=0) c v Q u W st.pl X (by simp) C Y O
  have p1:=F7 (g:=⟨1,[i,j],[E,m,jc],0⟩) (k:=1) c v Q u W st.pl X (by simp) R U pj
  have o0:=Y5 (a:=a) (g:=⟨1,[i,j],[E,m,jc],0⟩) (body:=i) c Q u (by simp) hc (by rcases J with J|J;exact .inl J.1;exact .inr J.2)
  have o1:=Y5 (a:=a) (g:=⟨1,[i,j],[E,m,jc],0⟩) (body:=j) c Q u (by simp) hc (by rcases J with J|J;exact .inr J.2;exact .inl J.1)
  rw[e1]at f p1;have rr:=aiC c l a f.1 p1.1 o0.1 o1.1;obtain⟨q1,q2⟩:=Ux l a c v l3 F ⟨f.2.1,o0.2,f.2.2⟩ ⟨p1.2.1,o1.2,p1.2.2⟩ rr;exact⟨acL c l a w C R hc (y M) (y S) O oj pi pj ij Y U J q1,q2⟩
 |single i E m hi fi ha hb=>
  obtain⟨C,apk,o,ho,M⟩:=ha;obtain⟨R,Z,p,hp,S⟩:=hb;have ui:=f_ fi;have O:=B M ui;have pi:=B S ui;have Y:=m8 ho O;have U:=m8 hp pi;obtain⟨q1,q2,q3,V,L⟩:=Q.at R;have L:=L Z;have jm:=aN R (default:Jt);have P:=Q.ne _ jm Z;have knd:(fW l i m)≠0:=by unfold fW;split<;>decide
  have l3:a.t.length≤3:=h3.resolve_right knd;have FF:=F knd;generalize q:l.js.getD m default=H at q1 q2 q3 V L P U;by_cases hk:H.a=i
  ·have ek:fW l i m=2:=by unfold fW;rw[apB (by rw[q];exact hk)]
   rw[ek]at w⊢;clear F Fd h3;have hjb:H.b=p:=(U.resolve_right fun h=>pi (h.1.symm.trans hk)).2
   obtain⟨n1,nQ,nX,I,nP,nw,nC,F⟩:=FF.pr;have e1:n+r+r+2=n1:=by have:=F.e1;omega
   have f:=F7 (g:=⟨2,[i],[E,m],0⟩) (k:=0) c v Q u W st.pl X (by simp) C Y O
   have m0:jL l i H.p:=hk▸q3;have pr:=akt l a c q R f.1 m0 V L (by rw[W];exact q2) (tO c v u st.pl X V) (tO c v u st.pl X L)
   have un:Hy a.t (dC a H.b):=by rw[hjb];exact st.un _ S
   have ll:=Nu v u st.pl V L un P;have K:=ur v.b.ok u st.pl V;have sz2:=ur v.b.ok u st.pl L;rw[e1]at f K sz2;obtain⟨r1,r2⟩:=YG l a c v l3 F (A:=Vu l a (i:=i) ⟨2,[i],[E,m],0⟩ H) ⟨f.2.1,u _ _ m0,f.2.2⟩ K sz2 ll pr;have eg:ot l a ⟨2,[i],[E,m],0⟩ x=Xf a.t (Vu l a (i:=i) ⟨2,[i],[E,m],0⟩ H) (b9 l a H.b H.on) (b9 l a H.b H.to):=by rw[←q];rfl
   rw[eg];exact⟨acK c l a w C R (y M) (y S) O pi Y (by unfold apP;rw[q];exact U) r1,r2⟩
  ·have ek:fW l i m=3:=by unfold fW;rw[apA (by rw[q];exact hk)]
   rw[ek]at w⊢;clear F Fd h3;have hw:=U.resolve_left fun h=>hk h.1
   obtain⟨n1,nd,nX,I,nz,nz0,nC,nC0,F⟩:=FF.rp;have e1:n+r+r+2=n1:=by have:=F.e1;omega
   have f:=F7 (g:=⟨3,[i],[E,m],0⟩) (k:=0) c v Q u W st.pl X (by simp) C Y O
   rw[hw.2]at V L P;have K:=ur v.b.ok u st.pl q3;rw[e1]at f K;obtain⟨r1,r2⟩:=Yd l a c v l3 q R F (x:=Uy l ⟨3,[i],[E,m],0⟩ a i H) ⟨f.2.1,u _ _ V,u _ _ L,rfl,f.2.2,K⟩ (V2.XR P) f.1 rfl rfl V L q3 (by rw[W];exact q1) (tO c v u st.pl X q3)
   have eg:ot l a ⟨3,[i],[E,m],0⟩ x=Xd a.t (Uy l ⟨3,[i],[E,m],0⟩ a i H):=by rw[←q];rfl
   rw[eg];exact⟨acJ c l a w C R (y M) (y S) O pi Y (by unfold apP;rw[q];exact U) r1,r2⟩
end Tw
end Lw
namespace Lw
open Go Go.RowKit Go.Proofs
namespace Tw
open fL
variable {G:World→Prop}
def gq(s:wK):D:=.agg (abw s)
def oF(g:Gp):D:=.agg (iV g)
def As.CF(a:As)(b:Nat)(p:Pl)(T:aS)(m:Int):As:=⟨T,a.bs.set b p,a.ms++[m]⟩
def As.xz(a:As)(b c:Nat)(p q:Pl)(T:aS)(m:Int):As:=⟨T,(a.bs.set b p).set c q,a.ms++[m]⟩
theorem yx{bs:List Pl}{i:Nat}{p:Pl}(h:i<bs.length):aF (bs.flatMap dw) ((zNq i).toNat*4) (dw p)=(bs.set i p).flatMap dw:=by
 have e:(zNq i).toNat*4=i*4:=rfl;rw[e];clear e;induction bs generalizing i with
 |nil=>simp at h
 |cons b bs d=>
  cases i with
  |zero=>rfl
  |succ i=>
   have:=d (i:=i) (by simpa using h)
   rw[List.set_cons_succ,amx,amx,←this];unfold aF;have a:(dw b).length=4:=rfl;rw[show(i+1)*4=4+i*4 by omega,List.take_append,al4 (by rw[a];omega),a,show 4+i*4-4=i*4 by omega,am7,List.drop_append,List.drop_eq_nil_of_le (by rw[a];omega),anf,a]
   have c:(dw p).length=4:=rfl;rw[c,show 4+i*4+4-4=i*4+4 by omega]
theorem Kv(bs:List Pl):(bs.flatMap dw).length=bs.length*4:=fJ aG bs
theorem bg{bs:List Pl}{i:Nat}{p:Pl}(h:i<bs.length):(zNq i).toNat*4+(dw p).length≤(bs.flatMap dw).length:=by
 have e:(zNq i).toNat=i:=rfl;have a:(dw p).length=4:=rfl;rw[Kv,e,a];omega
def q_:FuncId→List Nat:=fun f=>if f=153 then [997]else if f=146 then [997]else []
theorem dE{bs:List Pl}{i k:Nat}{p q:Pl}(h:i<bs.length)(a:k<bs.length):(zNq k).toNat*4+(dw q).length≤(aF (bs.flatMap dw) ((zNq i).toNat*4) (dw p)).length:=by
 rw[yx h];exact bg (by rwa [amf])
theorem KS{α:Type}{l:List α}(h:2≤l.length)(g:l.length≤6):(∃a b,l=[a,b])∨(∃a b c,l=[a,b,c])∨(∃a b c d,l=[a,b,c,d])∨(∃a b c d e,l=[a,b,c,d,e])∨∃a b c d e f,l=[a,b,c,d,e,f]:=by
 match l,h,g with
 |[a,b],_,_=>exact .inl ⟨a,b,rfl⟩
 |[a,b,c],_,_=>exact .inr (.inl ⟨a,b,c,rfl⟩)
 |[a,b,c,d],_,_=>exact .inr (.inr (.inl ⟨a,b,c,d,rfl⟩))
 |[a,b,c,d,e],_,_=>exact .inr (.inr (.inr (.inl ⟨a,b,c,d,e,rfl⟩)))
 |[a,b,c,d,e,f],_,_=>exact .inr (.inr (.inr (.inr ⟨a,b,c,d,e,f,rfl⟩)))
theorem ZT{α:Type}{l:List α}(h:l.length≤4):l=[]∨(∃a,l=[a])∨(∃a b,l=[a,b])∨(∃a b c,l=[a,b,c])∨∃a b c d,l=[a,b,c,d]:=by
 match l,h with
 |[],_=>exact .inl rfl
 |[a],_=>exact .inr (.inl ⟨a,rfl⟩)
 |[a,b],_=>exact .inr (.inr (.inl ⟨a,b,rfl⟩))
 |[a,b,c],_=>exact .inr (.inr (.inr (.inl ⟨a,b,c,rfl⟩)))
 |[a,b,c,d],_=>exact .inr (.inr (.inr (.inr ⟨a,b,c,d,rfl⟩)))
theorem As.YC{t T:aS}{bs:List Pl}{ms:List Int}{b:Nat}{p:Pl}{m:Int}(a:b<bs.length):b8 ((⟨t,bs,ms⟩:As).CF b p T m)=.agg [.row T.length false (T.map aA),.row bs.length false ((aF (bs.flatMap dw) ((zNq b).toNat*4) (dw p)).take (bs.length*4)),.row (ms.length+1) false (ms.map int++[int m])]:=by
 rw[yx a,al4 (by rw[Kv,amf];exact alE _)]
 simp[b8,p_,As.CF,aU,kH]
theorem As.YB{t T:aS}{bs:List Pl}{ms:List Int}{b c:Nat}{p q:Pl}{m:Int}(a:b<bs.length)(d:c<bs.length):b8 ((⟨t,bs,ms⟩:As).xz b c p q T m)=.agg [.row T.length false (T.map aA),.row bs.length false ((aF (aF (bs.flatMap dw) ((zNq b).toNat*4) (dw p)) ((zNq c).toNat*4) (dw q)).take (bs.length*4)),.row (ms.length+1) false (ms.map int++[int m])]:=by
 rw[yx a,yx (by rwa [amf]),al4 (by rw[Kv,amf,amf];exact alE _)]
 simp[b8,p_,As.xz,aU,kH]
theorem WJ(k:aa G){a:As}{T:aS}{kd b d:Nat}{v:List Nat}{p:Pl}{m:Int}(s:2≤a.bs.length)(r:a.bs.length≤6)(i:a.ms.length≤4)(j:b<a.bs.length):
  Spec zZq G 85 [b8 a,oF ⟨kd,[b],v,d⟩,gq ⟨T,[p],m⟩] (b8 (a.CF b p T m)):=by
 obtain⟨t,y,ms⟩:=a;rw[As.YC j];have o:=aD j;have n:=bg (p:=p) j;rcases ZT i with rfl|i
 ·rcases KS s r with⟨e,c,rfl⟩|⟨e,c,f,rfl⟩|⟨e,c,f,g,rfl⟩|⟨e,c,f,g,l,rfl⟩|⟨e,c,f,g,l,w,rfl⟩<;>exact Spec.y k (ax [146] q_) func85 [3,4,5] [.call (Fb.kK k),.er 38 (jB p),.prop o,.prop n]
 ·rcases i with⟨h,rfl⟩|⟨h,q,rfl⟩|⟨h,q,u,rfl⟩|⟨h,q,u,x,rfl⟩<;>rcases KS s r with⟨e,c,rfl⟩|⟨e,c,f,rfl⟩|⟨e,c,f,g,rfl⟩|⟨e,c,f,g,l,rfl⟩|⟨e,c,f,g,l,w,rfl⟩<;>exact Spec.y k (ax [] q_) func85 [3,4,5] [.er 38 (jB p),.prop o,.prop n]
theorem WI(n:aa G){a:As}{T:aS}{kd b c d:Nat}{A:List Nat}{p q:Pl}{m:Int}(y:2≤a.bs.length)(x:a.bs.length≤6)(k:a.ms.length≤4)(i:b<a.bs.length)(l:c<a.bs.length):
  Spec zZq G 85 [b8 a,oF ⟨kd,[b,c],A,d⟩,gq ⟨T,[p,q],m⟩] (b8 (a.xz b c p q T m)):=by
 obtain⟨t,D,ms⟩:=a;rw[As.YB (q:=q) i l];have v:=aD i;have u:=bg (p:=p) i;have s:=aD l;have r:=dE (p:=p) (q:=q) i l;rcases ZT k with rfl|k
 ·rcases KS y x with⟨f,e,rfl⟩|⟨f,e,g,rfl⟩|⟨f,e,g,h,rfl⟩|⟨f,e,g,h,o,rfl⟩|⟨f,e,g,h,o,B,rfl⟩<;>exact Spec.y n (ax [146] q_) func85 [3,4,5] [.call (Fb.kK n),.er 38 (jB p),.prop v,.prop u,.er 38 (jB q),.prop s,.prop r]
 ·rcases k with⟨j,rfl⟩|⟨j,w,rfl⟩|⟨j,w,z,rfl⟩|⟨j,w,z,C,rfl⟩<;>rcases KS y x with⟨f,e,rfl⟩|⟨f,e,g,rfl⟩|⟨f,e,g,h,rfl⟩|⟨f,e,g,h,o,rfl⟩|⟨f,e,g,h,o,B,rfl⟩<;>exact Spec.y n (ax [] q_) func85 [3,4,5] [.er 38 (jB p),.prop v,.prop u,.er 38 (jB q),.prop s,.prop r]
end Tw
end Lw
namespace Lw
open Go Go.RowKit
variable {P:Program} {Good:World→Prop}
theorem cu.agb{β ρ:Nat→Nat}{w:World}{X:Nat→Prop}{v:Value}{d:D}(h:cu (fun b=>β (ρ b)) w X v d):cu β w X v (d.jJ ρ):=by
 cases h with
 |p f=>rw[CE ρ (jk f)];exact .p f
 |ptr b off=>exact .ptr (ρ b) off
 |bz b off len cap c a=>exact .bz (ρ b) off len cap c a
 |cR b n size cap e c a g=>exact .cR (ρ b) n size cap e c a g
theorem LQ.agb{β ρ:Nat→Nat}{w:World}{X:Nat→Prop}{us:List Value}{xs:List D}(h:LQ (cu (fun b=>β (ρ b)) w X) us xs):LQ (cu β w X) us (xs.map (D.jJ ρ)):=
 h.map fun _ _ _ a=>a.agb
theorem cu.Jh{β:Nat→Nat}{w w':World}{X X':Nat→Prop}(h:∀a u,w.cell? a=some u→¬X a.block→w'.cell? a=some u∧¬X' a.block){v:Value}{d:D}
  (j:∀b,d.ref=some b→∀e n,w.shape? (β b)=some (e,n)→∃i,w'.shape? (β b)=some (i,n)) (k:cu β w X v d):cu β w' X' v d:=by
 cases k with
 |p l=>exact .p (l.mono h)
 |ptr b off=>exact .ptr b off
 |bz b off len cap g f=>exact .bz b off len cap g f
 |cR b n size cap e g f m=>
  obtain⟨i,c⟩:=j b rfl e _ m;exact .cR b n size cap i g f c
theorem cW.Jh{β:Nat→Nat}{w w':World}{X X':Nat→Prop}(h:∀a u,w.cell? a=some u→¬X a.block→w'.cell? a=some u∧¬X' a.block){v:Value}{d:D}
  (i:∀b∈d.refs,∀e n,w.shape? (β b)=some (e,n)→∃o,w'.shape? (β b)=some (o,n)) (l:cW β w X v d):cW β w' X' v d:=by
 cases l with
 |c m=>exact .c (m.Jh h fun b f=>i b (rC f))
 |agg us xs k=>exact .agg us xs (k.mono fun u x g j=>j.Jh h fun b f=>i b (by show b∈xs.filterMap D.ref;exact amh.2 ⟨x,g,f⟩))
 |aY us xs k=>exact .aY us xs (k.mono fun u x g j=>j.Jh h fun b f=>i b (by show b∈xs.filterMap D.ref;exact amh.2 ⟨x,g,f⟩))
def pQ(a:List D)(b:List (List D))(ob:Option (List D)):List (Option (List D)):=some a::(b.map some++[ob])
theorem ahN(a:List D)(b:List (List D))(ob:Option (List D)):(pQ a b ob).getD 0 none=some a:=rfl
theorem OB{c:List D}{a:List (List D)}{ob:Option (List D)}{b:Nat}(h:b<a.length):(pQ c a ob).getD (b+1) none=some (a.getD b []):=by
 simp only[pQ,List.getD_eq_getElem?_getD,List.getElem?_cons_succ];rw[amp (by simpa using h),ane,alK h];rfl
theorem JS{b:List D}{a:List (List D)}{ob:Option (List D)}:(pQ b a ob).getD (a.length+1) none=ob:=by
 simp only[pQ,List.getD_eq_getElem?_getD,List.getElem?_cons_succ];rw[aml (by simp)];simp
theorem abF{c:List D}{a:List (List D)}{ob:Option (List D)}{b:Nat}(h:a.length+1<b):(pQ c a ob).getD b none=none:=by
 rw[alD,alX (by simp[pQ];omega)];rfl
theorem wG{d:List D}{a:List (List D)}{ob:Option (List D)}{b:Nat}{cs:List D}(h:(pQ d a ob).getD b none=some cs):
  (b=0∧cs=d)∨(∃k,k<a.length∧b=k+1∧cs=a.getD k [])∨(b=a.length+1∧ob=some cs):=by
 rcases ano b (a.length+1)with c|c|c
 ·cases b with
  |zero=>exact .inl ⟨rfl,(amq h).symm⟩
  |succ k=>
   have e:k<a.length:=by omega
   rw[OB e]at h;exact .inr (.inl ⟨k,e,rfl,(amq h).symm⟩)
 ·rw[c,JS]at h
  exact .inr (.inr ⟨c,h⟩)
 ·rw[abF c]at h;cases h
theorem jh{a:List D}{ob:Option (List D)}{b:Nat}{cs:List D}(h:([some a,ob]:List (Option (List D))).getD b none=some cs):(b=0∧cs=a)∨(b=1∧ob=some cs):=by
 match b,h with
 |0,h=>exact .inl ⟨rfl,(amq h).symm⟩
 |1,h=>exact .inr ⟨rfl,h⟩
 |b+2,h=>simp at h
def IC(m b:Nat):Nat:=if b=1 then m+1 else b
theorem iD.frame{fn:Func}{args C B:List D}{ob J:Option (List D)}{d:D}(hI:iD P Good fn 1 args [some C,ob] [0] d [some B,J] [0])
  (hwc:∀x∈C,∀b,x.ref=some b→b=1) (ajj:∀x∈B,∀b,x.ref=some b→b=1) (hob:∀cs,ob=some cs→∀x∈cs,x.ref=none) (ajp:∀cs,J=some cs→∀x∈cs,x.ref=none)
  (dU:∀x∈args,∀b∈x.refs,b=0) (hd:d.refs=[]) (o:List (List D)) (hXs:∀cs∈o,∀x∈cs,x.ref=none):
  iD P Good fn (o.length+1) args (pQ (C.map (D.jJ (IC o.length))) o ob) [0] d (pQ (B.map (D.jJ (IC o.length))) o J) [0]:=by
 intro f hf c w β X vals q1 q2 q3 q4 q5 q6 h rh fu xU;have m0:IC o.length 0=0:=rfl;have m1:IC o.length 1=o.length+1:=rfl;generalize hm:o.length=m at*;have b0:(pQ (C.map (D.jJ (IC m))) o ob).getD 0 none=some (C.map (D.jJ (IC m))):=ahN ..;have bl:∀{ob:Option (List D)}{C:List D},(pQ C o ob).getD (m+1) none=ob:=fun{ob} {C}=>by rw[←hm];exact JS
 have bm:∀{ob:Option (List D)}{C:List D}{k:Nat},k<m→(pQ C o ob).getD (k+1) none=some (o.getD k []):=fun{ob} {C} {k} g=>OB (by omega)
 obtain⟨a1,a2,M,e0,a3,a4,a5⟩:=h.blk 0 _ b0;have sh0:=cY a3
 let seen:Nat→Bool:=fun k=>k==β 0||(ob.isSome&&k==β (m+1))
 have aiz:seen (β 0)=true:=by simp[seen]
 have aeY:ob.isSome=true→seen (β (m+1))=true:=fun h=>by simp[seen,h]
 have gQ:∀k,seen k=true→k=β 0∨(ob.isSome=true∧k=β (m+1)):=fun k g=>by simpa [seen]using g
 have O:((pQ (C.map (D.jJ (IC m))) o ob).getD 0 none).isSome=true:=by rw[b0];rfl
 have N:ob.isSome=true→((pQ (C.map (D.jJ (IC m))) o ob).getD (m+1) none).isSome=true:=fun h=>by rw[bl];exact h
 have T:∀k,k<m→((pQ (C.map (D.jJ (IC m))) o ob).getD (k+1) none).isSome=true:=fun k g=>by rw[bm g];rfl
 have afu:∀k,seen k=true→X k:=fun k g=>by
  rcases gQ k g with rfl|⟨V,rfl⟩
  ·exact a2
  ·obtain⟨cs,r⟩:=alL.1 V
   exact(h.blk (m+1) cs (by show(pQ _ o ob).getD (m+1) none=some cs;rw[bl];exact r)).2.1
 generalize aly:seen=E at*
 let c':Ctx:={c with gh:=[(.slice (some ⟨β 0,0,none⟩) 0 1,.cR 0 0 M.size)],gb:=1,rd:=none,dfs:=[],ns:=w.heap.size,kp:=fun k=>if E k then none else w.heap[k]?,kx:=fun k=>X k∧E k=false}
 have sZ:dk c' 0 ⟨fun _=>.any,fun b=>([some C,ob]:List (Option (List D))).getD b none,fun b=>([0]:List Nat).contains b⟩ ⟨#[],[]⟩ w (fun b=>β (IC m b)) X:=by
  refine⟨rfl,rfl,fun t=>.c (.p (.any _)),fun t b l=>by simp[D.refs]at l,fun b cs l=>?_,fun b cs l x F b' I=>?_,fun b b' l I e=>?_,h.F,h.vt,h.oE,⟨h.below.uJ,h.below.nc,alE _⟩,fun p S=>?_,fun p S b l=>?_,⟨fun k q g=>?_,fun k g=>g.1,fun k g=>h.oE k g.1,fun k g b l=>?_⟩⟩
  ·rcases jh l with⟨rfl,rfl⟩|⟨rfl,r⟩
   ·rw[alR]at a4 a5
    exact⟨a1,a2,M,e0,a3,a4,a5.Eo⟩
   ·obtain⟨G,z,U,e,W,g4,g5⟩:=h.blk (m+1) cs (by show(pQ _ o ob).getD (m+1) none=some cs;rw[bl];exact r)
    exact⟨G,z,U,e,W,g4,(g5.pure (hob cs r)).lq⟩
  ·rcases jh l with⟨rfl,rfl⟩|⟨rfl,r⟩
   ·obtain rfl:=hwc x F b' I
    obtain⟨-,z⟩:=h.tB 0 _ b0 (x.jJ (IC m)) (anB F) (m+1) (by rw[xy,I];rfl)
    have g2':((pQ (cs.map (D.jJ (IC m))) o ob).getD (m+1) none).isSome=true:=z;rw[bl]at g2';exact⟨rfl,g2'⟩
   ·rw[hob cs r x F]at I;cases I
  ·obtain⟨c1,e1⟩:=alL.1 l
   obtain⟨c2,e2⟩:=alL.1 I;have up:∀{b cs},([some C,ob]:List (Option (List D))).getD b none=some cs→((pQ (C.map (D.jJ (IC m))) o ob).getD (IC m b) none).isSome=true:=fun{b cs} l=>by
    rcases jh l with⟨rfl,-⟩|⟨rfl,r⟩
    ·exact O
    ·exact N (by rw[r];rfl)
   have:=h.inj _ _ (up e1) (up e2) e;rcases jh e1 with⟨rfl,-⟩|⟨rfl,-⟩<;>rcases jh e2 with⟨rfl,-⟩|⟨rfl,-⟩<;>first|rfl|(rw[m0,m1]at this;omega)
  ·rw[show c'.gh=[(.slice (some ⟨β 0,0,none⟩) 0 1,.cR 0 0 M.size)]from rfl,alI]at S
   subst S;exact .c (.cR (β:=fun b=>β (IC m b)) 0 0 M.size 1 e0 (by omega) (by decide) (by rw[amU];exact sh0))
  ·rw[show c'.gh=[(.slice (some ⟨β 0,0,none⟩) 0 1,.cR 0 0 M.size)]from rfl,alI]at S
   subst S;simp only[D.refs,List.mem_singleton]at l;subst l;exact⟨by show 0<1;omega,rfl⟩
  ·have gk:(if E k then none else w.heap[k]?)=some q:=g
   split at gk
   ·cases gk
   ·exact gk
  ·obtain⟨cs,e1⟩:=alL.1 l
   intro e3;have s:E k=true:=by
    rw[←e3];rcases jh e1 with⟨rfl,-⟩|⟨rfl,r⟩
    ·exact aiz
    ·exact aeY (by rw[r];rfl)
   rcases g with g|g
   ·have gk:(if E k then none else w.heap[k]?).isSome=true:=g
    rw[apB s]at gk;cases gk
   ·rw[g.2]at s;cases s
 refine(hI f hf c' w (fun b=>β (IC m b)) X vals q1 q2 q3 (alE _) rfl rfl sZ rh (fun i i1 i2=>(fu i i1 i2).congr fun b l=>?_) (fun x F b l=>?_)).mono fun e Z fa=>?_
 ·rw[dU _ (al2 i2) b l];rfl
 ·rw[dU x F b l];rfl
 obtain⟨v,H,X',rfl,L,hv,-⟩:=fa;have zo:∀k q,E k=false→w.heap[k]? =some q→Z.heap[k]? =some q:=fun k q g hq=>L.kp.obj k q (by show(if E k then none else w.heap[k]?)=some q;rw[g];exact hq)
 obtain⟨p1,e1,p2⟩:H 0=β 0∧∃e',Z.shape? (β 0)=some (e',M.size):=by
  have:=L.gh _ (alI.2 rfl);obtain⟨r1,PS,r2⟩:=GM this;have r3:β 0=H 0:=by injection r1
  exact⟨r3.symm,PS,by rw[r3];rw[amU]at r2;exact r2⟩
 have n0:([some B,J]:List (Option (List D))).getD 0 none=some B:=rfl;have n1:([some B,J]:List (Option (List D))).getD 1 none=J:=rfl;have agD:J.isSome=true→(ob.isSome=true∧H 1=β (m+1))∨w.heap.size≤H 1:=fun K=>by
  rcases alU (H 1) w.heap.size with cM|Js
  ·left
   have s:E (H 1)=true:=by
    cases s:E (H 1)with
    |true=>rfl
    |false=>exact apC rfl (L.kp.off (H 1) (.inl (by show(if E (H 1)then none else w.heap[H 1]?).isSome=true;rw[s,amG cM];rfl)) 1 K)
   rcases gQ _ s with e|e
   ·rw[←p1]at e
    exact apC (L.inj 1 0 K rfl e) (by omega)
   ·exact e
  ·exact .inr Js
 have kXX:∀k,X k→E k=false→X' k:=fun k V Q=>L.kp.x k ⟨V,Q⟩
 have QA:∀k,k<m→E (β (k+1))=false:=fun k g=>by
  cases s:E (β (k+1))with
  |false=>rfl
  |true=>
   exfalso;rcases gQ _ s with e|⟨K,e⟩
   ·have:=h.inj _ _ (T k g) O e;omega
   ·have:=h.inj _ _ (T k g) (N K) e;omega
 have low:∀a u,w.cell? a=some u→¬X a.block→Z.cell? a=some u∧¬(X' a.block∧(X a.block∨(J.isSome=true∧a.block=H 1))):=fun a u ha F=>by
  have Ar:E a.block=false:=by
   cases s:E a.block with
   |false=>rfl
   |true=>exact apC (afu _ s) F
  have cM:=zf ha;refine⟨?_,fun hX=>?_⟩
  ·have e2:Z.heap[a.block]? =w.heap[a.block]? :=by rw[zo a.block _ Ar (amG cM),amG cM]
   rw[World.cell?_of_block e2];exact ha
  ·rcases hX.2 with hX|⟨K,hX⟩
   ·exact F hX
   ·rcases agD K with⟨V,Q⟩|Q
    ·exact F (by rw[hX,Q];exact afu _ (aeY V))
    ·omega
 have back:∀a u,Z.cell? a=some u→¬X' a.block→Z.cell? a=some u∧¬(X' a.block∧(X a.block∨(J.isSome=true∧a.block=H 1))):=fun a u ha F=>⟨ha,fun hX=>F hX.1⟩
 let β2:Nat→Nat:=fun b=>if b=m+1 then H 1 else β b
 have R:β2 (m+1)=H 1:=apB rfl;have A:∀b,b≠m+1→β2 b=β b:=fun b l=>apA l
 have shp:∀b,b<m+1→∀e n,w.shape? (β b)=some (e,n)→∃e',Z.shape? (β b)=some (e',n):=fun b l e n s=>by
  cases b with
  |zero=>
   rw[sh0]at s;simp only[Option.some.injEq,Prod.mk.injEq]at s;exact⟨e1,by rw[←s.2];exact p2⟩
  |succ k=>
   obtain⟨U,fr,G,z⟩:=jW s;exact⟨e,by rw[←z];exact cY (zo _ _ (QA k (by omega)) G)⟩
 have Y:∀b,(b=0∨b=1)→β2 (IC m b)=H b:=fun b l=>by
  rcases l with rfl|rfl
  ·rw[m0,A 0 (by omega),p1]
  ·rw[m1,R]
 refine⟨v,β2,fun k=>X' k∧(X k∨(J.isSome=true∧k=H 1)),rfl,?_,.c (.p ((hv.pure hd).mono back)),fun b l=>by rw[hd]at l;cases l⟩
 refine⟨q6.symm,rfl,fun t=>.c (.p (.any _)),fun t b l=>by simp[D.refs]at l,fun b cs l=>?_,fun b cs l x F b' I=>?_,fun b b' l I e=>?_,fun k g=>⟨L.F k g,.inl (h.F k g)⟩,h.vt,fun k g=>L.oE k g.1,⟨L.below.uJ,L.below.nc,alJ h.below.sz L.below.sz⟩,fun p S=>?_,fun p S b l=>?_,⟨fun k q g=>?_,fun k g=>?_,fun k g=>ami (h.kp.lt k g) L.below.sz,fun k g b l=>?_⟩⟩
 ·rcases wG l with⟨rfl,rfl⟩|⟨k,g,rfl,rfl⟩|⟨rfl,r⟩
  ·obtain⟨G,z,U,e,W,g4,g5⟩:=L.blk 0 B n0
   rw[p1]at G z W;refine⟨G,⟨z,.inl a2⟩,U,e,W,by rw[alR];exact g4,?_⟩
   rw[alR];refine LQ.agb (g5.mono fun u x F hq=>?_)
   exact(hq.Jh back fun b _ e n s=>⟨e,s⟩).congr fun b l=>Y b (.inr (ajj x F b l))
  ·rw[hm]at g
   obtain⟨G,z,U,e,W,g4,g5⟩:=h.blk (k+1) _ (bm g);have lg:∀x∈o.getD k [],x.ref=none:=hXs _ (by rw[alD,alK (by omega:k<o.length)];exact al2 _)
   rw[A (k+1) (by omega)]
   exact⟨G,⟨kXX _ z (QA k g),.inl z⟩,U,e,zo _ _ (QA k g) W,g4,((g5.pure lg).mono low).lq⟩
  ·rw[hm,R]
   obtain⟨G,z,U,e,W,g4,g5⟩:=L.blk 1 cs (n1.trans r);exact⟨G,⟨z,.inr ⟨by rw[r];rfl,rfl⟩⟩,U,e,W,g4,((g5.pure (ajp cs r)).mono back).lq⟩
 ·rcases wG l with⟨rfl,rfl⟩|⟨k,g,rfl,rfl⟩|⟨rfl,r⟩
  ·rw[ama]at F
   obtain⟨y,hy,rfl⟩:=F;rw[xy]at I;obtain⟨b2,xX,rfl⟩:=Option.map_eq_some_iff.1 I;obtain rfl:=ajj y hy b2 xX;obtain⟨-,z⟩:=L.tB 0 B n0 y hy 1 xX;exact⟨rfl,by show((pQ _ o J).getD (m+1) none).isSome=true;rw[bl];exact z⟩
  ·have lg:∀x∈o.getD k [],x.ref=none:=hXs _ (by rw[alD,alK g];exact al2 _)
   rw[lg x F]at I;cases I
  ·rw[ajp cs r x F]at I;cases I
 ·have big:∀{b},((pQ (B.map (D.jJ (IC m))) o J).getD b none).isSome=true→(b<m+1∧((pQ (C.map (D.jJ (IC m))) o ob).getD b none).isSome=true)∨(b=m+1∧J.isSome=true):=fun{b} l=>by
   obtain⟨cs,r⟩:=alL.1 l;rcases wG r with⟨rfl,-⟩|⟨k,g,rfl,-⟩|⟨rfl,K⟩
   ·exact .inl ⟨by omega,O⟩
   ·exact .inl ⟨by omega,T k (by omega)⟩
   ·exact .inr ⟨by rw[hm],by rw[K];rfl⟩
  have ne:∀{b},b<m+1→((pQ (C.map (D.jJ (IC m))) o ob).getD b none).isSome=true→J.isSome=true→β b≠H 1:=fun{b} V Q h3 e=>by
   rcases agD h3 with⟨G,z⟩|z
   ·rw[z]at e
    have:=h.inj _ _ Q (N G) e;omega
   ·obtain⟨cs,r⟩:=alL.1 Q
    have:=h.oE _ (h.blk b cs r).2.1;omega
  rcases big l with⟨V,Q⟩|⟨rfl,Q⟩<;>rcases big I with⟨h3,h4⟩|⟨rfl,h4⟩
  ·rw[A b (by omega),A b' (by omega)]at e
   exact h.inj _ _ Q h4 e
  ·rw[A b (by omega),R]at e
   exact apC e (ne V Q h4)
  ·rw[A b' (by omega),R]at e
   exact apC e.symm (ne h3 h4 Q)
  ·rfl
 ·have hr:=h.gh p S
  refine(hr.Jh low fun b l=>shp b ?_).congr fun b l=>A b ?_
  ·exact ami (h.iY p S b l).1 q4
  ·have:=(h.iY p S b l).1
   omega
 ·obtain⟨G,z⟩:=h.iY p S b l
  refine⟨G,?_⟩;have cM:b<m+1:=by omega
  cases b with
  |zero=>rfl
  |succ k=>show((pQ _ o J).getD (k+1) none).isSome=true;rw[bm (by omega)];rfl
 ·have G:=h.kp.obj k q g
  refine zo k q ?_ G;cases s:E k with
  |false=>rfl
  |true=>
   exfalso;rcases gQ k s with e|⟨K,e⟩
   ·exact h.kp.off k (.inl (by rw[g];rfl)) 0 O e.symm
   ·exact h.kp.off k (.inl (by rw[g];rfl)) (m+1) (N K) e.symm
 ·have Ar:E k=false:=by
   cases s:E k with
   |false=>rfl
   |true=>
    exfalso;rcases gQ k s with e|⟨K,e⟩
    ·exact h.kp.off k (.inr g) 0 O e.symm
    ·exact h.kp.off k (.inr g) (m+1) (N K) e.symm
  exact⟨kXX k (h.kp.x k g) Ar,.inl (h.kp.x k g)⟩
 ·obtain⟨cs,r⟩:=alL.1 l
  rcases wG r with⟨rfl,-⟩|⟨j,hj,rfl,-⟩|⟨rfl,K⟩
  ·rw[A 0 (by omega)];exact h.kp.off k g 0 O
  ·rw[A (j+1) (by omega)];exact h.kp.off k g (j+1) (T j (by omega))
  ·rw[hm,R]
   intro e;rcases agD (by rw[K];rfl)with⟨G,z⟩|z
   ·exact h.kp.off k g (m+1) (N G) (by rw[←z];exact e)
   ·have:=h.kp.below g
    omega
end Lw
