/- Part 16. -/
import Derived.Test.YtmcpfihkambgnaaGreatLw15
open Option renaming some.injEq→zIq
open Prod renaming mk.injEq→zJq
open Go.Proofs.Tryz renaming prog→zZq
open Go.Proofs.Tryz
open Int renaming ofNat→zNq
namespace Lw
open Go Go.RowKit
variable {P:Program} {Good:World→Prop}
def adh{α:Type}(f:List (de×de)→α)(o:Option (D×List (Option (List D))×List Nat×List (Item P Good)×List (de×de))):Option (D×List (Option (List D))×List Nat×α):=o.map fun o=>(o.1,o.2.1,o.2.2.1,f o.2.2.2.2)
theorem iD.m9(l:aa Good)(A:rM P Good)(fn:Func){ro:List Nat}{m mx:Nat}{args:List D}{blks blks':List (Option (List D))}{ns ns':List Nat}{d:D}(a:List (Item P Good))
  (h:adh CK (wT P (oA P m) mx ro fn args blks ns (.auto A::a))=some (d,blks',ns',said a):=by kernel_rfl) (b:adh Nz (wT P (oA P m) mx ro fn args blks ns (.auto A::a))=adh FR (wT P (oA P m) mx ro fn args blks ns (.auto A::a)):=by kernel_rfl):
  iD P Good fn mx args blks ns d blks' ns':=by
 unfold adh at h b;cases c:wT P (oA P m) mx ro fn args blks ns (.auto A::a)with
 |none=>rw[c]at h;cases h
 |some o=>
  obtain⟨d1,t,q,p,r⟩:=o;rw[c]at h b;simp only[Option.map_some,zIq,zJq,true_and]at h b;obtain⟨rfl,rfl,rfl,h⟩:=h;exact oX (fun ro n k s a e g tr' f i j=>iO l m ro n k s a e g tr' f i j) _ _ _ _ _ _ _ _ _ _ _ _ c (zm h b)
theorem iD.same{fn:Func}{mx:Nat}{args:List D}{k j i g:List (Option (List D))}{ns ns':List Nat}{d:D}(h:iD P Good fn mx args k ns d i ns')(o:∀b,k.getD b none=j.getD b none)(n:∀b,i.getD b none=g.getD b none):iD P Good fn mx args j ns d g ns':=by
 have I:(fun b=>k.getD b none)=fun b=>j.getD b none:=funext o
 have H:(fun b=>i.getD b none)=fun b=>g.getD b none:=funext n
 intro f B c w β X vals A z y x u t m s r a;rw[←I]at m;refine(h f B c w β X vals A z y x u t m s r fun d C b l=>?_).mono fun e K G=>?_
 ·rw[o];exact a d C b l
 ·obtain⟨v,q,J,rfl,p,F,E⟩:=G
  rw[H]at p;exact⟨v,q,J,rfl,p,F,fun b l=>by rw[←n];exact E b l⟩
theorem iD.pick{fn:Func}{args q:List D}{blks OA:List (Option (List D))}{ns ns1:List Nat}{d:D}{ob:Option (List D)}{N:Nat}(h:iD P Good fn 1 args blks ns d OA ns1)
  (E:OA.getD 0 none=some (q.map (D.jJ fun b=>if b=1 then N else b))) (C:OA.getD N none=ob) (hN0:N≠0) (B:∀x∈q,∀b,x.ref=some b→b=1) (m:∀cs,ob=some cs→∀x∈cs,x.ref=none) (J:d.refs=[]):
  iD P Good fn 1 args blks ns d [some q,ob] [0]:=by
 intro f hf c w β X vals Z Y W V U T S R Q z;refine(h f hf c w β X vals Z Y W V U T S R Q z).mono fun e w' fa=>?_
 obtain⟨v,L,X',rfl,g,hv,-⟩:=fa
 let ρ:Nat→Nat:=fun b=>if b=1 then N else b
 have I:ρ 0=0:=rfl;have H:ρ 1=N:=rfl;have G:∀{b cs},([some q,ob]:List (Option (List D))).getD b none=some cs→(OA.getD (ρ b) none).isSome=true∧(b=0∨b=1):=fun{b cs} a=>by
  rcases jh a with⟨rfl,-⟩|⟨rfl,i⟩
  ·exact⟨by rw[I,E];rfl,.inl rfl⟩
  ·exact⟨by rw[H,C,i];rfl,.inr rfl⟩
 refine⟨v,fun b=>L (ρ b),X',rfl,⟨g.defers,g.size,fun t=>.c (.p (.any _)),fun t b a=>by simp[D.refs]at a,fun b cs a=>?_,fun b cs a x A K l=>?_,fun b K a l e=>?_,g.F,g.vt,g.oE,g.below,fun p r=>?_,fun p r b a=>?_,⟨g.kp.obj,g.kp.x,g.kp.lt,fun k hk b a=>?_⟩⟩,.c (.p (hv.pure J)),fun b a=>by rw[J]at a;cases a⟩
 ·rcases jh a with⟨rfl,rfl⟩|⟨rfl,i⟩
  ·obtain⟨o,j,y,e,F,u,s⟩:=g.blk 0 _ E
   rw[alR]at u s;exact⟨o,j,y,e,F,u,s.Eo⟩
  ·obtain⟨o,j,y,e,F,u,s⟩:=g.blk N cs (C.trans i)
   exact⟨o,j,y,e,F,u,(s.pure (m cs i)).lq⟩
 ·rcases jh a with⟨rfl,rfl⟩|⟨rfl,i⟩
  ·obtain rfl:=B x A K l
   obtain⟨-,j⟩:=g.tB 0 _ E (x.jJ ρ) (anB A) N (by rw[xy,l];rfl)
   have n:(OA.getD N none).isSome=true:=j;rw[C]at n;exact⟨rfl,n⟩
  ·rw[m cs i x A]at l;cases l
 ·obtain⟨c1,e1⟩:=alL.1 a
  obtain⟨c2,e2⟩:=alL.1 l;obtain⟨a1,O⟩:=G e1;obtain⟨a2,M⟩:=G e2;have:=g.inj _ _ a1 a2 e;rcases O with rfl|rfl<;>rcases M with rfl|rfl<;>first|rfl|(rw[I,H]at this;omega)
 ·refine(g.gh p r).congr fun b a=>?_
  have:=(g.iY p r b a).1;obtain rfl:b=0:=by omega
  rfl
 ·obtain⟨o,j⟩:=g.iY p r b a
  obtain rfl:b=0:=by omega
  exact⟨o,rfl⟩
 ·obtain⟨cs,kC⟩:=alL.1 a
  exact g.kp.off k hk _ (G kC).1
def adj{α:Type}(f:List (de×de)→α)(o:Option (o_×List D×List (Option (List D))×List (Item P Good)×List (de×de))):Option (o_×List D×List (Option (List D))×α):=o.map fun o=>(o.1,o.2.1,o.2.2.1,f o.2.2.2.2)
theorem ak.aq(j:aa Good)(A:rM P Good){ro:List Nat}{gb m n:Nat}{k:Code}{s:St}{l:List (Nat×D)}{bl:List (Nat×List D)}{ns:List Nat}{e:o_}(i:s.tmps.length=n)(b:List (Item P Good))
  (h:adj CK (rz P m ro gb k s (.auto A::b) (l.map (·.1)) (bl.map (·.1)) ns)=some (e,l.map (·.2),bl.map (fun p=>some p.2),said b):=by kernel_rfl)
  (c:adj Nz (rz P m ro gb k s (.auto A::b) (l.map (·.1)) (bl.map (·.1)) ns)=adj FR (rz P m ro gb k s (.auto A::b) (l.map (·.1)) (bl.map (·.1)) ns):=by kernel_rfl):ak P Good gb k s e (lay n l bl ns):=by
 unfold adj at h c;cases a:rz P m ro gb k s (.auto A::b) (l.map (·.1)) (bl.map (·.1)) ns with
 |none=>rw[a]at h;cases h
 |some o=>
  obtain⟨z,v,B,t,u⟩:=o;rw[a]at h c;simp only[Option.map_some,zIq,zJq,true_and]at h c;obtain⟨rfl,rfl,rfl,h⟩:=h;unfold rz at a;split at a
  ·rename_i y s1 x w g
   split at a
   ·rename_i f
    simp only[zIq,zJq,List.map_map]at a;obtain⟨rfl,r,q,rfl,rfl⟩:=a;have d:=iO j m ro gb k s (.auto A::b) _ s1 _ _ g (zm h c);exact⟨s1,_,_,_,d,f,qu (d.1.trans i) r q⟩
   ·cases a
  ·cases a
end Lw
namespace Lw
open Go Go.RowKit Go.Proofs
namespace Tw
open fL
variable {G:World→Prop}
theorem Spec.loose{P:Program}{f:FuncId}{args:List D}{n:Nat}{xs:List D}(h:Spec P G f args (.row n true xs)):Spec P G f args (.row n false xs):=fun w F a i g d=>
 (h w F a i g d).mono fun e k j=>by
  obtain⟨v,rfl,b,c⟩:=j;exact⟨v,rfl,b.loose,c⟩
theorem Vj{m:Int}{ms:List Int}(h:(m::ms).length≤1000):0<(m::ms).length∧([]:List D).length=0*1∧((m::ms).map int).length=(m::ms).length*1∧0+(m::ms).length≤2^62∧(0+(m::ms).length)*8≤2^47:=by
 refine⟨by simp,rfl,by simp,by omega,by omega⟩
theorem bU(a:aa G)(ms:List Int)(h:ms.length≤1000):Spec zZq G 146 [kH ms] (kH ms):=by
 cases ms with
 |nil=>exact Spec.loose (Fb.kK a)
 |cons m ms=>
  have c:=Vj h;have b:Spec zZq G 146 [kH (m::ms)] (.row (0+(m::ms).length) false (((m::ms).map int).take ((0+(m::ms).length)*1))):=
   Spec.y a (ax []) func146 [] [.er 6 (kH (m::ms)),.prop c]
  have e:D.row (0+(m::ms).length) false (((m::ms).map int).take ((0+(m::ms).length)*1))=kH (m::ms):=by
   rw[amv,amH,al4 (by simp)];rfl
  rw[e]at b;exact b
theorem Spec.CX{P:Program}{f:FuncId}{args:List D}{n:Nat}{xs rest:List D}(h:Spec P G f args (.agg (.row n true xs::rest))):Spec P G f args (.agg (.row n false xs::rest)):=fun w F a k j g=>
 (h w F a k j g).mono fun e m l=>by
  obtain⟨v,rfl,b,d⟩:=l;refine⟨v,rfl,?_,d⟩;cases b with
  |agg us _ c b=>
   refine .agg us _ c fun i i1 i2=>?_
   have:=b i i1 (by simpa using i2)
   cases i with
   |zero=>exact cU.loose this
   |succ i=>exact this
def Cn(G:World→Prop)(x:List Rat):Prop:=Spec zZq G 147 [aA x] (aA x)
def ic(G:World→Prop)(b:Pl):Prop:=Cn G b.c∧Cn G b.s∧Cn G b.x∧Cn G b.y
theorem agy(b:aa G){t:aS}{n:Nat}{x:List Rat}(ok:me t)(h:aQ n t x)(a:n≤NB):Cn G x:=G6 b (alJ (h.len ok) (by omega)) (h.bt.fit a)
def cnI(b:aa G):(l:List (List Rat))→(∀r∈l,Cn G r)→List (Item zZq G)
 |[],_=>[]
 |r::l,h=>.call (h r (alW ..))::cnI b l fun x a=>h x (al_ _ a)
def plI(c:aa G):(l:List Pl)→(∀b∈l,ic G b)→List (Item zZq G)
 |[],_=>[]
 |b::l,h=>.call (h b (alW ..)).1:: .call (h b (alW ..)).2.1:: .call (h b (alW ..)).2.2.1:: .call (h b (alW ..)).2.2.2::plI c l fun x a=>h x (al_ _ a)
theorem aef(f:aa G){a:As}(n:2≤a.bs.length)(m:a.bs.length≤6)(i:a.t.length≤4)(u:a.ms.length≤1000)(s:∀r∈a.t,Cn G r)(l:∀b∈a.bs,ic G b):Spec zZq G 82 [b8 a] (b8 a):=by
 obtain⟨t,p,ms⟩:=a;have o:=bU f ms u;rcases ZT i with rfl|i
 ·have key:Spec zZq G 82 [b8 ⟨[],p,ms⟩] (.agg (.row 0 true []::[aU dw p,kH ms])):=by
   rcases KS n m with⟨d,c,rfl⟩|⟨d,c,e,rfl⟩|⟨d,c,e,g,rfl⟩|⟨d,c,e,g,j,rfl⟩|⟨d,c,e,g,j,v,rfl⟩<;>exact Spec.y f (ax [146,147]) func82 [11] (.call o::plI f _ l) (by kernel_rfl) (by kernel_rfl)
  exact Spec.CX key
 ·rcases i with⟨h,rfl⟩|⟨h,k,rfl⟩|⟨h,k,q,rfl⟩|⟨h,k,q,w,rfl⟩<;>rcases KS n m with⟨d,c,rfl⟩|⟨d,c,e,rfl⟩|⟨d,c,e,g,rfl⟩|⟨d,c,e,g,j,rfl⟩|⟨d,c,e,g,j,v,rfl⟩<;>exact Spec.y f (ax [146,147]) func82 [11] (.call o::(cnI f _ s++plI f _ l)) (by kernel_rfl) (by kernel_rfl)
theorem o8(a:As):(p_ a).length=3:=rfl
def wC(l:Lk)(xs:List Tn)(gs:List Gp)(a:D):List D:=EB l++[aU uI xs,aU iV gs,.lit (.func (.func 81) #[] #[]),bool false,a]
def wO(N:Nat):List As→D
 |[]=>.row 0 true []
 |o::os=>.cR N (o::os).length 3
def yt:List As→Option (List D)
 |[]=>none
 |o::os=>some ((o::os).flatMap p_)
abbrev EE(G:World→Prop)(l:Lk)(xs:List Tn)(gs:List Gp)(a:As)(o:List As)(d:D)(b:List As):Prop:=
 iD zZq G f35 1 [.ptr 0 0,b8 a] [some (wC l xs gs (wO 1 o)),yt o] [0] d [some (wC l xs gs (wO 1 b)),yt b] [0]
theorem mF{l:Lk}{xs:List Tn}{gs:List Gp}{o:List As}{N:Nat}:∀x∈wC l xs gs (wO N o),∀b,x.ref=some b→b=N:=by
 intro x c b a;simp only[wC,EB,List.cons_append,List.nil_append,List.mem_cons,List.not_mem_nil,or_false]at c;rcases c with rfl|rfl|rfl|rfl|rfl|rfl|rfl|rfl|rfl
 ·cases a
 ·cases a
 ·cases a
 ·cases a
 ·cases a
 ·cases a
 ·cases a
 ·cases a
 ·cases o with
  |nil=>cases a
  |cons y d=>simp only[wO,D.ref,Option.some.injEq]at a;exact a.symm
theorem kY{o:List As}:∀cs,yt o=some cs→∀x∈cs,x.ref=none:=by
 intro cs c x b;cases o with
 |nil=>cases c
 |cons y d=>
  simp only[yt,Option.some.injEq]at c;subst c;rw[anI]at b;obtain⟨a,-,b⟩:=b;simp only[p_,List.mem_cons,List.not_mem_nil,or_false]at b;rcases b with rfl|rfl|rfl<;>rfl
theorem oH{l:Lk}{xs:List Tn}{gs:List Gp}{o:List As}{ρ:Nat→Nat}:(wC l xs gs (wO 1 o)).map (D.jJ ρ)=wC l xs gs (wO (ρ 1) o):=by
 cases o<;>rfl
theorem aes{o:List As}{a:As}(h:o.length≤1000):(p_ a).all D.iq=true∧0<1∧(o.flatMap p_).length=o.length*3∧(p_ a).length=1*3∧o.length+1≤2^62∧(o.length+1)*72≤2^47:=by
 rw[fJ o8];exact⟨rfl,by omega,rfl,rfl,by omega,by omega⟩
theorem Ty{i j:Nat}(h:i=j):(zNq i==zNq j)=true:=gd h
theorem T5(e:aa G){l:Lk}{xs:List Tn}{gs:List Gp}{a:As}(o:List As)(h:o.length≤1000)(d:a.ms.length=gs.length)(f:Spec zZq G 82 [b8 a] (b8 a)):EE G l xs gs a o (.lit .nilIface) (o++[a]):=by
 cases o with
 |nil=>
  have c:iD zZq G f35 1 [.ptr 0 0,b8 a] [some (wC l xs gs (.row 0 true [])),none] [0] (.lit .nilIface) [some (wC l xs gs (.cR 3 1 3)),none,some (p_ a),some (p_ a)] [0,0]:=
   iD.m9 e (ax [82]) _ (ro:=[]) (m:=60) [.eb 21 (Ty d),.call f]
  exact c.pick (N:=3) (ob:=yt [a]) (by rw[oH];rfl) (by simp[yt]) (by omega) mF kY rfl
 |cons y b=>
  have g:=aes (a:=a) h;have c:iD zZq G f35 1 [.ptr 0 0,b8 a] [some (wC l xs gs (.cR 1 (y::b).length 3)),some ((y::b).flatMap p_)] [0] (.lit .nilIface) [some (wC l xs gs (.cR 1 ((y::b).length+1) 3)),some ((y::b).flatMap p_++p_ a),some (p_ a)] [0,0]:=
   iD.m9 e (ax [82]) _ (ro:=[]) (m:=60) [.eb 21 (Ty d),.call f,.prop g]
  refine c.pick (N:=1) (ob:=yt (y::b++[a])) ?_ ?_ (by omega) mF kY rfl
  ·rw[oH];simp[wO]
  ·simp[yt]
theorem vk(s:wK):(abw s).length=3:=rfl
instance:Inhabited wK:=⟨⟨[],[],0⟩⟩
def wB(l:Lk)(xs:List Tn)(gs:List Gp)(a:As)(g:Gp):List As→List (Nat×List D)
 |[]=>[(0,wC l xs gs (.row 0 true [])),(1,p_ a),(2,iV g)]
 |o::os=>[(0,wC l xs gs (.cR 3 (o::os).length 3)),(1,p_ a),(2,iV g),(3,(o::os).flatMap p_)]
def wL(l:Lk)(xs:List Tn)(gs:List Gp)(a:As)(g:Gp)(k:Nat)(ss:List wK)(o:List As)(i:Nat):St:=
 lay 85 [(0,.ptr 0 0),(3,.ptr 1 0),(5,nat k),(6,.ptr 2 0),(56,aU abw ss),(57,nat ss.length),(58,nat i)] (wB l xs gs a g o) [0]
def wE(l:Lk)(xs:List Tn)(gs:List Gp)(b:List (Nat×D)):List As→St
 |[]=>lay 85 b [(0,wC l xs gs (.row 0 true []))] [0]
 |o::os=>lay 85 b [(0,wC l xs gs (.cR 3 (o::os).length 3)),(3,(o::os).flatMap p_)] [0]
abbrev Sub(G:World→Prop)(l:Lk)(xs:List Tn)(gs:List Gp)(a:As)(g:Gp)(a2:As)(o:List As)(d:D)(o':List As):Prop:=
 iD zZq G f35 3 [.ptr 0 0,b8 a2] (pQ (wC l xs gs (wO 3 o)) [p_ a,iV g] (yt o)) [0] d (pQ (wC l xs gs (wO 3 o')) [p_ a,iV g] (yt o')) [0]
theorem EE.sub{l:Lk}{xs:List Tn}{gs:List Gp}{a2:As}{o o':List As}{d:D}(h:EE G l xs gs a2 o d o')(j:d.refs=[])(a:As)(g:Gp):Sub G l xs gs a g a2 o d o':=by
 have k:=iD.frame h mF mF kY kY (fun x c b f=>?_) j [p_ a,iV g] (fun cs e x c=>?_)
 ·rw[oH,oH]at k
  exact k
 ·simp only[List.mem_cons,List.not_mem_nil,or_false]at c
  rcases c with rfl|rfl
  ·simpa [D.refs]using f
  ·simp[b8,p_,D.refs,D.ref,aU,kH]at f
 ·simp only[List.mem_cons,List.not_mem_nil,or_false]at e
  rcases e with rfl|rfl
  ·simp only[p_,List.mem_cons,List.not_mem_nil,or_false]at c
   rcases c with rfl|rfl|rfl<;>rfl
  ·simp only[iV,List.mem_cons,List.not_mem_nil,or_false]at c
   rcases c with rfl|rfl|rfl|rfl<;>rfl
theorem Hr(l:List (Option (List D)))(b:Nat):l.getD b none=(l++[none]).getD b none:=by
 simp only[List.getD_eq_getElem?_getD];rcases ano b l.length with h|h|h
 ·rw[amp h]
 ·subst h;rw[alX (alE _),aml (alE _)];simp
 ·rw[alX (by omega),alX (by simp;omega)]
section
variable {l:Lk} {xs:List Tn} {gs:List Gp} {a a2:As} {g:Gp} {k i:Nat} {ss:List wK} {o o':List As}
theorem aie(f:aa G)(b:i<ss.length)(p:ss.length≤1000)(h:Spec zZq G 85 [b8 a,oF g,gq (ss.getD i default)] (b8 a2))(W:Sub G l xs gs a g a2 o (.lit .nilIface) o'):
  ak zZq G 1 (ah f35 0) (wL l xs gs a g k ss o i) .normal (wL l xs gs a g k ss o' (i+1)):=by
 have d:=aC vk (by omega) b
 have c:=av vk (by omega) b
 have e:=cg vk b default;cases o with
 |nil=>cases o' with
  |nil=>exact ak.aq f (ax [85,35]) (ro:=[2013010]) (m:=60) (af ..) [.eb 59 (ay b),.prop d,.prop c,.eq 61 e,.call h,.mE func35 W,.eq 84 (bQ (aI b (by omega)))]
  |cons y n=>exact ak.aq f (ax [85,35]) (ro:=[2013010]) (m:=60) (af ..) [.eb 59 (ay b),.prop d,.prop c,.eq 61 e,.call h,.mE func35 W,.eq 84 (bQ (aI b (by omega)))]
 |cons x q=>
  have j:=iD.same W (Hr _) (fun _=>rfl)
  cases o' with
  |nil=>exact ak.aq f (ax [85,35]) (ro:=[2013010]) (m:=60) (af ..) [.eb 59 (ay b),.prop d,.prop c,.eq 61 e,.call h,.mE func35 j,.eq 84 (bQ (aI b (by omega)))]
  |cons y n=>exact ak.aq f (ax [85,35]) (ro:=[2013010]) (m:=60) (af ..) [.eb 59 (ay b),.prop d,.prop c,.eq 61 e,.call h,.mE func35 j,.eq 84 (bQ (aI b (by omega)))]
theorem afF(f:aa G)(b:i<ss.length)(_:ss.length≤1000)(h:Spec zZq G 85 [b8 a,oF g,gq (ss.getD i default)] (b8 a2))(W:Sub G l xs gs a g a2 o (e_ 15) o'):
  ak zZq G 1 (ah f35 0) (wL l xs gs a g k ss o i) .ret (wE l xs gs [(4,e_ 15)] o'):=by
 have d:=aC vk (by omega) b
 have c:=av vk (by omega) b
 have e:=cg vk b default;cases o with
 |nil=>cases o' with
  |nil=>exact ak.aq f (ax [85,35]) (ro:=[2013010]) (m:=60) (af ..) [.eb 59 (ay b),.prop d,.prop c,.eq 61 e,.call h,.mE func35 W]
  |cons y n=>exact ak.aq f (ax [85,35]) (ro:=[2013010]) (m:=60) (af ..) [.eb 59 (ay b),.prop d,.prop c,.eq 61 e,.call h,.mE func35 W]
 |cons x q=>
  have j:=iD.same W (Hr _) (fun _=>rfl)
  cases o' with
  |nil=>exact ak.aq f (ax [85,35]) (ro:=[2013010]) (m:=60) (af ..) [.eb 59 (ay b),.prop d,.prop c,.eq 61 e,.call h,.mE func35 j]
  |cons y n=>exact ak.aq f (ax [85,35]) (ro:=[2013010]) (m:=60) (af ..) [.eb 59 (ay b),.prop d,.prop c,.eq 61 e,.call h,.mE func35 j]
theorem afG(b:aa G):ak zZq G 1 (ah f35 0) (wL l xs gs a g k ss o ss.length) (.exit 0) (wE l xs gs [] o):=by
 cases o<;>exact ak.r b [.eb 59 (aH (alE ss.length))]
end
def qJ(xs:List Tn)(g:Gp):Tn:=if g.kind=0 then xs.getD g.dr ⟨0,false⟩else⟨0,false⟩
theorem adJ{k:Nat}(h:k≠0):(zNq k !=zNq 0)=true:=by simp;omega
theorem Mg(c:aa G){l:Lk}{xs:List Tn}{gs:List Gp}{g:Gp}(o:g.kind=0→g.dr<xs.length){z:D}(b:z=.row 0 true []∨∃v,z=.lit v):
  fF zZq G f84 [.ptr 0 0,oF g] (wC l xs gs z) (EF (qJ xs g)) (wC l xs gs z):=by
 by_cases h:g.kind=0
 ·have a:=o h
  obtain⟨k,p,n,d⟩:=g;have h:k=0:=h;subst h;have e:qJ xs ⟨0,p,n,d⟩=xs.getD d ⟨0,false⟩:=rfl;rw[e];have j:=aC zg (by omega) a
  have i:=av zg (by omega) a
  have f:=cg zg a ⟨0,false⟩;rcases b with rfl|⟨v,rfl⟩<;>exact fF.aq c (ax []) _ (ro:=[]) (m:=60) [.er 14 (nat d),.prop j,.prop i,.eq 16 f]
 ·have e:qJ xs g=⟨0,false⟩:=apA h
  rw[e];rcases b with rfl|⟨v,rfl⟩<;>exact fF.aq c (ax []) _ (ro:=[]) (m:=60) [.eb 7 (adJ h)]
theorem mN(d:aa G){l:Lk}{xs:List Tn}{gs:List Gp}{g:Gp}(c:g.kind=0→g.dr<xs.length){z:D}(f:z=.row 0 true []∨∃b n k,z=.cR b n k):
  ∀vs:List Value,vs.length=(wC l xs gs z).length→fF zZq G f84 [.ptr 0 0,oF g] (pg (wC l xs gs z) vs) (EF (qJ xs g)) (pg (wC l xs gs z) vs):=by
 intro vs a
 match vs,a with
 |[v0,v1,v2,j,v4,i,v6,h,e],_=>
  rcases f with rfl|⟨b,n,k,rfl⟩
  ·exact Mg d c (.inl rfl)
  ·exact Mg d c (.inr ⟨e,rfl⟩)
def As.put(a:As)(g:Gp)(s:wK):As:=
 match g.bs,s.ps with
 |[b],[p]=>a.CF b p s.T s.mode
 |[b,c],[p,q]=>a.xz b c p q s.T s.mode
 |_,_=>a
def r9(f:As→List As→List As×Bool)(a:As)(g:Gp):List wK→List As→List As×Bool
 |[],o=>(o,true)
 |s::ss,o=>match f (a.put g s) o with
  |(o1,true)=>r9 f a g ss o1
  |(o1,false)=>(o1,false)
noncomputable def qW(l:Lk)(xs:List Tn):List Gp→As→List As→List As×Bool
 |[],a,o=>(o++[a],true)
 |g::gs,a,o=>match ot l a g (qJ xs g)with
  |none=>(o,false)
  |some ss=>r9 (qW l xs gs) a g ss o
def MO:Bool→D
 |true=>.lit .nilIface
 |false=>e_ 15
def aaZ(l:Lk)(xs:List Tn)(gs:List Gp):List As×Bool→o_×St
 |(o,true)=>(.exit 0,wE l xs gs [] o)
 |(o,false)=>(.ret,wE l xs gs [(4,e_ 15)] o)
theorem ad7(l:Lk)(xs:List Tn)(gs:List Gp)(r:List As×Bool):(aaZ l xs gs r).1≠.normal:=by
 obtain⟨o,b⟩:=r;cases b<;>(intro h;cases h)
theorem EE.err{l:Lk}{xs:List Tn}{gs:List Gp}{a:As}{o c:List As}{b:Bool}(h:EE G l xs gs a o (MO b) c)(a0:As)(g:Gp):Sub G l xs gs a0 g a o (MO b) c:=h.sub (by cases b<;>rfl) a0 g
theorem Dd{α:Type}{l:List α}{i:Nat}(h:i<l.length)(d:α):l.drop i=l.getD i d::l.drop (i+1):=by
 rw[am1 h];congr 1;rw[alD,alK h];rfl
theorem T4(e:aa G){l:Lk}{xs:List Tn}{gs:List Gp}{a:As}{g:Gp}{k:Nat}{ss:List wK}{f:As→List As→List As×Bool}{M B:Nat}(j:ss.length≤1000)
  (sub:∀s∈ss,Spec zZq G 85 [b8 a,oF g,gq s] (b8 (a.put g s))∧∀o,o.length+M≤B→EE G l xs gs (a.put g s) o (MO (f (a.put g s) o).2) (f (a.put g s) o).1∧(f (a.put g s) o).1.length≤o.length+M)
  (o:List As) (w:o.length+ss.length*M≤B):
  bT zZq G 85 1 (.loop (ah f35 0)) (wL l xs gs a g k ss o 0) (aaZ l xs gs (r9 f a g ss o)).1 (aaZ l xs gs (r9 f a g ss o)).2:=by
 have fin:∀r,r=r9 f a g ss o→bT zZq G 85 1 (.loop (ah f35 0)) (wL l xs gs a g k ss o 0) (aaZ l xs gs r).1 (aaZ l xs gs r).2:=by
  intro r t;refine bT.Km (ι:=Nat×List As) (fun p=>p.1≤ss.length∧r9 f a g (ss.drop p.1) p.2=r∧p.2.length+(ss.length-p.1)*M≤B) (fun p=>wL l xs gs a g k ss p.2 p.1) (fun p=>ss.length-p.1) (fun p=>af ..) (ad7 l xs gs r) (fun p u=>?_) (0,o) ⟨amd _,by rw[amS];exact t.symm,by simpa using w⟩
  obtain⟨i,o⟩:=p;obtain⟨m,b,x⟩:=u;simp only at m b x;rcases alU i ss.length with c|c
  ·have q:ss.getD i default∈ss:=aN c _
   obtain⟨n,hw⟩:=sub _ q;have hm:(ss.length-i)*M=(ss.length-(i+1))*M+M:=by
    rw[show ss.length-i=(ss.length-(i+1))+1 by omega,amL]
   obtain⟨d,h⟩:=hw o (by omega)
   rw[Dd c default]at b;simp only[r9]at b;cases v:f (a.put g (ss.getD i default)) o with
   |mk o1 y=>
    rw[v]at d h b;cases y with
    |true=>
     refine .inl ⟨(i+1,o1),⟨c,b,?_⟩,?_,(aie e c j n (d.err a g)).XH⟩
     ·simp only at h⊢;omega
     ·show ss.length-(i+1)<ss.length-i;omega
    |false=>
     simp only at b;subst b;exact .inr (afF e c j n (d.err a g)).XH
  ·obtain rfl:i=ss.length:=anS m c
   rw[aoS]at b;simp only[r9]at b;subst b;exact .inr (afG e).XH
 exact fin _ rfl
theorem pZ{i j:Nat}(h:i<j):(zNq i==zNq j)=false:=by
 rw[beq_eq_false_iff_ne];intro e;have:(i:Int)=(j:Int):=e;omega
theorem apT(N:Nat)(o:List As):wO N o=.row 0 true []∨∃b n k,wO N o=.cR b n k:=by
 cases o
 ·exact .inl rfl
 ·exact .inr ⟨_,_,_,rfl⟩
section
variable {l:Lk} {xs:List Tn} {gs:List Gp} {a:As} {g:Gp} {ss:List wK} {o o':List As}
theorem afI(c:aa G)(b:a.ms.length<gs.length)(j:gs.getD a.ms.length default=g)(k:g.kind=0→g.dr<xs.length)(f:Spec zZq G 83 [g7 l,nat a.ms.length,EF (qJ xs g),b8 a] (HV none)):EE G l xs gs a o (e_ 15) o:=by
 have i:=aC gT (by omega) b
 have h:=av gT (by omega) b
 have e:=cg gT b default;rw[j]at e;have d:=mN (l:=l) (gs:=gs) c k (apT 1 o);refine iD.pick (OA:=[some (wC l xs gs (wO 1 o)),yt o,some (p_ a),some (iV g)]) (ns1:=[0]) (N:=1) (ob:=yt o) ?_ (by rw[oH (o:=o)];rfl) rfl (by omega) mF kY rfl
 cases o<;>exact iD.m9 c (ax [83,84]) _ (ro:=[]) (m:=60) [.eb 21 (pZ b),.er 37 (nat a.ms.length),.prop i,.prop h,.eq 39 e,.wY func84 d,.call f]
theorem aih(d:aa G)(b:a.ms.length<gs.length)(n:gs.getD a.ms.length default=g)(p:g.kind=0→g.dr<xs.length)(h:Spec zZq G 83 [g7 l,nat a.ms.length,EF (qJ xs g),b8 a] (HV (some ss)))
  (k:bT zZq G 85 1 (.loop (ah f35 0)) (wL l xs gs a g a.ms.length ss o 0) (.exit 0) (wE l xs gs [] o')):EE G l xs gs a o (.lit .nilIface) o':=by
 have j:=aC gT (by omega) b
 have i:=av gT (by omega) b
 have e:=cg gT b default;rw[n]at e;have f:=mN (l:=l) (gs:=gs) d p (apT 1 o);cases o' with
 |nil=>
  refine iD.pick (OA:=[some (wC l xs gs (wO 1 []))]) (ns1:=[0]) (N:=1) (ob:=yt []) ?_ (by rw[oH (o:=[])];rfl) rfl (by omega) mF kY rfl
  cases o<;>exact iD.m9 d (ax [83,84]) _ (ro:=[]) (m:=60) [.eb 21 (pZ b),.er 37 (nat a.ms.length),.prop j,.prop i,.eq 39 e,.wY func84 f,.call h,.code (bT.uG [(1,2),(2,3)] (by decide) k)]
 |cons z c=>
  refine iD.pick (OA:=[some (wC l xs gs (wO 3 (z::c))),none,none,yt (z::c)]) (ns1:=[0]) (N:=3) (ob:=yt (z::c)) ?_ (by rw[oH (o:=z::c)];rfl) rfl (by omega) mF kY rfl
  cases o<;>exact iD.m9 d (ax [83,84]) _ (ro:=[]) (m:=60) [.eb 21 (pZ b),.er 37 (nat a.ms.length),.prop j,.prop i,.eq 39 e,.wY func84 f,.call h,.code (bT.uG [(1,2),(2,3)] (by decide) k)]
theorem afJ(d:aa G)(b:a.ms.length<gs.length)(n:gs.getD a.ms.length default=g)(p:g.kind=0→g.dr<xs.length)(h:Spec zZq G 83 [g7 l,nat a.ms.length,EF (qJ xs g),b8 a] (HV (some ss)))
  (k:bT zZq G 85 1 (.loop (ah f35 0)) (wL l xs gs a g a.ms.length ss o 0) .ret (wE l xs gs [(4,e_ 15)] o')):EE G l xs gs a o (e_ 15) o':=by
 have j:=aC gT (by omega) b
 have i:=av gT (by omega) b
 have e:=cg gT b default;rw[n]at e;have f:=mN (l:=l) (gs:=gs) d p (apT 1 o);cases o' with
 |nil=>
  refine iD.pick (OA:=[some (wC l xs gs (wO 1 []))]) (ns1:=[0]) (N:=1) (ob:=yt []) ?_ (by rw[oH (o:=[])];rfl) rfl (by omega) mF kY rfl
  cases o<;>exact iD.m9 d (ax [83,84]) _ (ro:=[]) (m:=60) [.eb 21 (pZ b),.er 37 (nat a.ms.length),.prop j,.prop i,.eq 39 e,.wY func84 f,.call h,.code (bT.uG [(1,2),(2,3)] (by decide) k)]
 |cons z c=>
  refine iD.pick (OA:=[some (wC l xs gs (wO 3 (z::c))),none,none,yt (z::c)]) (ns1:=[0]) (N:=3) (ob:=yt (z::c)) ?_ (by rw[oH (o:=z::c)];rfl) rfl (by omega) mF kY rfl
  cases o<;>exact iD.m9 d (ax [83,84]) _ (ro:=[]) (m:=60) [.eb 21 (pZ b),.er 37 (nat a.ms.length),.prop j,.prop i,.eq 39 e,.wY func84 f,.call h,.code (bT.uG [(1,2),(2,3)] (by decide) k)]
end
structure Road(G:World→Prop)(l:Lk)(xs:List Tn)(gs:List Gp)(Q:Nat→As→Prop):Prop where
 len:∀k a,Q k a→a.ms.length=k∧k≤gs.length
 leaf:∀a,Q gs.length a→Spec zZq G 82 [b8 a] (b8 a)
 dr:∀k,k<gs.length→(gs.getD k default).kind=0→(gs.getD k default).dr<xs.length
 sol:∀k a,Q k a→k<gs.length→Spec zZq G 83 [g7 l,nat k,EF (qJ xs (gs.getD k default)),b8 a] (HV (ot l a (gs.getD k default) (qJ xs (gs.getD k default))))
 two:∀k a,Q k a→k<gs.length→∀ss,ot l a (gs.getD k default) (qJ xs (gs.getD k default))=some ss→ss.length≤2
 next:∀k a,Q k a→k<gs.length→∀ss,ot l a (gs.getD k default) (qJ xs (gs.getD k default))=some ss→∀s∈ss,Spec zZq G 85 [b8 a,oF (gs.getD k default),gq s] (b8 (a.put (gs.getD k default) s))∧Q (k+1) (a.put (gs.getD k default) s)
theorem Iz{f:As→List As→List As×Bool}{a:As}{g:Gp}{M B:Nat}:∀{ss:List wK}{o:List As},(∀s∈ss,∀o,o.length+M≤B→(f (a.put g s) o).1.length≤o.length+M)→o.length+ss.length*M≤B→(r9 f a g ss o).1.length≤o.length+ss.length*M
 |[],o,_,_=>by simp[r9]
 |s::ss,o,h,j=>by
  rw[amm,amL]at j⊢;have c:=h s (alW ..) o (by omega)
  simp only[r9];cases i:f (a.put g s) o with
  |mk o1 b=>
   rw[i]at c;simp only at c;cases b with
   |true=>
    have:=Iz (ss:=ss) (o:=o1) (fun d e=>h d (al_ _ e)) (by omega)
    simp only;omega
   |false=>simp only;omega
theorem L8(e:aa G){l:Lk}{xs:List Tn}{gs:List Gp}{Q:Nat→As→Prop}(R:Road G l xs gs Q):∀(n k:Nat)(a:As),Q k a→gs.length-k=n→∀o:List As,o.length+2^n≤1000→
  EE G l xs gs a o (MO (qW l xs (gs.drop k) a o).2) (qW l xs (gs.drop k) a o).1∧(qW l xs (gs.drop k) a o).1.length≤o.length+2^n
 |0,k,a,q,y,o,A=>by
  obtain⟨j,C⟩:=R.len k a q;obtain rfl:k=gs.length:=by omega
  rw[aoS];refine⟨T5 e o (by omega) j (R.leaf a q),?_⟩
  simp[qW]
 |n+1,k,a,q,y,o,A=>by
  obtain⟨j,C⟩:=R.len k a q;have d:k<gs.length:=by omega
  have F:2^(n+1)=2*2^n:=by rw[al5];omega
  have D:gs.drop k=gs.getD k default::gs.drop (k+1):=Dd d default;have c:=R.sol k a q d;have w:=R.two k a q d;have i:=R.next k a q d
  have p:=R.dr k d;rw[D];generalize z:gs.getD k default=g at c w i p⊢;have u:a.ms.length<gs.length:=by rw[j];exact d
  have v:gs.getD a.ms.length default=g:=by rw[j];exact z
  rw[←j]at c;simp only[qW];cases m:ot l a g (qJ xs g)with
  |none=>
   rw[m]at c;exact⟨afI e u v p c,aoA _ _⟩
  |some ss=>
   rw[m]at c;have t2:=w ss m;have i:=i ss m;have sub:∀s∈ss,Spec zZq G 85 [b8 a,oF g,gq s] (b8 (a.put g s))∧∀o,o.length+2^n≤1000→EE G l xs gs (a.put g s) o (MO (qW l xs (gs.drop (k+1)) (a.put g s) o).2) (qW l xs (gs.drop (k+1)) (a.put g s) o).1∧(qW l xs (gs.drop (k+1)) (a.put g s) o).1.length≤o.length+2^n:=
    fun s h=>⟨(i s h).1,fun o t=>L8 e R n (k+1) _ (i s h).2 (by omega) o t⟩
   have hm:ss.length*2^n≤2*2^n:=alV _ t2;have r:=T4 (k:=a.ms.length) e (by omega) sub o (B:=1000) (M:=2^n) (by omega)
   have x:=Iz (f:=qW l xs (gs.drop (k+1))) (a:=a) (g:=g) (B:=1000) (M:=2^n) (ss:=ss) (o:=o) (fun s h o t=>((sub s h).2 o t).2) (by omega)
   simp only;cases hw:r9 (qW l xs (gs.drop (k+1))) a g ss o with
   |mk E b=>
    rw[hw]at r x;simp only at x⊢;cases b with
    |true=>exact⟨aih e u v p c r,by omega⟩
    |false=>exact⟨afJ e u v p c r,by omega⟩
end Tw
end Lw
namespace Lw
open Go Go.RowKit Go.Proofs
theorem iD.b_{P:Program}{Good:World→Prop}{fn:Func}{mx:Nat}{args:List D}{blks blks':List (Option (List D))}{ns ns':List Nat}{d:D}(h:iD P Good fn mx args blks ns d blks' ns')(t:∀b cs,blks.getD b none=some cs→∀x∈cs,x.ref=none):iD P Good fn mx args blks [] d blks' ns':=by
 intro f r c w β X vals p o n m l k a j i e;refine h f r c w β X vals p o n m l k ⟨a.defers,a.size,a.tmp,a.nd,a.blk,fun b cs s x q u g=>?_,a.inj,a.F,a.vt,a.oE,a.below,a.gh,a.iY,⟨a.kp.obj,a.kp.x,a.kp.lt,a.kp.off⟩⟩ j i e
 rw[t b cs s x q]at g;cases g
namespace Tw
open fL
variable {G:World→Prop}
def pl0:Pl:=⟨[],[],[],[]⟩
def dt(n:Nat):As:=⟨[],⟨iF ((1:Int):Rat),[],[],[]⟩::List.replicate (n-1) pl0,[]⟩
def uu:List FuncId:=[47,38,36,35,28,86]
def HT:FuncId→List Nat:=fun f=>if f=34 then [997,41]else []
theorem acF(a:aa G){nm:ByteArray}{c:Bd}{b:List Jt}{ds:List Dr}{xs:List Tn}{gs:List Gp}:fF zZq G f36 [.ptr 0 0] (wC ⟨nm,[c],b,ds⟩ xs gs (.row 0 true [])) (b8 (dt 1)) (wC ⟨nm,[c],b,ds⟩ xs gs (.row 0 true [])):=
 fF.aq a (ax uu HT) _ (ro:=[998]) (m:=60) [.call (dA a (i:=1) (by omega) (by omega)),.call (dG a tJ)]
theorem acE(a:aa G){nm:ByteArray}{d c:Bd}{b:List Jt}{ds:List Dr}{xs:List Tn}{gs:List Gp}:fF zZq G f36 [.ptr 0 0] (wC ⟨nm,[d,c],b,ds⟩ xs gs (.row 0 true [])) (b8 (dt 2)) (wC ⟨nm,[d,c],b,ds⟩ xs gs (.row 0 true [])):=
 fF.aq a (ax uu HT) _ (ro:=[998]) (m:=60) [.call (dA a (i:=1) (by omega) (by omega)),.call (dG a tJ)]
theorem acD(a:aa G){nm:ByteArray}{e d c:Bd}{b:List Jt}{ds:List Dr}{xs:List Tn}{gs:List Gp}:fF zZq G f36 [.ptr 0 0] (wC ⟨nm,[e,d,c],b,ds⟩ xs gs (.row 0 true [])) (b8 (dt 3)) (wC ⟨nm,[e,d,c],b,ds⟩ xs gs (.row 0 true [])):=
 fF.aq a (ax uu HT) _ (ro:=[998]) (m:=60) [.call (dA a (i:=1) (by omega) (by omega)),.call (dG a tJ)]
theorem acC(a:aa G){nm:ByteArray}{f e d c:Bd}{b:List Jt}{ds:List Dr}{xs:List Tn}{gs:List Gp}:fF zZq G f36 [.ptr 0 0] (wC ⟨nm,[f,e,d,c],b,ds⟩ xs gs (.row 0 true [])) (b8 (dt 4)) (wC ⟨nm,[f,e,d,c],b,ds⟩ xs gs (.row 0 true [])):=
 fF.aq a (ax uu HT) _ (ro:=[998]) (m:=60) [.call (dA a (i:=1) (by omega) (by omega)),.call (dG a tJ)]
theorem acB(a:aa G){nm:ByteArray}{g f e d c:Bd}{b:List Jt}{ds:List Dr}{xs:List Tn}{gs:List Gp}:fF zZq G f36 [.ptr 0 0] (wC ⟨nm,[g,f,e,d,c],b,ds⟩ xs gs (.row 0 true [])) (b8 (dt 5)) (wC ⟨nm,[g,f,e,d,c],b,ds⟩ xs gs (.row 0 true [])):=
 fF.aq a (ax uu HT) _ (ro:=[998]) (m:=60) [.call (dA a (i:=1) (by omega) (by omega)),.call (dG a tJ)]
theorem acA(a:aa G){nm:ByteArray}{h g f e d c:Bd}{b:List Jt}{ds:List Dr}{xs:List Tn}{gs:List Gp}:fF zZq G f36 [.ptr 0 0] (wC ⟨nm,[h,g,f,e,d,c],b,ds⟩ xs gs (.row 0 true [])) (b8 (dt 6)) (wC ⟨nm,[h,g,f,e,d,c],b,ds⟩ xs gs (.row 0 true [])):=
 fF.aq a (ax uu HT) _ (ro:=[998]) (m:=60) [.call (dA a (i:=1) (by omega) (by omega)),.call (dG a tJ)]
theorem ag3{α:Type}{l:List α}(d:1≤l.length)(c:l.length≤6):(∃a,l=[a])∨2≤l.length:=by
 match l,d,c with
 |[a],_,_=>exact .inl ⟨a,rfl⟩
 |a::b::l,_,_=>exact .inr (by simp)
theorem acz(a:aa G){l:Lk}{xs:List Tn}{gs:List Gp}(h:1≤l.bs.length)(e:l.bs.length≤6):fF zZq G f36 [.ptr 0 0] (wC l xs gs (.row 0 true [])) (b8 (dt l.bs.length)) (wC l xs gs (.row 0 true [])):=by
 obtain⟨j,n,k,m⟩:=l;rcases ag3 h e with⟨b,rfl⟩|g
 ·exact acF a
 ·rcases KS g e with⟨b,c,rfl⟩|⟨b,c,d,rfl⟩|⟨b,c,d,f,rfl⟩|⟨b,c,d,f,i,rfl⟩|⟨b,c,d,f,i,o,rfl⟩
  ·exact acE a
  ·exact acD a
  ·exact acC a
  ·exact acB a
  ·exact acA a
theorem Ws(c:aa G){a:Pl}{ms:List Int}(d:ms.length≤1000)(b:ic G a):Spec zZq G 82 [b8 ⟨[],[a],ms⟩] (b8 ⟨[],[a],ms⟩):=
 Spec.CX (n:=0) (xs:=[]) (rest:=[aU dw [a],kH ms]) (show Spec zZq G 82 [b8 ⟨[],[a],ms⟩] (.agg (.row 0 true []::[aU dw [a],kH ms]))from
 Spec.y c (ax [146,147]) func82 [11] [.call (bU c ms d),.call b.1,.call b.2.1,.call b.2.2.1,.call b.2.2.2])
def aew:List As×Bool→D
 |(o,true)=>.aY [aU p_ o,.lit .nilIface]
 |(_,false)=>.aY [.row 0 false [],e_ 15]
end Tw
end Lw
namespace Lw
open Go Go.RowKit Go.Proofs
namespace Tw
open fL
variable {G:World→Prop}
def Pz(G:World→Prop)(x:Tn):Prop:=Spec zZq G 38 [EF x] (.lit .nilIface)
theorem ZU{α:Type}{l:List α}(h:l.length≤2):l=[]∨(∃a,l=[a])∨∃a b,l=[a,b]:=by
 match l,h with
 |[],_=>exact .inl rfl
 |[a],_=>exact .inr (.inl ⟨a,rfl⟩)
 |[a,b],_=>exact .inr (.inr ⟨a,b,rfl⟩)
theorem ahY(a:aa G){l:Lk}{xs:List Tn}(b:xs.length≤2)(sp:Spec zZq G 47 [g7 l] (.aY [.row 0 false [],e_ 7])):Spec zZq G 9 [g7 l,aU uI xs] (.aY [.row 0 false [],e_ 7]):=by
 rcases ZU b with rfl|⟨x0,rfl⟩|⟨x0,c,rfl⟩<;>exact Spec.y a (ax uu HT) func9 [2] [.call sp]
def apX:List As→Bool→D
 |[],true=>.aY [.row 0 false [],.lit .nilIface]
 |z::a,true=>.aY [.row (z::a).length false (((z::a).flatMap p_).take ((z::a).length*3)),.lit .nilIface]
 |[],false=>.aY [.row 0 false [],e_ 15]
 |_::_,false=>.aY [.row 0 false [],e_ 15]
theorem apU(o:List As)(b:Bool):aew (o,b)=apX o b:=by
 have key:(o.flatMap p_).take (o.length*3)=o.flatMap p_:=by
  rw[al4];rw[fJ o8];omega
 cases o<;>cases b<;>first|rfl|(simp only[apX];rw[key];rfl)
theorem ajY(d:aa G){l:Lk}{xs:List Tn}{gs:List Gp}{r:List As×Bool}(sp:Spec zZq G 47 [g7 l] (.aY [aU iV gs,.lit .nilIface]))(c:xs.length=l.ds.length)(p:xs.length≤2)(e:∀x∈xs,Pz G x)(q:1≤l.bs.length)(n:l.bs.length≤6)
  (W:EE G l xs gs (dt l.bs.length) [] (MO r.2) r.1):Spec zZq G 9 [g7 l,aU uI xs] (aew r):=by
 have st:=acz (xs:=xs) (gs:=gs) d q n;obtain⟨a,b⟩:=r;have f:iD zZq G f35 1 [.ptr 0 0,b8 (dt l.bs.length)] [some (wC l xs gs (.row 0 true []))] [] (MO b) [some (wC l xs gs (wO 1 a)),yt a] [0]:=by
  have j:iD zZq G f35 1 [.ptr 0 0,b8 (dt l.bs.length)] [some (wC l xs gs (.row 0 true []))] [0] (MO b) [some (wC l xs gs (wO 1 a)),yt a] [0]:=
   iD.same W (fun b=>(Hr [some (wC l xs gs (.row 0 true []))] b).symm) (fun _=>rfl)
  refine j.b_ fun b cs h x c=>?_
  have m:b=0:=by
   cases b with
   |zero=>rfl
   |succ b=>simp at h
  subst m;obtain rfl:=amq h;cases g:x.ref with
  |none=>rfl
  |some k=>
   exfalso;have:=mF (o:=[]) (N:=1) x c k g;have:=mF (o:=[]) (N:=2) x c k g;omega
 rw[apU];rcases ZU p with rfl|⟨x0,rfl⟩|⟨x0,i,rfl⟩
 ·cases a<;>cases b<;>exact Spec.y d (ax uu HT) func9 [2] [.call sp,.eb 24 (fO c),.aT func36 st,.mE func35 f]
 ·cases a<;>cases b<;>exact Spec.y d (ax uu HT) func9 [2] [.call sp,.eb 24 (fO c),.call (e x0 (by simp)),.aT func36 st,.mE func35 f]
 ·cases a<;>cases b<;>exact Spec.y d (ax uu HT) func9 [2] [.call sp,.eb 24 (fO c),.call (e x0 (by simp)),.call (e i (by simp)),.aT func36 st,.mE func35 f]
theorem abe(a:aa G){l:Lk}{xs:List Tn}{o:List As}(h:Spec zZq G 9 [g7 l,aU uI xs] (aew (o,true))):Spec zZq G 10 [g7 l,aU uI xs] (.aY [nat o.length,.lit .nilIface]):=
 Spec.y a (ax [9]) func10 [2] [.call h]
end Tw
end Lw
namespace Lw
open Go Go.RowKit Go.Proofs
namespace Tw
open fL
def Ck(l:Lk)(gs:List Gp)(k:Nat):Fn:=(gs.take k).foldl Fn.add (wV l)
structure Path(l:Lk)(gs:List Gp):Prop where
 step:∀k,k<gs.length→rL l (Ck l gs k) (gs.getD k default)
theorem yp.list{l:Lk}{s t:Fn}(h:yp l s t):∃new,t.gs=s.gs++new∧t=new.foldl Fn.add s∧∀k,k<new.length→rL l ((new.take k).foldl Fn.add s) (new.getD k default):=by
 induction h with
 |stop h=>exact⟨[],by simp,rfl,fun k a=>by simp at a⟩
 |step h r b=>
  rename_i s t g;obtain⟨new,e,d,c⟩:=b;refine⟨g::new,?_,d,fun k a=>?_⟩
  ·rw[e];show(s.gs++[g])++new=_;simp
  ·cases k with
   |zero=>exact Bw h
   |succ k=>exact c k (by simpa using a)
theorem yp.path{l:Lk}{t:Fn}(h:yp l (wV l) t):Path l t.gs∧t=Ck l t.gs t.gs.length:=by
 obtain⟨new,c,b,a⟩:=h.list;have e:t.gs=new:=by rw[c];rfl
 rw[e];exact⟨⟨a⟩,by rw[Ck,ank];exact b⟩
theorem uO{l:Lk}{gs:List Gp}{k:Nat}(h:k<gs.length):Ck l gs (k+1)=(Ck l gs k).add (gs.getD k default):=by
 unfold Ck;have e:gs.take (k+1)=gs.take k++[gs.getD k default]:=by
  rw[aob,alD,alK h];rfl
 rw[e,am9];rfl
theorem Ab(l:Lk)(gs:List Gp):∀k,k≤gs.length→pT l (Ck l gs k)
 |0,_=>by rw[Ck,am'];exact wh l
 |k+1,h=>by rw[uO (by omega)];exact(Ab l gs k (by omega)).add _
theorem A9(m:List Bool)(i j:Nat):(m.set i true).getD j false=if i=j∧i<m.length then true else m.getD j false:=by
 rw[alD,alD,aot];by_cases h:i=j
 ·subst h
  by_cases a:i<m.length
  ·simp[a]
  ·simp[a]
 ·simp[h]
theorem BA:∀(c:List Nat)(m:List Bool)(j:Nat),(ei m c).getD j false=true↔m.getD j false=true∨(j∈c∧j<m.length)
 |[],m,j=>by simp[ei]
 |i::c,m,j=>by
  show(ei (m.set i true) c).getD j false=true↔_;rw[BA c,A9,amf,alM];by_cases h:i=j∧i<m.length
  ·obtain⟨rfl,b⟩:=h
   simp[b]
  ·rw[apA h]
   constructor
   ·rintro(a|⟨a,b⟩)
    ·exact .inl a
    ·exact .inr ⟨.inr a,b⟩
   ·rintro(a|⟨rfl|a,b⟩)
    ·exact .inl a
    ·exact apC ⟨rfl,b⟩ h
    ·exact .inr ⟨a,b⟩
theorem D':∀(a:List Nat)(m:List Bool),a.Nodup→(∀i∈a,i<m.length∧m.getD i false=false)→(ei m a).count false+a.length≤m.count false
 |[],m,_,_=>alE _
 |i::a,m,b,h=>by
  obtain⟨k,g⟩:=h i (alW ..);have n:=(count_set m i).2 k g;rw[List.nodup_cons]at b;have l:=D' a (m.set i true) b.2 fun j c=>by
   obtain⟨f,d⟩:=h j (al_ _ c);refine⟨by rw[amf];exact f,?_⟩
   rw[A9,apA (fun e:i=j∧i<m.length=>b.1 (e.1▸c))];exact d
  show(ei (m.set i true) a).count false+(a.length+1)≤_;omega
def yj(l:Lk)(s:Fn):Prop:=∀j,s.used.getD j false=true→s.known.getD (l.js.getD j default).a false=true∧s.known.getD (l.js.getD j default).b false=true
theorem oO{j:Jt}{b o:Nat}(h:sK j b=some o):(j.a=b∧j.b=o)∨(j.a=o∧j.b=b):=by
 unfold sK at h;split at h
 ·rename_i a;cases h;exact .inl ⟨a.symm,rfl⟩
 ·split at h
  ·rename_i a;cases h;exact .inr ⟨rfl,a.symm⟩
  ·cases h
theorem unused{l:Lk}{s:Fn}(hu:yj l s){j b o:Nat}(h:sK (l.js.getD j default) b=some o)(c:s.known.getD b false=false):s.used.getD j false=false:=by
 cases f:s.used.getD j false with
 |false=>rfl
 |true=>
  obtain⟨e,d⟩:=hu j f;rcases oO h with⟨a,-⟩|⟨-,a⟩
  ·rw[a,c]at e;cases e
  ·rw[a,c]at d;cases d
theorem W7.QB{l:Lk}{s:Fn}{kind body qO:Nat}(h:W7 l s kind body qO):∃o,sK (l.js.getD qO default) body=some o∧s.known.getD o false=true:=h.2.2
theorem rL.ag7{l:Lk}{s:Fn}{g:Gp}(hu:yj l s)(h:rL l s g):g.js.Nodup∧∀j∈g.js,j<l.js.length∧s.used.getD j false=false:=by
 cases h with
 |s_ d body qO Q n H f=>
  obtain⟨o,m,-⟩:=f.QB;exact⟨by simp,fun j D=>by rw[alI]at D;subst D;exact⟨f.1,unused hu m H⟩⟩
 |pair i j a b c N D E J q n I O A=>
  obtain⟨o,m,y⟩:=q.QB;obtain⟨p,f,w⟩:=n.QB;have k:=f_ E;have C:=f_ J;have M:o≠i:=fun e=>by rw[e,k]at y;cases y
  have L:o≠j:=fun e=>by rw[e,C]at y;cases y
  have pi:p≠i:=fun e=>by rw[e,k]at w;cases w
  have K:p≠j:=fun e=>by rw[e,C]at w;cases w
  have B:a≠b:=fun e=>by
   subst e;rcases oO m with⟨v,u⟩|⟨v,u⟩<;>rcases oO f with⟨t,r⟩|⟨t,r⟩<;>omega
  have G:a≠c:=fun e=>by
   subst e;rcases oO m with⟨v,u⟩|⟨v,u⟩<;>rcases oO A with⟨t,r⟩|⟨t,r⟩<;>omega
  have F:b≠c:=fun e=>by
   subst e;rcases oO f with⟨v,u⟩|⟨v,u⟩<;>rcases oO A with⟨t,r⟩|⟨t,r⟩<;>omega
  refine⟨by simp[B,G,F],fun x z=>?_⟩
  simp only[List.mem_cons,List.not_mem_nil,or_false]at z;rcases z with rfl|rfl|rfl
  ·exact⟨q.1,unused hu m k⟩
  ·exact⟨n.1,unused hu f C⟩
  ·exact⟨I,unused hu A k⟩
 |single i a b P E q n=>
  obtain⟨o,m,y⟩:=q.QB;obtain⟨p,f,w⟩:=n.QB;have k:=f_ E;have B:a≠b:=fun e=>by
   subst e;have S:=q.2.1;have R:=n.2.1;omega
  refine⟨by simp[B],fun x z=>?_⟩
  simp only[List.mem_cons,List.not_mem_nil,or_false]at z;rcases z with rfl|rfl
  ·exact⟨q.1,unused hu m k⟩
  ·exact⟨n.1,unused hu f k⟩
theorem rL.abA{l:Lk}{s:Fn}{g:Gp}(n:gO l)(h:rL l s g):g.bs.Nodup∧∀b∈g.bs,b<l.bs.length∧s.known.getD b false=false:=by
 cases h with
 |s_ d body qO q f m y=>exact⟨by simp,fun x e=>by rw[alI]at e;subst e;exact⟨by rw[←f];exact n.body _ (aN q _),m⟩⟩
 |pair i j a b c v o k t r f z w u=>
  refine⟨by simp;omega,fun x e=>?_⟩
  simp only[List.mem_cons,List.not_mem_nil,or_false]at e;rcases e with rfl|rfl
  ·exact⟨by omega,f_ k⟩
  ·exact⟨o,f_ t⟩
 |single i a b p k r f=>exact⟨by simp,fun x e=>by rw[alI]at e;subst e;exact⟨p,f_ k⟩⟩
theorem rL.ends{l:Lk}{s:Fn}{g:Gp}(h:rL l s g):∀j∈g.js,(s.known.getD (l.js.getD j default).a false=true∨(l.js.getD j default).a∈g.bs)∧(s.known.getD (l.js.getD j default).b false=true∨(l.js.getD j default).b∈g.bs):=by
 have key:∀{j b:Nat}{q:List Nat},b∈q→(∃o,sK (l.js.getD j default) b=some o∧s.known.getD o false=true)→(s.known.getD (l.js.getD j default).a false=true∨(l.js.getD j default).a∈q)∧(s.known.getD (l.js.getD j default).b false=true∨(l.js.getD j default).b∈q):=fun t ⟨o,w,r⟩=>by
  rcases oO w with⟨f,e⟩|⟨f,e⟩
  ·exact⟨.inr (f▸t),.inl (e▸r)⟩
  ·exact⟨.inl (f▸r),.inr (e▸t)⟩
 cases h with
 |s_ d body qO D m B v=>exact fun j n=>by rw[alI]at n;subst n;exact key (by simp) v.QB
 |pair i j a b c z n y F p m E A u=>
  intro x k;simp only[List.mem_cons,List.not_mem_nil,or_false]at k;rcases k with rfl|rfl|rfl
  ·exact key (by simp) p.QB
  ·exact key (by simp) m.QB
  ·rcases oO u with⟨f,e⟩|⟨f,e⟩
   ·exact⟨.inr (by rw[f];simp),.inr (by rw[e];simp)⟩
   ·exact⟨.inr (by rw[f];simp),.inr (by rw[e];simp)⟩
 |single i a b C y p m=>
  intro x k;simp only[List.mem_cons,List.not_mem_nil,or_false]at k;rcases k with rfl|rfl
  ·exact key (by simp) p.QB
  ·exact key (by simp) m.QB
theorem mr{l:Lk}{s:Fn}(a:pT l s)(g:Gp)(i:Nat):(s.add g).known.getD i false=true↔s.known.getD i false=true∨(i∈g.bs∧i<l.bs.length):=by
 rw[←a.k];exact BA g.bs s.known i
theorem yj.add{l:Lk}{s:Fn}{g:Gp}(e:gO l)(c:pT l s)(hu:yj l s)(h:rL l s g):yj l (s.add g):=fun j i=>by
 rcases(BA g.js s.used j).1 i with d|⟨d,f⟩
 ·obtain⟨a,b⟩:=hu j d
  exact⟨(mr c g _).2 (.inl a),(mr c g _).2 (.inl b)⟩
 ·obtain⟨a,b⟩:=h.ends j d
  rw[c.u]at f;have hm:=aN f (default:Jt);exact⟨(mr c g _).2 (a.imp id fun q=>⟨q,e.a _ hm⟩),(mr c g _).2 (b.imp id fun q=>⟨q,e.b _ hm⟩)⟩
theorem N5(l:Lk):yj l (wV l):=fun j a=>by
 have:(wV l).used.getD j false=false:=by
  show(List.replicate l.js.length false).getD j false=false;rw[alD,amZ];split<;>rfl
 rw[this]at a;cases a
theorem Path.used{l:Lk}{gs:List Gp}(a:gO l)(P:Path l gs):∀k,k≤gs.length→yj l (Ck l gs k)
 |0,_=>by rw[Ck,am'];exact N5 l
 |k+1,h=>by
  rw[uO (by omega)]
  exact(P.used a k (by omega)).add a (Ab l gs k (by omega)) (P.step k (by omega))
def Z6(g:Gp):Bool:=g.kind==0
def isP(g:Gp):Bool:=g.kind==1
def wt(g:Gp):Nat:=if g.kind=0 then 1 else if g.kind=1 then 3 else 2
theorem SF{l:Lk}{i b:Nat}:fW l i b=2∨fW l i b=3:=by unfold fW;split<;>simp
theorem rL.wt{l:Lk}{s:Fn}{g:Gp}(h:rL l s g):g.js.length=wt g:=by
 cases h with
 |s_=>rfl
 |pair=>rfl
 |single i a b c f e d=>
  show 2=if fW l i b=0 then 1 else if fW l i b=1 then 3 else 2
  rcases SF (l:=l) (i:=i) (b:=b)with h|h<;>rw[h]<;>rfl
theorem Xq:∀gs:List Gp,(gs.map wt).sum=gs.countP Z6+2*gs.countP (fun g=>!Z6 g)+gs.countP isP
 |[]=>rfl
 |g::gs=>by
  have c:=Xq gs;rw[amt,List.sum_cons,anJ,anJ,anJ,c];unfold Z6 isP wt;by_cases b:g.kind=0
  ·simp[b];omega
  ·by_cases a:g.kind=1
   ·simp[a];omega
   ·simp[b,a];omega
theorem JM{α:Type}{p q:α→Bool}:∀{l:List α},(∀x∈l,q x=true→p x=true)→(∃x∈l,p x=true∧q x=false)→l.countP q+1≤l.countP p
 |[],_,⟨_,h,_⟩=>by cases h
 |y::l,d,⟨x,g,f,e⟩=>by
  have mono:l.countP q≤l.countP p:=aoW fun z b=>d z (al_ _ b)
  rw[anJ,anJ];by_cases a:p y=true∧q y=false
  ·rw[a.1,a.2];simp;omega
  ·have c:x∈l:=by
    rcases alM.1 g with rfl|h
    ·exact apC ⟨f,e⟩ a
    ·exact h
   have j:=JM (l:=l) (fun z b=>d z (al_ _ b)) ⟨x,c,f,e⟩
   have:=d y (alW ..);cases i:q y
   ·simp;split<;>omega
   ·rw[i]at this;rw[this rfl];simp;omega
def I_(l:Lk)(s:Fn):Nat:=l.ds.countP fun d=>!s.known.getD d.body false
theorem UX{l:Lk}{s:Fn}{g:Gp}(a:pT l s):I_ l (s.add g)≤I_ l s:=
 aoW fun d _ h=>by
  cases b:s.known.getD d.body false with
  |false=>rfl
  |true=>
   have:=(mr a g d.body).2 (.inl b);rw[this]at h;cases h
theorem UW{l:Lk}{s:Fn}{g:Gp}(m:gO l)(f:pT l s)(h:rL l s g)(c:g.kind=0):I_ l (s.add g)+1≤I_ l s:=by
 cases h with
 |s_ d body qO n e k p=>
  have hm:=aN n (default:Dr);refine JM (fun x o j=>?_) ⟨_,hm,by rw[e,k];rfl,?_⟩
  ·cases c:s.known.getD x.body false with
   |false=>rfl
   |true=>
    have:=(mr f ⟨0,[body],[qO],d⟩ x.body).2 (.inl c);rw[this]at j;cases j
  ·have:=(mr f ⟨0,[body],[qO],d⟩ body).2 (.inr ⟨by simp,by rw[←e];exact m.body _ hm⟩)
   rw[e,this];rfl
 |pair=>cases c
 |single i a b q t r e=>
  have c:fW l i b=0:=c;rcases SF (l:=l) (i:=i) (b:=b)with h|h<;>omega
theorem FB{α:Type}[Inhabited α]{gs:List α}{k:Nat}(h:k<gs.length):gs.take (k+1)=gs.take k++[gs.getD k default]:=by
 rw[aob,alD,alK h];rfl
theorem Path.TF{l:Lk}{gs:List Gp}(a:gO l)(P:Path l gs):∀k,k≤gs.length→((gs.take k).map wt).sum+(Ck l gs k).used.count false≤l.js.length∧(gs.take k).countP Z6+I_ l (Ck l gs k)≤l.ds.length∧k+(Ck l gs k).known.count false+1≤l.bs.length
 |0,_=>by
  rw[Ck,am'];refine⟨?_,?_,?_⟩
  ·have:(wV l).used.count false≤(wV l).used.length:=apa
   rw[(wh l).u]at this;simpa using this
  ·have:I_ l (wV l)≤l.ds.length:=List.countP_le_length
   simpa using this
  ·have p:=(count_set (List.replicate l.bs.length false) 0).2 (by simpa using a.b0) (by rw[alD,amZ];split<;>rfl)
   have o:(List.replicate l.bs.length false).count false≤l.bs.length:=alJ apa (by simp)
   show 0+((List.replicate l.bs.length false).set 0 true).count false+1≤_;omega
 |k+1,h=>by
  have d:k<gs.length:=by omega
  obtain⟨p,o,r⟩:=P.TF a k (by omega)
  have b:=Ab l gs k (by omega)
  have c:=P.step k d;have hu:=P.used a k (by omega)
  obtain⟨n,i⟩:=c.ag7 hu;have q:=D' _ _ n fun j m=>⟨by rw[b.u];exact(i j m).1,(i j m).2⟩
  have hw:=c.wt;have s:=c.less a b;rw[uO d,FB d,an_,List.sum_append,aoJ];generalize gs.getD k default=g at*;refine⟨?_,?_,by omega⟩
  ·show((gs.take k).map Tw.wt).sum+([g].map Tw.wt).sum+(ei (Ck l gs k).used g.js).count false≤_
   simp only[List.map_cons,List.map_nil,List.sum_cons,List.sum_nil];omega
  ·rw[anJ,List.countP_nil]
   by_cases f:g.kind=0
   ·have:=UW a b c f
    have e:Z6 g=true:=by unfold Z6;rw[f];rfl
    rw[e];simp;omega
   ·have:=UX (g:=g) b
    have e:Z6 g=false:=by unfold Z6;simpa using f
    rw[e];simp;omega
def lz(gs:List Gp)(k:Nat):Nat:=(gs.take k).countP fun g=>!Z6 g
def AT(gs:List Gp)(k:Nat):Nat:=(gs.take k).countP Z6
def prN(gs:List Gp)(k:Nat):Nat:=(gs.take k).countP isP
theorem Path.counts{l:Lk}{gs:List Gp}(a:gO l)(P:Path l gs):AT gs gs.length+2*lz gs gs.length+prN gs gs.length≤l.js.length∧AT gs gs.length≤l.ds.length∧gs.length+1≤l.bs.length:=by
 obtain⟨b,d,c⟩:=P.TF a gs.length (alE _);rw[Xq]at b;exact⟨by unfold AT lz prN;omega,by unfold AT;omega,by omega⟩
theorem Zv{gs:List Gp}{j k:Nat}(h:j≤k):lz gs j≤lz gs k:=(aoy h).countP_le
theorem aa4{gs:List Gp}{j k:Nat}(h:j≤k):AT gs j≤AT gs k:=(aoy h).countP_le
theorem YI{gs:List Gp}{j k:Nat}(h:j≤k):prN gs j≤prN gs k:=(aoy h).countP_le
theorem AQ{gs:List Gp}{k:Nat}(h:k<gs.length):lz gs (k+1)=lz gs k+(if(gs.getD k default).kind=0 then 0 else 1)∧AT gs (k+1)=AT gs k+(if(gs.getD k default).kind=0 then 1 else 0)∧prN gs (k+1)=prN gs k+(if(gs.getD k default).kind=1 then 1 else 0):=by
 unfold lz AT prN;rw[FB h,aoJ,aoJ,aoJ];unfold Z6 isP;refine⟨?_,?_,?_⟩
 ·by_cases a:(gs.getD k default).kind=0<;>simp
 ·by_cases a:(gs.getD k default).kind=0<;>simp
 ·by_cases a:(gs.getD k default).kind=1<;>simp
def nA:Nat→Nat
 |0=>1
 |1=>80658
 |2=>10981814
 |3=>3338818642
 |_+4=>0
def eA:Nat→Nat
 |0=>1
 |1=>22967
 |2=>1151631
 |3=>153685747
 |_+4=>0
def nS:Nat→Nat
 |0=>1
 |1=>9371
 |2=>1016587
 |3=>255475801
 |4=>135756973018
 |_+5=>0
def eS:Nat→Nat
 |0=>1
 |1=>2100
 |2=>127149
 |3=>14235545
 |4=>3578191389
 |_+5=>0
theorem aaS:gV 64 1567 1 0 80658 22967 true:=by
 refine⟨⟨1697,6791,20891,6791,60464,62162,63455,?_⟩,⟨1697,6791,8343,6791,39137,14099,40430,15392,?_⟩,fun _=>⟨1697,6791,7827,22966,6793,6793,14620,19713,29762,75840,77538,78831,?_⟩⟩<;>constructor<;>decide+kernel
theorem aaR:gV 64 82224 22967 0 10981814 1151631 true:=by
 refine⟨⟨82354,329419,988775,329419,2929391,3011746,3013039,?_⟩,⟨82354,329419,330971,329419,1721175,659355,1722468,660648,?_⟩,fun _=>⟨82354,329419,330455,990850,329421,329421,659876,906940,1343240,3428709,3511064,3512357,?_⟩⟩<;>constructor<;>decide+kernel
theorem aaQ:gV 64 82224 22967 1 10981814 1151631 true:=by
 refine⟨⟨82354,352388,1103620,1455490,8814477,8896832,8898125,?_⟩,⟨82354,352388,399878,1455490,5591049,1854333,5592342,1855626,?_⟩,fun _=>⟨82354,352388,353424,1128664,375359,1547374,1923767,2193800,5002273,10815682,10898037,10899330,?_⟩⟩<;>constructor<;>decide+kernel
theorem aaP:gV 64 10983380 1151631 0 3338818642 153685747 true:=by
 refine⟨⟨10983510,43934043,131802647,43934043,386727179,397710690,397711983,?_⟩,⟨10983510,43934043,43935595,43934043,223130287,87868603,223131580,87869896,?_⟩,fun _=>⟨10983510,43934043,43935079,131804722,43934045,43934045,87869124,120819656,176890400,452633433,463616944,463618237,?_⟩⟩<;>constructor<;>decide+kernel
theorem aaO:gV 64 10983380 1151631 1 3338818642 153685747 true:=by
 refine⟨⟨10983510,45085676,137560812,182645970,1092956849,1103940360,1103941653,?_⟩,⟨10983510,45085676,47390494,182645970,663459673,230035429,663460966,230036722,?_⟩,fun _=>⟨10983510,45085676,45086712,138714520,46237311,187252510,233490855,267593020,606850969,1316009470,1326992981,1326994274,?_⟩⟩<;>constructor<;>decide+kernel
theorem aaN:gV 64 10983380 1151631 2 3338818642 153685747 true:=by
 refine⟨⟨10983510,47388942,149077142,493467181,2677009506,2687993017,2687994310,?_⟩,⟨10983510,47388942,54300292,493467181,1701892166,547766438,1701893459,547767731,?_⟩,fun _=>⟨10983510,47388942,47389978,152534116,50843843,528016191,578861068,615266499,1603816434,3316850198,3327833709,3327835002,?_⟩⟩<;>constructor<;>decide+kernel
theorem aaM:gV 64 1 1 0 9371 2100 false:=by
 refine⟨⟨131,527,2099,527,5654,5786,7079,?_⟩,⟨131,527,2079,527,7817,1571,9110,2864,?_⟩,fun h=>by cases h⟩<;>constructor<;>decide+kernel
theorem aaL:gV 64 9371 2100 0 1016587 127149 false:=by
 refine⟨⟨9501,38007,114539,38007,337802,347304,348597,?_⟩,⟨9501,38007,39559,38007,201514,76531,202807,77824,?_⟩,fun h=>by cases h⟩<;>constructor<;>decide+kernel
theorem aaK:gV 64 9371 2100 1 1016587 127149 false:=by
 refine⟨⟨9501,40109,125049,164640,996161,1005663,1006956,?_⟩,⟨9501,40109,45865,164640,634867,209470,636160,210763,?_⟩,fun h=>by cases h⟩<;>constructor<;>decide+kernel
theorem aaJ:gV 64 1016587 127149 0 255475801 14235545 false:=by
 refine⟨⟨1016717,4066871,12201131,4066871,35840460,36857178,36858471,?_⟩,⟨1016717,4066871,4068423,4066871,20720981,8134259,20722274,8135552,?_⟩,fun h=>by cases h⟩<;>constructor<;>decide+kernel
theorem aaI:gV 64 1016587 127149 1 255475801 14235545 false:=by
 refine⟨⟨1016717,4194022,12836886,17030390,102058788,103075506,103076799,?_⟩,⟨1016717,4194022,4449876,17030390,62291021,21479231,62292314,21480524,?_⟩,fun h=>by cases h⟩<;>constructor<;>decide+kernel
theorem aaH:gV 64 1016587 127149 2 255475801 14235545 false:=by
 refine⟨⟨1016717,4448324,14108396,46644807,253440943,254457661,254458954,?_⟩,⟨1016717,4448324,5212782,46644807,162850788,51856554,162852081,51857847,?_⟩,fun h=>by cases h⟩<;>constructor<;>decide+kernel
theorem aaG:gV 64 255475801 14235545 0 135756973018 3578191389 false:=by
 refine⟨⟨255475931,1021903727,3065711699,1021903727,8970129742,9225605674,9225606967,?_⟩,⟨255475931,1021903727,1021905279,1021903727,5152230449,2043807971,5152231742,2043809264,?_⟩,fun h=>by cases h⟩<;>constructor<;>decide+kernel
theorem aaF:gV 64 255475801 14235545 1 135756973018 3578191389 false:=by
 refine⟨⟨255475931,1036139274,3136889434,4173028190,24882345146,25137821078,25137822371,?_⟩,⟨255475931,1036139274,1064611920,4173028190,14904559637,5237639075,14904560930,5237640368,?_⟩,fun h=>by cases h⟩<;>constructor<;>decide+kernel
theorem aaE:gV 64 255475801 14235545 2 135756973018 3578191389 false:=by
 refine⟨⟨255475931,1064610368,3279244904,10888107979,58827872457,59083348389,59083349682,?_⟩,⟨255475931,1064610368,1150025202,10888107979,36359487952,12038132146,36359489245,12038133439,?_⟩,fun h=>by cases h⟩<;>constructor<;>decide+kernel
theorem aaD:gV 64 255475801 14235545 3 135756973018 3578191389 false:=by
 refine⟨⟨255475931,1121552556,3563955844,26012297650,135246019732,135501495664,135501496957,?_⟩,⟨255475931,1121552556,1320851766,26012297650,87113130979,27333148381,87113132272,27333149674,?_⟩,fun h=>by cases h⟩<;>constructor<;>decide+kernel
theorem ak8:∀m k:Nat,m<3→k≤m→gV 64 (nA m+1566) (eA m) k (nA (m+1)) (eA (m+1)) true
 |0,0,_,_=>aaS
 |1,0,_,_=>aaR
 |1,1,_,_=>aaQ
 |2,0,_,_=>aaP
 |2,1,_,_=>aaO
 |2,2,_,_=>aaN
 |0,k+1,_,h=>apC h (by omega)
 |1,k+2,_,h=>apC h (by omega)
 |2,k+3,_,h=>apC h (by omega)
 |m+3,_,h,_=>apC h (by omega)
theorem ak7:∀m k:Nat,m<4→k≤m→gV 64 (nS m) (eS m) k (nS (m+1)) (eS (m+1)) false
 |0,0,_,_=>aaM
 |1,0,_,_=>aaL
 |1,1,_,_=>aaK
 |2,0,_,_=>aaJ
 |2,1,_,_=>aaI
 |2,2,_,_=>aaH
 |3,0,_,_=>aaG
 |3,1,_,_=>aaF
 |3,2,_,_=>aaE
 |3,3,_,_=>aaD
 |0,k+1,_,h=>apC h (by omega)
 |1,k+2,_,h=>apC h (by omega)
 |2,k+3,_,h=>apC h (by omega)
 |3,k+4,_,h=>apC h (by omega)
 |m+4,_,h,_=>apC h (by omega)
def Hz(δ k:Nat):Prop:=sb δ k δ≤NB∧tb δ k≤MB∧sb δ k 1≤NB∧ib δ k 1≤MB
instance(δ k:Nat):Decidable (Hz δ k):=by unfold Hz;infer_instance
theorem akg:∀m,m≤3→∀k,k≤m→Hz (eA m) k:=by decide+kernel
theorem akf:∀m,m≤4→∀k,k≤m→Hz (eS m) k:=by decide+kernel
def qV(n δ k:Nat):Prop:=8*n+2000≤MB∧sb δ k (16*n+4*tb δ k+4000)≤NB∧8*n+2*tb δ k+4000≤MB
instance(n δ k:Nat):Decidable (qV n δ k):=by unfold qV;infer_instance
theorem alc:∀m,m≤3→∀k,k≤m→qV (nA m+1566) (eA m) k:=by decide+kernel
theorem alb:∀m,m≤4→∀k,k≤m→qV (nS m) (eS m) k:=by decide+kernel
theorem aeR:∀m,m<3→nA m+1566≤nA (m+1)∧eA m≤eA (m+1):=by decide+kernel
theorem aeQ:∀m,m<4→nS m≤nS (m+1)∧eS m≤eS (m+1):=by decide+kernel
theorem ale:∀m,m≤3→∀d,d<2→nA m+783*(d+1)≤MB:=by decide+kernel
end Tw
end Lw
