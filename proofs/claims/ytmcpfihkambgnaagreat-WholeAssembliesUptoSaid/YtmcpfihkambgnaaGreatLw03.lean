/- Part 3. -/
import Derived.Test.YtmcpfihkambgnaaGreatLw02
open Option renaming some.injEq→zIq
open Prod renaming mk.injEq→zJq
open Bool renaming and_eq_true→zLq
namespace Lw
open Go Go.RowKit
variable {P:Program} {Good:World→Prop}
def dL(ops:Array Oper)(o:Oper):List Tmp:=
 (o.op.operands.toList.filterMap fun|.tmp t=>some t|_=>none)++
  match o.guard with
  |some (j,_)=>((ops[j]?).bind (·.dst)).toList
  |none=>[]
structure Info where
 ix:Nat
 dst:Option Tmp
 reads:List Tmp
 rc:Rec
 acc:Option Nat
 jE:Nat
def infos(ops:Array Oper):Nat→List Oper→List (Rec×Option Nat)→List Nat→List Info
 |i,o::l,r::rs,k::a=>⟨i,o.dst,dL ops o,r.1,r.2,k⟩::infos ops (i+1) l rs a
 |_,_,_,_=>[]
def Info.lone(a:Nat)(x:Info):Bool:=
 match x.rc with
 |.new b _ _ _=>Nat.ble a b
 |.store b _ _ _ _=>x.acc==some b
 |.val _=>true
 |.grow _ _ _=>false
 |.own _=>false
 |.inl _ _ _=>false
def Info.pair(x y:Info):Bool:=
  (x.ix==y.ix||
    ((match x.dst with|some t=>!(y.dst==some t)|none=>true)&&
     (match x.rc with|.store b _ _ _ _=>!(y.rc.cZ b)||((x.jE.testBit y.ix&&Nat.blt y.ix x.ix)||(y.jE.testBit x.ix&&Nat.blt x.ix y.ix))|.new b _ _ _=>!(y.rc.dx b)|_=>true)))&&
  ((match y.dst with|some t=>!(x.reads.contains t)|none=>true)||(y.ix==x.ix||(x.jE.testBit y.ix||y.jE.testBit x.ix)))&&
  (match x.acc with
    |some b=>(!(y.rc.cZ b)||(y.ix==x.ix||(x.jE.testBit y.ix||y.jE.testBit x.ix)))&&(!(y.rc.dx b)||x.jE.testBit y.ix)
    |none=>true)
def T':Nat→List Oper→Bool
 |_,[]=>true
 |i,o::l=>(dK o).all (fun d=>Nat.blt d i)&&T' (i+1) l
def BE(p:Info→Bool):List Info→Nat
 |[]=>0
 |x::l=>if p x then BE p l+1 else 0
def Info.LF(x:Info):Bool:=Nat.beq x.jE (2^x.ix-1)
def Df(ops:Array Oper)(b:Nat)(l:List Oper)(a:List (Rec×Option Nat)):Bool:=
 let xs:=infos ops 0 l a (Ik l [])
 let m:=BE (Info.lone b) xs
 T' 0 l&&(((xs.take m).all fun x=>(xs.take m).all fun y=>x.pair y)&&(xs.drop m).all Info.LF)
theorem GA(p:Info→Bool):∀l,BE p l≤l.length
 |[]=>alE _
 |x::l=>by
  have:=GA p l;unfold BE;split
  ·simp only[List.length_cons];omega
  ·exact amd _
theorem Gz(p:Info→Bool):∀(l:List Info)(j:Nat)(x:Info),j<BE p l→l[j]? =some x→p x=true
 |[],j,x,h,e=>by cases e
 |y::l,j,x,h,e=>by
  unfold BE at h;split at h
  ·rename_i a
   cases j with
   |zero=>simp only[List.getElem?_cons_zero,zIq]at e;rw[←e];exact a
   |succ j=>exact Gz p l j x (by omega) (by simpa using e)
  ·omega
theorem BM{ops:Array Oper}:∀(i:Nat)(l:List Oper)(rs:List (Rec×Option Nat))(a:List Nat),rs.length=l.length→a.length=l.length→∀j(h:j<l.length),
  (infos ops i l rs a)[j]? =some ⟨i+j,l[j].dst,dL ops l[j],(rs.getD j (.val .any,none)).1,(rs.getD j (.val .any,none)).2,a.getD j 0⟩
 |i,[],rs,a,_,_,j,h=>apC h (by simp)
 |i,o::l,[],a,c,_,j,h=>by simp at c
 |i,o::l,r::rs,[],_,b,j,h=>by simp at b
 |i,o::l,r::rs,k::a,c,b,j,h=>by
  cases j with
  |zero=>simp[infos]
  |succ j=>
   have:=BM (ops:=ops) (i+1) l rs a (by simpa using c) (by simpa using b) j (by simpa using h)
   simp only[infos,List.getElem?_cons_succ];simpa [anl,amR 1 j]using this
theorem C1{ops:Array Oper}:∀(i:Nat)(l:List Oper)(rs:List (Rec×Option Nat))(a:List Nat),rs.length=l.length→a.length=l.length→(infos ops i l rs a).length=l.length
 |i,[],rs,a,_,_=>by simp[infos]
 |i,o::l,[],a,c,_=>by simp at c
 |i,o::l,r::rs,[],_,b=>by simp at b
 |i,o::l,r::rs,k::a,c,b=>by
  simp only[infos,List.length_cons];rw[C1 (i+1) l rs a (by simpa using c) (by simpa using b)]
theorem EJ:∀(i:Nat)(l:List Oper),T' i l=true→∀j(h:j<l.length),∀d∈dK l[j],d<i+j
 |i,[],_,j,h=>apC h (by simp)
 |i,o::l,a,j,h=>by
  simp only[T',zLq,List.all_eq_true,Nat.blt_eq]at a;cases j with
  |zero=>intro d b;exact a.1 d b
  |succ j=>intro d b;have:=EJ (i+1) l a.2 j (by simpa using h) d b;omega
theorem abf{l:List Nat}{p q:Nat→Bool}{i:Nat}(o:i∈l)(d:p i=true)(b:q i=false)(h:∀j∈l,q j=true→p j=true):l.countP q<l.countP p:=by
 induction l with
 |nil=>cases o
 |cons x l r=>
  have hle:l.countP q≤l.countP p:=aoW fun j e c=>h j (al_ _ e) c
  by_cases k:x=i
  ·subst k
   rw[List.countP_cons_of_neg (by rw[b];simp),List.countP_cons_of_pos d]
   omega
  ·have f:i∈l:=by
    rcases alM.1 o with g|g
    ·exact apC g.symm k
    ·exact g
   have:=r f fun j e c=>h j (al_ _ e) c
   rw[anJ,anJ];by_cases a:q x=true
   ·rw[apB a,apB (h x (by simp) a)];omega
   ·rw[apA a];omega
def kZ(n:Nat)(s:FSt)(dst:Nat→Option Tmp)(R:Nat→Rec):Nat→FSt
 |0=>s
 |i+1=>(kZ n s dst R i).app n (dst i) (R i)
theorem DO(n:Nat)(s:FSt)(dst:Nat→Option Tmp)(R:Nat→Rec)(i:Nat):kZ n s dst R (i+1)=kZ n (s.app n (dst 0) (R 0)) (fun j=>dst (j+1)) (fun j=>R (j+1)) i:=by
 induction i with
 |zero=>rfl
 |succ i a=>rw[kZ,a];rfl
theorem tM{dr:Bool}{inl:Inline P Good}{ops:Array Oper}{ro:List Nat}{gb:Nat}:∀(l:List Oper)(s s':St)(d tr':List (Item P Good))(eqs:List (de×de))(c:List (Rec×Option Nat)),
   kU P inl dr ops ro gb l s d=some (s',tr',eqs,c)→jI eqs→
   c.length=l.length∧s'.fs=kZ s.tmps.length s.fs (fun j=>(l[j]?).bind (·.dst)) (fun j=>(c.getD j (.val .any,none)).1) l.length∧
   ∀i(h:i<l.length),∃(b:St)(Ek f:List (Item P Good))(e:List (de×de)),
    oP P inl ops l[i] ro gb (mxA dr gb b) b.fs b.blks b.b_ Ek=some ((c.getD i (.val .any,none)).1,f,e)∧jI e∧(c.getD i (.val .any,none)).2=rk l[i] b.fs.ev∧
    b.fs=kZ s.tmps.length s.fs (fun j=>(l[j]?).bind (·.dst)) (fun j=>(c.getD j (.val .any,none)).1) i∧b.tmps.length=s.tmps.length
 |[],s,s',d,tr',eqs,c,a,he=>by
  simp only[kU,zIq,zJq]at a;obtain⟨rfl,rfl,rfl,rfl⟩:=a;exact⟨rfl,rfl,fun i h=>apC h (by simp)⟩
 |o::rest,s,s',d,tr',eqs,c,a,he=>by
  simp only[kU]at a;split at a
  ·rename_i R q r g
   split at a
   ·rename_i s2 G F H z
    simp only[zIq,zJq]at a;obtain⟨rfl,rfl,rfl,rfl⟩:=a;obtain⟨D,E⟩:=he.append;obtain⟨C,B⟩:=uW g;obtain⟨A,p,k⟩:=tM rest _ _ _ _ _ _ z E;rw[B,C]at p k;refine⟨by simp[A],?_,fun i y=>?_⟩
    ·rw[p]
     show _=kZ _ _ _ _ (rest.length+1);rw[DO];rfl
    ·cases i with
     |zero=>exact⟨s,d,q,r,g,D,rfl,rfl,rfl⟩
     |succ i=>
      obtain⟨b,Ek,f,e,x,w,v,u,t⟩:=k i (by simpa using y)
      refine⟨b,Ek,f,e,x,w,v,?_,t⟩;rw[u,DO];rfl
   ·cases a
  ·cases a
theorem De{c:Ctx}{Q:Exit→Act→World→Prop}{id:Nat}{ops:Array Oper}{l:List Oper}(hl:ops.toList=l){s:St}{U:FSt}{dst:Nat→Option Tmp}{R:Nat→Rec}{A:List Nat}{m:Nat}(hml:m≤l.length)
  (hm:c.P.follows .mixedOrders=true) (ph:∀i(h:i<l.length),∀d∈dK l[i],d<i)
  (s8:∀(L:Nat→Bool),(∀j(h:j<l.length),L j=true→∀d∈dK l[j],L d=true)→∀i(h:i<l.length),(∀d∈dK l[i],L d=true)→∀k,(A.getD i 0).testBit k=true→L k=true)
  (yQ:∀j(_:m≤j)(_:j<l.length),∀k,k<j→(A.getD j 0).testBit k=true)
  (F:(Nat→Bool)→FSt) (Dk:∀L L':Nat→Bool,(∀j,j<m→L j=L' j)→F L=F L')
  (KZ:∀i,i≤m→kZ s.tmps.length s.fs dst R i=F (fun j=>Nat.blt j i))
  (Rm:U=kZ s.tmps.length s.fs dst R l.length)
  (NJ:∀(L:Nat→Bool)(i:Nat)(_:i<m)(x:i<l.length),L i=false→(∀j(h:j<l.length),L j=true→∀d∈dK l[j],L d=true)→(∀d∈dK l[i],L d=true)→
   ∀(a:Act)(w:World),Rel c s.tmps.length (F L) a w→∀K:Act→World→Prop,
   (∀f w',Rel c s.tmps.length (F (fun j=>L j||j==i)) f w'→K f w')→wpOpIn (Fw c.rd) 0 c.P ops Q i K a w)
  (GH:∀(i:Nat)(_:i<l.length)(a:Act)(w:World),Rel c s.tmps.length (kZ s.tmps.length s.fs dst R i) a w→∀K:Act→World→Prop,
   (∀f w',Rel c s.tmps.length (kZ s.tmps.length s.fs dst R (i+1)) f w'→K f w')→wpOpIn (Fw c.rd) 0 c.P ops Q i K a w)
  {a:Act} {w:World} (h:Rel c s.tmps.length s.fs a w) (hQ:∀f w',Rel c s.tmps.length U f w'→Q .normal f w'):(Code.region id ops true).wpIn (Fw c.rd) 0 c.P Q a w:=by
 have Eu:∀i:Nat,ops[i]? =l[i]? :=fun i=>by rw[←hl];simp
 have D4:ops.size=l.length:=by rw[←hl];simp
 let y:Array Bool→Act→World→Prop:=fun listed a w=>
  ((∀j,m≤j→j<l.length→listed.getD j false=false)∧Rel c s.tmps.length (F (fun j=>listed.getD j false)) a w)∨
  (∃t,m≤t∧t≤l.length∧(∀j,j<l.length→listed.getD j false=Nat.blt j t)∧Rel c s.tmps.length (kZ s.tmps.length s.fs dst R t) a w)
 have main:∀(fuel:Nat)(listed:Array Bool)(a:Act)(w:World),listed.size=l.length→
   (∀j(h:j<l.length),listed.getD j false=true→∀d∈dK l[j],listed.getD d false=true)→(List.range l.length).countP (fun j=>!listed.getD j false)≤fuel→
   y listed a w→wpAnyIn (Fw c.rd) 0 c.P .any ops Q fuel listed a w:=by
  intro fuel;have full:∀(listed:Array Bool)(a:Act)(w:World),(∀i,i<l.length→listed.getD i false=true)→y listed a w→Q .normal a w:=by
   intro listed a w N pn;refine hQ a w ?_;rw[Rm];rcases pn with⟨C,B⟩|⟨t,C,B,E,h4⟩
   ·have NQ:m=l.length:=by
     rcases alU m l.length with h|h
     ·have:=C m (alE _) h
      rw[N m h]at this;cases this
     ·omega
    rw[←NQ,KZ m (alE _),Dk (fun j=>Nat.blt j m) (fun j=>listed.getD j false) fun j b=>by rw[N j (by omega),al6];exact b]
    exact B
   ·have ht2:t=l.length:=by
     rcases alU t l.length with h|h
     ·have:=E t h
      rw[N t h]at this;have h5:Nat.blt t t=true:=this.symm;rw[al6]at h5;omega
     ·omega
    rw[←ht2];exact h4
  have done:∀(listed:Array Bool)(a:Act)(w:World),listed.size=l.length→Region.ready .any ops listed=[]→
    y listed a w→Q .normal a w:=by
   intro listed a w O I H;refine full listed a w ?_ H;intro i;induction i using Nat.strongRecOn with
   |_ i ih=>
    intro x;cases u:listed.getD i false with
    |true=>rfl
    |false=>
     have:i∈Region.ready .any ops listed:=by
      rw[mem_ready];refine⟨?_,l[i],by rw[Eu];simp[x],fun e he' hb=>?_⟩
      ·have:i<listed.size:=by omega
       simp[Array.getD,this]at u⊢;exact u
      ·have z:e.on∈dK l[i]:=by
        simp only[dK,List.mem_map,List.mem_filter];exact⟨e,⟨by simpa using he',hb⟩,rfl⟩
       exact ih e.on (ph i x _ z) (by have:=ph i x _ z;omega)
     rw[I]at this;cases this
  induction fuel with
  |zero=>
   intro listed a w O Y akW H;have N:∀i,i<l.length→listed.getD i false=true:=fun i x=>by
    cases u:listed.getD i false with
    |true=>rfl
    |false=>
     have:0<(List.range l.length).countP (fun j=>!listed.getD j false):=List.countP_pos_iff.2 ⟨i,by simpa using x,by rw[u];rfl⟩
     omega
   have I:Region.ready .any ops listed=[]:=by
    cases u:Region.ready .any ops listed with
    |nil=>rfl
    |cons i r=>
     have:i∈Region.ready .any ops listed:=by rw[u];simp
     rw[mem_ready]at this;obtain⟨C,o,B,_⟩:=this;have x:i<l.length:=by rw[Eu]at B;exact(ana.1 B).1
     have E:=N i x;have:i<listed.size:=by omega
     simp[Array.getD,this]at C E;rw[C]at E;cases E
   exact⟨I,done listed a w O I H⟩
  |succ fuel ih=>
   intro listed a w O Y akW H;refine⟨fun I=>done listed a w O I H,fun i x=>?_⟩
   rw[mem_ready]at x;obtain⟨C,o,B,E⟩:=x;rw[Eu]at B;obtain⟨g,rfl⟩:=ana.1 B;have T:i<listed.size:=by omega
   have D:listed.getD i false=false:=by simp[Array.getD,T]at C⊢;exact C
   have G:∀d∈dK l[i],listed.getD d false=true:=by
    intro d z;simp only[dK,List.mem_map,List.mem_filter]at z;obtain⟨e,⟨Vt,Cp⟩,rfl⟩:=z;exact E e (by simpa using Vt) Cp
   have J:∀j,(listed.setIfInBounds i true).getD j false=(listed.getD j false||j==i):=by
    intro j;by_cases Z:i=j
    ·subst Z;simp[Array.getD,T]
    ·rw[getD_set_ne false Z];simp[Ne.symm Z]
   have V:=s8 (fun j=>listed.getD j false) Y i g G
   have next:∀f w',y (listed.setIfInBounds i true) f w'→wpAnyIn (Fw c.rd) 0 c.P .any ops Q fuel (listed.setIfInBounds i true) f w':=by
    intro f w' pn;refine ih _ f w' (by simpa using O) (fun j b v d z=>?_) ?_ pn
    ·rw[J]at v⊢
     rw[amo]at v⊢;rcases v with v|v
     ·exact .inl (Y j b v d z)
     ·simp only[beq_iff_eq]at v;subst v;exact .inl (G d z)
    ·have:=abf (l:=List.range l.length) (p:=fun j=>!listed.getD j false) (q:=fun j=>!(listed.setIfInBounds i true).getD j false) (i:=i) (by simpa using g) (by rw[D];rfl) (by rw[J];simp)
      (fun j _ u=>by rw[J]at u;simp at u⊢;exact u.1)
     omega
   have W:(∀j,j<l.length→listed.getD j false=Nat.blt j i)→m≤i→Rel c s.tmps.length (kZ s.tmps.length s.fs dst R i) a w→
     wpOpIn (Fw c.rd) 0 c.P ops Q i (wpAnyIn (Fw c.rd) 0 c.P .any ops Q fuel (listed.setIfInBounds i true)) a w:=by
    intro hl2 hmi ajo;refine GH i g a w ajo _ fun f w' h'=>next f w' (.inr ⟨i+1,by omega,by omega,fun j b=>?_,h'⟩)
    rw[J,hl2 j b,am3,amo,al6,al6,beq_iff_eq];omega
   rcases H with⟨S,g2⟩|⟨t,S,g2,g3,g4⟩
   ·rcases alU i m with Ih|Ih
    ·refine NJ (fun j=>listed.getD j false) i Ih g D Y G a w g2 _ fun f w' h'=>next f w' (.inl ⟨fun j b v=>?_,?_⟩)
     ·rw[J,S j b v]
      simp only[Bool.false_or,beq_eq_false_iff_ne];omega
     ·have e:(fun j=>(listed.setIfInBounds i true).getD j false)=fun j=>listed.getD j false||j==i:=funext J
      rw[e];exact h'
    ·have M:∀j,j<i→listed.getD j false=true:=fun j b=>V j (yQ i Ih g j b)
     have akS:i=m:=by
      rcases alU m i with h|h
      ·have:=S m (alE _) (by omega)
       rw[M m h]at this;cases this
      ·omega
     subst akS;refine W (fun j b=>?_) (alE _) ?_
     ·rcases alU j i with h|h
      ·rw[M j h];exact(by rw[al6];exact h:Nat.blt j i=true).symm
      ·rw[S j h b]
       cases u:Nat.blt j i with
       |false=>rfl
       |true=>rw[al6]at u;omega
     ·rw[KZ i (alE _),Dk (fun j=>Nat.blt j i) (fun j=>listed.getD j false) fun j b=>by rw[M j b,al6];exact b]
      exact g2
   ·have hti:t≤i:=by
     rcases alU i t with h|h
     ·have:=g3 i g
      rw[D]at this;have h6:Nat.blt i t=true:=by rw[al6];exact h
      rw[h6]at this;cases this
     ·exact h
    have M:∀j,j<i→listed.getD j false=true:=fun j b=>V j (yQ i (by omega) g j b)
    have L4:i=t:=by
     rcases alU t i with h|h
     ·have h7:=M t h
      rw[g3 t (by omega),al6]at h7;omega
     ·omega
    subst L4;exact W g3 S g4
 refine wpIn_region_any hm ?_;rw[D4];refine main _ _ _ _ (by simp) (fun j b v=>?_) ?_ ?_
 ·exfalso
  simp[Array.getD]at v
 ·exact alJ List.countP_le_length (by simp)
 ·refine .inl ⟨fun j _ _=>by simp[Array.getD],?_⟩
  have hz:(fun j=>(Array.replicate l.length false).getD j false)=fun j=>Nat.blt j 0:=by
   funext j
   have:Nat.blt j 0=false:=by cases u:Nat.blt j 0 with|false=>rfl|true=>rw[al6]at u;omega
   rw[this];simp[Array.getD]
  rw[hz,←KZ 0 (amd _)];obtain⟨β,X,hB⟩:=h;exact⟨β,X,hB.grow ((Below.refl _ _).drew)⟩
theorem RG{dr:Bool}{c:Ctx}{Q:Exit→Act→World→Prop}{inl:Inline P Good}(nR:yo P Good inl){gb:Nat}(qP:c.gb≤gb)(hP:c.P=P)(Ez:c.Good=Good)(hG:aa Good)(h0:c.Good c.w0)(hm:P.follows .mixedOrders=true){id:Nat}{ops:Array Oper}{ro:List Nat}
  {s s':St} {tr tr':List (Item P Good)} {eqs:List (de×de)} {E:List (Rec×Option Nat)} {a:Act} {w:World}
  (hr:kU P inl dr ops ro gb ops.toList s tr=some (s',tr',eqs,E)) (he:jI eqs) (Ew:Df ops s.blks.length ops.toList E=true)
  (h:Rel c s.tmps.length s.fs a w) (hQ:∀F w',Rel c s.tmps.length s'.fs F w'→Q .normal F w'):(Code.region id ops true).wpIn (Fw c.rd) 0 P Q a w:=by
 obtain⟨M,Rm,D7⟩:=tM _ _ _ _ _ _ _ hr he;generalize hl:ops.toList=l at*;have Eu:∀i:Nat,ops[i]? =l[i]? :=fun i=>by rw[←hl];simp
 have D4:ops.size=l.length:=by rw[←hl];simp
 simp only[Df,zLq,List.all_eq_true]at Ew;obtain⟨ht,NM,ahj⟩:=Ew;have ph:∀i(h:i<l.length),∀d∈dK l[i],d<i:=fun i h d T=>by have:=EJ 0 l ht i h d T;omega
 obtain⟨iM,U⟩:=E_ l l [] [] rfl rfl ⟨by simp,fun i h=>apC h (by simp)⟩ ph
 generalize hA:Ik l []=A at*;have Xl:=BM (ops:=ops) 0 l E A M U;have hxl:=C1 (ops:=ops) 0 l E A M U;simp only[Nat.zero_add]at Xl;have NR:=Gz (Info.lone s.blks.length) (infos ops 0 l E A);have hml:=GA (Info.lone s.blks.length) (infos ops 0 l E A);generalize BE (Info.lone s.blks.length) (infos ops 0 l E A)=m at*;rw[hxl]at hml;have Au:∀j(h:j<m)(I:j<l.length),⟨j,l[j].dst,dL ops l[j],(E.getD j (.val .any,none)).1,(E.getD j (.val .any,none)).2,A.getD j 0⟩∈(infos ops 0 l E A).take m:=fun j h I=>
  an8.2 ⟨j,by rw[amA,apB h];exact Xl j I⟩
 have yQ:∀j(h:m≤j)(I:j<l.length),∀k,k<j→(A.getD j 0).testBit k=true:=fun j h I k hk=>by
  have:=ahj _ (an8.2 ⟨j-m,by rw[anh,show m+(j-m)=j by omega];exact Xl j I⟩)
  simp only[Info.LF]at this;have e:=anq this;rw[e,Nat.testBit_two_pow_sub_one];simpa using hk
 generalize Ro:(fun j:Nat=>(l[j]?).bind (fun x:Oper=>x.dst))=dst at*
 generalize hRR:(fun j:Nat=>(E.getD j (.val .any,none)).1)=R at*
 generalize hAC:(fun j:Nat=>(E.getD j ((.val .any,none):Rec×Option Nat)).2)=acc
 have tX:∀i(h:i<l.length),l[i].dst=dst i:=fun i h=>by rw[←Ro];simp[h]
 have Ru:∀i,(E.getD i (.val .any,none)).1=R i:=fun i=>by rw[←hRR]
 have Rv:∀i,(E.getD i (.val .any,none)).2=acc i:=fun i=>by rw[←hAC]
 have ok:HI s.fs m dst (fun i t=>((l[i]?).map fun o=>(dL ops o).contains t)==some true) R acc (fun i j=>(A.getD i 0).testBit j):=by
  have P2:∀i j(G:i<m)(hj0:j<m)(q:i<l.length)(u:j<l.length),Info.pair ⟨i,dst i,dL ops l[i],R i,acc i,A.getD i 0⟩ ⟨j,dst j,dL ops l[j],R j,acc j,A.getD j 0⟩=true:=by
   intro i j G hj0 q u;have:=NM _ (Au i G q) _ (Au j hj0 u);simpa only[tX,Ru,Rv]using this
  have P1:∀i(G:i<m)(q:i<l.length),Info.lone s.blks.length ⟨i,dst i,dL ops l[i],R i,acc i,A.getD i 0⟩=true:=by
   intro i G q;have:=NR i _ G (Xl i q);simpa only[tX,Ru,Rv]using this
  refine⟨fun i j t q u y H=>?_,fun i j b q u y H=>?_,fun i j b q u y H=>?_,fun i b q y=>?_,fun i j t q u y H=>?_,fun i j b q u y H=>?_,fun i j b q u y H=>?_,fun i b q y=>?_,fun i q=>?_⟩
  ·have B:i<l.length:=by omega
   have J:j<l.length:=by omega
   have:=P2 i j q u B J;simp only[Info.pair,zLq,y,H]at this;simpa using this.1.1
  ·have B:i<l.length:=by omega
   have J:j<l.length:=by omega
   have:=P2 i j q u B J;cases z:R i<;>simp only[z,Rec.cZ,Bool.false_eq_true]at y
   rename_i b' off ds d';simp only[beq_iff_eq]at y;subst y;simp only[Info.pair,zLq,z,H]at this;have h9:=this.1.1;rcases(by simpa using h9:i=j∨_∧((A.getD i 0).testBit j=true∧j<i∨(A.getD j 0).testBit i=true∧i<j))with h9|h9
   ·exact .inl h9
   ·exact .inr h9.2
  ·have B:i<l.length:=by omega
   have J:j<l.length:=by omega
   have:=P2 i j q u B J;cases z:R i<;>simp only[z,Rec.dx,Bool.false_eq_true]at y
   rename_i b' off ds d';simp only[beq_iff_eq]at y;subst y;simp only[Info.pair,zLq,z,H]at this;simpa using this.1.1
  ·have B:i<l.length:=by omega
   have:=P1 i q B;cases z:R i<;>simp only[z,Rec.dx,Bool.false_eq_true]at y
   simp only[beq_iff_eq]at y;subst y;simp only[Info.lone,z,Nat.ble_eq]at this;simp only[St.fs,List.getD_eq_getElem?_getD];rw[alX (by omega)];rfl
  ·have B:i<l.length:=by omega
   have J:j<l.length:=by omega
   have:=P2 i j q u B J;have HM:(dL ops l[i]).contains t=true:=by simpa [B]using y
   simp only[Info.pair,zLq,H,HM]at this;simpa using this.1.2
  ·have B:i<l.length:=by omega
   have J:j<l.length:=by omega
   have:=P2 i j q u B J;simp only[Info.pair,zLq,y,H]at this;simpa using this.2.1
  ·have B:i<l.length:=by omega
   have J:j<l.length:=by omega
   have:=P2 i j q u B J;simp only[Info.pair,zLq,y,H]at this;simpa using this.2.2
  ·have B:i<l.length:=by omega
   have:=P1 i q B;cases z:R i<;>simp only[z,Rec.cZ,Bool.false_eq_true]at y
   simp only[beq_iff_eq]at y;subst y;simpa [Info.lone,z]using this
  ·have B:i<l.length:=by omega
   have:=P1 i q B;cases z:R i<;>simp[Info.lone,z]at this<;>rfl
 have X:∀(L:Nat→Bool),(∀j(h:j<l.length),L j=true→∀d∈dK l[j],L d=true)→∀i(h:i<l.length),(∀d∈dK l[i],L d=true)→∀k,(A.getD i 0).testBit k=true→L k=true:=
  fun L tD=>AM iM U tD
 have Et:∀i,∀j(h:j<l.length),(Nat.blt j i)=true→∀d∈dK l[j],(Nat.blt d i)=true:=fun i j h u d T=>by
  rw[al6]at u⊢;have:=ph j h d T;omega
 have KZ:∀i,i≤m→kZ s.tmps.length s.fs dst R i=sL s.fs s.tmps.length m dst R (fun j=>Nat.blt j i):=by
  intro i;induction i with
  |zero=>
   intro _;have:∀j,Nat.blt j 0=false:=fun j=>by cases z:Nat.blt j 0 with|false=>rfl|true=>rw[al6]at z;omega
   have hz:(fun j=>Nat.blt j 0)=fun _=>false:=funext this
   rw[hz];simp only[kZ,sL,Bool.false_and];have hf:∀x:Option (List D),(List.range m).foldl (fun c j=>if false=true then Option.map (R j).stored c else c) x=x:=fun x=>JB (p:=fun _=>false) (f:=fun j c=>Option.map (R j).stored c) (fun _ _=>rfl)
   rw[yY (fun _ _=>rfl)]
   simp only[hf];have hz2:((List.range m).any fun _=>false)=false:=by rw[aor];intros;simp
   simp only[hz2,Bool.or_false]
  |succ i ih=>
   intro q;rw[kZ,ih (by omega),X6 ok (by omega) (by cases z:Nat.blt i i with|false=>rfl|true=>rw[al6]at z;omega)
    (fun j u Z k hk=>X _ (Et i) j (by omega) (Et i j (by omega) Z) k hk)]
   congr 1
   funext j
   rw[am3,amo,al6,al6,beq_iff_eq];omega
 subst hP;have NJ:∀(L:Nat→Bool)(i:Nat)(W:i<m)(q:i<l.length),L i=false→(∀j(h:j<l.length),L j=true→∀d∈dK l[j],L d=true)→(∀d∈dK l[i],L d=true)→
   ∀(a:Act)(w:World),Rel c s.tmps.length (sL s.fs s.tmps.length m dst R L) a w→∀K:Act→World→Prop,
   (∀F w',Rel c s.tmps.length (sL s.fs s.tmps.length m dst R (fun j=>L j||j==i)) F w'→K F w')→wpOpIn (Fw c.rd) 0 c.P ops Q i K a w:=by
  intro L i W q Z tD hrd a w aW K hK;obtain⟨N,Ek,Ej,VI,O,q2,q3,Y,-⟩:=D7 i q;rw[Ru]at O;rw[Rv]at q3;rw[KZ i (by omega)]at Y
  have hii:Nat.blt i i=false:=by cases z:Nat.blt i i with|false=>rfl|true=>rw[al6]at z;omega
  have ahb:∀d∈dK l[i],Nat.blt d i=true:=fun d T=>by rw[al6];exact ph i q d T
  have a1:=X L tD i q hrd;have a2:=X _ (Et i) i q ahb;have c1:∀j,j<m→L j=true→∀k,(A.getD j 0).testBit k=true→L k=true:=fun j u V=>X L tD j (by omega) (tD j (by omega) V)
  have c2:∀j,j<m→Nat.blt j i=true→∀k,(A.getD j 0).testBit k=true→Nat.blt k i=true:=fun j u V=>X _ (Et i) j (by omega) (Et i j (by omega) V)
  have rd:∀t,t∈dL ops l[i]→(sL s.fs s.tmps.length m dst R (fun j=>Nat.blt j i)).tmp t=(sL s.fs s.tmps.length m dst R L).tmp t:=fun t ht=>
   af3 (L:=fun j=>Nat.blt j i) (L':=L) ok W hii Z a2 a1 c2 c1 (by simp[q,ht])
  have q1':oP c.P inl ops l[i] ro gb (mxA dr gb N) (sL s.fs s.tmps.length m dst R L) N.blks N.b_ Ek=some (R i,Ej,VI):=by
   rw[Y]at O;refine DV (fun j want t hg T=>rd t ?_) (fun x hx=>?_) (fun b C=>?_) O (ok.He i W)
   ·simp[dL,hg,T]
   ·cases x with
    |tmp t=>exact rd t (by simp only[dL,List.mem_append,List.mem_filterMap];exact .inl ⟨.tmp t,hx,rfl⟩)
    |const v=>rfl
    |global g=>rfl
    |func f=>rfl
   ·rw[←Y,←q3]at C
    exact af4 (L:=fun j=>Nat.blt j i) (L':=L) ok W hii Z a2 a1 c2 c1 C
  have S:ops[i]? =some l[i]:=by rw[Eu];simp[q]
  unfold wpOpIn;simp only[S];have:=gR (r:=c.rd) nR rfl Ez hG h0 qP aW q1' q2 (fun b cs d nf C=>X5 ok W Z (by rw[C];simp[Rec.dx])) (fun C=>by have:=ok.He i W;cases hRi:R i<;>rw[hRi]at this C<;>first|(cases C;done)|(cases this;done)) (Q:=Q) (K:=K) (fun F w' I=>hK F w' (by
   rw[tX i q,X6 ok W Z c1]at I;exact I))
  exact this
 have GH:∀(i:Nat)(q:i<l.length)(a:Act)(w:World),Rel c s.tmps.length (kZ s.tmps.length s.fs dst R i) a w→∀K:Act→World→Prop,
   (∀F w',Rel c s.tmps.length (kZ s.tmps.length s.fs dst R (i+1)) F w'→K F w')→wpOpIn (Fw c.rd) 0 c.P ops Q i K a w:=by
  intro i q a w aW K hK;obtain⟨N,Ek,Ej,VI,O,q2,q3,Y,q5⟩:=D7 i q;rw[Ru]at O;have S:ops[i]? =some l[i]:=by rw[Eu];simp[q]
  unfold wpOpIn;simp only[S];rw[←Y]at aW;have:=gR (r:=c.rd) nR rfl Ez hG h0 qP aW O q2 (fun b cs d nf C=>by rw[(pI O).1 b cs d nf C];exact mA N) (fun _=>⟨fun b=>rfl,fun b=>rfl,by rw[←q5];exact vE N,CV _ N qP⟩) (Q:=Q) (K:=K) (fun F w' I=>hK F w' (by
   rw[tX i q,Y]at I;exact I))
  exact this
 have Dk:∀(L L':Nat→Bool),(∀j,j<m→L j=L' j)→sL s.fs s.tmps.length m dst R L=sL s.fs s.tmps.length m dst R L':=by
  intro L L' C;simp only[sL];congr 1
  ·funext t;congr 1;exact find_congr fun j u=>by rw[C j u]
  ·funext b
   have e1:(List.range m).find? (fun j=>L j&&(R j).dx b)=(List.range m).find? (fun j=>L' j&&(R j).dx b):=find_congr fun j u=>by rw[C j u]
   rw[e1];exact fold_congr fun j u=>by rw[C j u]
  ·funext b
   congr 1
   exact any_congr fun j u=>by rw[C j u]
 exact De (ops:=ops) (A:=A) hl hml hm ph X yQ (fun L=>sL s.fs s.tmps.length m dst R L) Dk KZ Rm NJ GH h hQ
def Info.SV(x y:Info):Bool:=
 (x.ix==y.ix||(match x.dst with|some t=>!(y.dst==some t)|none=>true))&&
 ((match y.dst with|some t=>!(x.reads.contains t)|none=>true)||(y.ix==x.ix||(x.jE.testBit y.ix||y.jE.testBit x.ix)))
def Fm(ops:Array Oper)(l:List Oper)(a:List (Rec×Option Nat)):Bool:=
 let xs:=infos ops 0 l a (Ik l [])
 let m:=BE (fun x=>x.rc.isVal) xs
 T' 0 l&&(((xs.take m).all fun x=>(xs.take m).all fun y=>x.SV y)&&(xs.drop m).all Info.LF)
structure abO(m:Nat)(dst:Nat→Option Tmp)(reads:Nat→Tmp→Bool)(R:Nat→Rec)(jE:Nat→Nat→Bool):Prop where
 WD:∀i j t,i<m→j<m→dst i=some t→dst j=some t→i=j
 Hc:∀i j t,i<m→j<m→reads i t=true→dst j=some t→j=i∨jE i j=true∨jE j i=true
 ahK:∀i,i<m→(R i).isVal=true
def vL(s0:FSt)(n m:Nat)(dst:Nat→Option Tmp)(R:Nat→Rec)(L:Nat→Bool):FSt where
 tmp:=fun t=>match(List.range m).find? (fun j=>L j&&(dst j==some t&&Nat.blt t n))with
  |some j=>(R j).put
  |none=>s0.tmp t
 blk:=s0.blk
 b_:=s0.b_
section ail
variable {s0:FSt} {n m:Nat} {dst:Nat→Option Tmp} {reads:Nat→Tmp→Bool} {R:Nat→Rec} {jE:Nat→Nat→Bool}
theorem WO(s:FSt)(n:Nat)(dst:Option Tmp){R:Rec}(h:R.isVal=true):s.app n dst R=s.put n dst R.put:=by
 cases R<;>first|rfl|(cases h;done)
theorem XB(ok:abO m dst reads R jE){L:Nat→Bool}{i:Nat}(b:i<m):(vL s0 n m dst R L).app n (dst i) (R i)=vL s0 n m dst R (fun j=>L j||j==i):=by
 have o:∀t,(vL s0 n m dst R (fun j=>L j||j==i)).tmp t=if dst i=some t∧t<n then(R i).put else(vL s0 n m dst R L).tmp t:=by
  intro t;simp only[vL];by_cases a:dst i=some t∧t<n
  ·have k:(List.range m).find? (fun j=>(L j||j==i)&&(dst j==some t&&Nat.blt t n))=some i:=C' b (by simp[a.1,a.2]) (fun j f e=>by
    simp only[zLq,beq_iff_eq]at e;exact(ok.WD i j t b f a.1 e.2.1).symm)
   rw[apB a,k]
  ·rw[apA a]
   congr 1
   refine find_congr fun j f=>?_
   by_cases d:j=i
   ·subst d
    have:(dst j==some t&&Nat.blt t n)=false:=by
     rw[Bool.and_eq_false_iff];by_cases h:dst j=some t
     ·right
      have c:¬t<n:=fun c=>a ⟨h,c⟩
      cases g:Nat.blt t n with
      |false=>rfl
      |true=>rw[al6]at g;exact apC g c
     ·left;simpa using h
    rw[this];simp
   ·have l:(j==i)=false:=by simpa using d
    simp only[l,Bool.or_false]
 rw[WO _ _ _ (ok.ahK i b)];have:(vL s0 n m dst R (fun j=>L j||j==i))=⟨(vL s0 n m dst R (fun j=>L j||j==i)).tmp,(vL s0 n m dst R L).blk,(vL s0 n m dst R L).b_⟩:=rfl
 rw[this];simp only[FSt.put];congr 1
 funext t;rw[o t]
theorem afM(ok:abO m dst reads R jE){L L':Nat→Bool}{i:Nat}(q:i<m)(f:L i=false)(a:L' i=false)
  (p:∀k,jE i k=true→L k=true) (g:∀k,jE i k=true→L' k=true)
  (l:∀j,j<m→L j=true→∀k,jE j k=true→L k=true) (d:∀j,j<m→L' j=true→∀k,jE j k=true→L' k=true) {t:Tmp} (o:reads i t=true):
  (vL s0 n m dst R L).tmp t=(vL s0 n m dst R L').tmp t:=by
 simp only[vL];congr 1;refine find_congr fun j c=>?_
 by_cases e:dst j=some t
 ·rcases ok.Hc i j t q c o e with rfl|h|h
  ·rw[f,a]
  ·rw[p j h,g j h]
  ·have s:L j=false:=by
    cases b:L j with
    |false=>rfl
    |true=>have:=l j c b i h;rw[f]at this;cases this
   have r:L' j=false:=by
    cases b:L' j with
    |false=>rfl
    |true=>have:=d j c b i h;rw[a]at this;cases this
   rw[s,r]
 ·have:(dst j==some t)=false:=by simpa using e
  rw[this];simp
end ail
theorem T9{c:Ctx}{Q:Exit→Act→World→Prop}{inl:Inline P Good}(nR:yo P Good inl){gb:Nat}(qP:c.gb≤gb)(hP:c.P=P)(Ez:c.Good=Good)(hG:aa Good)(h0:c.Good c.w0)(hm:P.follows .mixedOrders=true){id:Nat}{ops:Array Oper}{ro:List Nat}
  {s s':St} {tr tr':List (Item P Good)} {eqs:List (de×de)} {q:List (Rec×Option Nat)} {a:Act} {w:World}
  (hr:kU P inl true ops ro gb ops.toList s tr=some (s',tr',eqs,q)) (he:jI eqs) (Ew:Fm ops ops.toList q=true)
  (h:Rel c s.tmps.length s.fs a w) (hQ:∀y w',Rel c s.tmps.length s'.fs y w'→Q .normal y w'):(Code.region id ops true).wpIn (Fw c.rd) 0 P Q a w:=by
 obtain⟨C,Rm,D7⟩:=tM _ _ _ _ _ _ _ hr he;generalize hl:ops.toList=l at*;have Eu:∀i:Nat,ops[i]? =l[i]? :=fun i=>by rw[←hl];simp
 simp only[Fm,zLq,List.all_eq_true]at Ew;obtain⟨O,NM,ahj⟩:=Ew;have Z:∀i(h:i<l.length),∀d∈dK l[i],d<i:=fun i h d G=>by have:=EJ 0 l O i h d G;omega
 obtain⟨iM,H⟩:=E_ l l [] [] rfl rfl ⟨by simp,fun i h=>apC h (by simp)⟩ Z
 generalize hA:Ik l []=A at*;have Xl:=BM (ops:=ops) 0 l q A C H;have hxl:=C1 (ops:=ops) 0 l q A C H;simp only[Nat.zero_add]at Xl;have NR:=Gz (fun x=>x.rc.isVal) (infos ops 0 l q A)
 have T:=GA (fun x=>x.rc.isVal) (infos ops 0 l q A)
 generalize BE (fun x=>x.rc.isVal) (infos ops 0 l q A)=m at*
 rw[hxl]at T;have Au:∀j(h:j<m)(B:j<l.length),⟨j,l[j].dst,dL ops l[j],(q.getD j (.val .any,none)).1,(q.getD j (.val .any,none)).2,A.getD j 0⟩∈(infos ops 0 l q A).take m:=fun j h B=>
  an8.2 ⟨j,by rw[amA,apB h];exact Xl j B⟩
 have yQ:∀j(h:m≤j)(B:j<l.length),∀k,k<j→(A.getD j 0).testBit k=true:=fun j h B k hk=>by
  have:=ahj _ (an8.2 ⟨j-m,by rw[anh,show m+(j-m)=j by omega];exact Xl j B⟩)
  simp only[Info.LF]at this;have e:=anq this;rw[e,Nat.testBit_two_pow_sub_one];simpa using hk
 generalize Ro:(fun j:Nat=>(l[j]?).bind (fun x:Oper=>x.dst))=dst at*
 generalize hRR:(fun j:Nat=>(q.getD j (.val .any,none)).1)=R at*
 have Y:∀i(h:i<l.length),l[i].dst=dst i:=fun i h=>by rw[←Ro];simp[h]
 have Ru:∀i,(q.getD i (.val .any,none)).1=R i:=fun i=>by rw[←hRR]
 have ok:abO m dst (fun i t=>((l[i]?).map fun o=>(dL ops o).contains t)==some true) R (fun i j=>(A.getD i 0).testBit j):=by
  have P2:∀i j(V:i<m)(U:j<m)(p:i<l.length)(u:j<l.length),Info.SV ⟨i,dst i,dL ops l[i],R i,(q.getD i (.val .any,none)).2,A.getD i 0⟩ ⟨j,dst j,dL ops l[j],R j,(q.getD j (.val .any,none)).2,A.getD j 0⟩=true:=by
   intro i j V U p u;have:=NM _ (Au i V p) _ (Au j U u);simpa only[Y,Ru]using this
  refine⟨fun i j t p u h1 h2=>?_,fun i j t p u h1 h2=>?_,fun i p=>?_⟩
  ·have J:i<l.length:=by omega
   have HL:j<l.length:=by omega
   have:=P2 i j p u J HL;simp only[Info.SV,zLq,h1,h2]at this;simpa using this.1
  ·have J:i<l.length:=by omega
   have HL:j<l.length:=by omega
   have:=P2 i j p u J HL;have HM:(dL ops l[i]).contains t=true:=by simpa [J]using h1
   simp only[Info.SV,zLq,h2,HM]at this;simpa using this.2
  ·have J:i<l.length:=by omega
   have:=NR i _ p (Xl i J);simpa only[Y,Ru]using this
 have N:∀(L:Nat→Bool),(∀j(h:j<l.length),L j=true→∀d∈dK l[j],L d=true)→∀i(h:i<l.length),(∀d∈dK l[i],L d=true)→∀k,(A.getD i 0).testBit k=true→L k=true:=
  fun L M=>AM iM H M
 have Et:∀i,∀j(h:j<l.length),(Nat.blt j i)=true→∀d∈dK l[j],(Nat.blt d i)=true:=fun i j h u d G=>by
  rw[al6]at u⊢;have:=Z j h d G;omega
 have KZ:∀i,i≤m→kZ s.tmps.length s.fs dst R i=vL s.fs s.tmps.length m dst R (fun j=>Nat.blt j i):=by
  intro i;induction i with
  |zero=>
   intro _;have:∀j,Nat.blt j 0=false:=fun j=>by cases S:Nat.blt j 0 with|false=>rfl|true=>rw[al6]at S;omega
   have hz:(fun j=>Nat.blt j 0)=fun _=>false:=funext this
   rw[hz];simp only[kZ,vL,Bool.false_and];rw[yY (fun _ _=>rfl)]
  |succ i ih=>
   intro p;rw[kZ,ih (by omega),XB ok (by omega)]
   congr 1
   funext j
   rw[am3,amo,al6,al6,beq_iff_eq];omega
 subst hP;have NJ:∀(L:Nat→Bool)(i:Nat)(X:i<m)(p:i<l.length),L i=false→(∀j(h:j<l.length),L j=true→∀d∈dK l[j],L d=true)→(∀d∈dK l[i],L d=true)→
   ∀(a:Act)(w:World),Rel c s.tmps.length (vL s.fs s.tmps.length m dst R L) a w→∀K:Act→World→Prop,
   (∀y w',Rel c s.tmps.length (vL s.fs s.tmps.length m dst R (fun j=>L j||j==i)) y w'→K y w')→wpOpIn (Fw c.rd) 0 c.P ops Q i K a w:=by
  intro L i X p hL M hrd a w aW K hK;obtain⟨z,Ek,Ej,VI,E,q2,-,D,q5⟩:=D7 i p;rw[Ru]at E;rw[KZ i (by omega)]at D
  have hii:Nat.blt i i=false:=by cases S:Nat.blt i i with|false=>rfl|true=>rw[al6]at S;omega
  have ahb:∀d∈dK l[i],Nat.blt d i=true:=fun d G=>by rw[al6];exact Z i p d G
  have a1:=N L M i p hrd;have a2:=N _ (Et i) i p ahb;have c1:∀j,j<m→L j=true→∀k,(A.getD j 0).testBit k=true→L k=true:=fun j u I=>N L M j (by omega) (M j (by omega) I)
  have c2:∀j,j<m→Nat.blt j i=true→∀k,(A.getD j 0).testBit k=true→Nat.blt k i=true:=fun j u I=>N _ (Et i) j (by omega) (Et i j (by omega) I)
  have rd:∀t,t∈dL ops l[i]→(vL s.fs s.tmps.length m dst R (fun j=>Nat.blt j i)).tmp t=(vL s.fs s.tmps.length m dst R L).tmp t:=fun t O=>
   afM (L:=fun j=>Nat.blt j i) (L':=L) ok X hii hL a2 a1 c2 c1 (by simp[p,O])
  have hfs:∀b,s.fs.blk b=z.blks.getD b none:=fun b=>by
   have e:z.fs.blk b=s.fs.blk b:=by rw[D];rfl
   exact e.symm
  have hfn:∀b,s.fs.b_ b=z.b_.contains b:=fun b=>by
   have e:z.fs.b_ b=s.fs.b_ b:=by rw[D];rfl
   exact e.symm
  have q1':oP c.P inl ops l[i] ro gb (mxA true gb z) (vL s.fs s.tmps.length m dst R L) z.blks z.b_ Ek=some (R i,Ej,VI):=by
   rw[D]at E;refine KC (fun j want t hg G=>rd t ?_) (fun x hx=>?_) rfl rfl E (ok.ahK i X)
   ·simp[dL,hg,G]
   ·cases x with
    |tmp t=>exact rd t (by simp only[dL,List.mem_append,List.mem_filterMap];exact .inl ⟨.tmp t,hx,rfl⟩)
    |const v=>rfl
    |global g=>rfl
    |func f=>rfl
  have F:ops[i]? =some l[i]:=by rw[Eu];simp[p]
  unfold wpOpIn;simp only[F];have:=gR (r:=c.rd) nR rfl Ez hG h0 qP aW q1' q2 (fun b cs d nf W=>by have:=ok.ahK i X;rw[W]at this;cases this) (fun _=>⟨hfs,hfn,fun t O=>by
   simp only[vL];rw[yY (fun j _=>by
    have:Nat.blt t s.tmps.length=false:=by cases S:Nat.blt t s.tmps.length with|false=>rfl|true=>rw[al6]at S;omega
    rw[this];simp)]
   exact vE s t O,.inr rfl⟩) (Q:=Q) (K:=K) (fun y w' B=>hK y w' (by
   rw[Y i p,XB ok X]at B;exact B))
  exact this
 have GH:∀(i:Nat)(p:i<l.length)(a:Act)(w:World),Rel c s.tmps.length (kZ s.tmps.length s.fs dst R i) a w→∀K:Act→World→Prop,
   (∀y w',Rel c s.tmps.length (kZ s.tmps.length s.fs dst R (i+1)) y w'→K y w')→wpOpIn (Fw c.rd) 0 c.P ops Q i K a w:=by
  intro i p a w aW K hK;obtain⟨z,Ek,Ej,VI,E,q2,q3,D,q5⟩:=D7 i p;rw[Ru]at E;have F:ops[i]? =some l[i]:=by rw[Eu];simp[p]
  unfold wpOpIn;simp only[F];rw[←D]at aW;have:=gR (r:=c.rd) nR rfl Ez hG h0 qP aW E q2 (fun b cs d nf W=>by rw[(pI E).1 b cs d nf W];exact mA z) (fun _=>⟨fun b=>rfl,fun b=>rfl,by rw[←q5];exact vE z,CV _ z qP⟩) (Q:=Q) (K:=K) (fun y w' B=>hK y w' (by
   rw[Y i p,D]at B;exact B))
  exact this
 have Dk:∀(L L':Nat→Bool),(∀j,j<m→L j=L' j)→vL s.fs s.tmps.length m dst R L=vL s.fs s.tmps.length m dst R L':=by
  intro L L' W;simp only[vL];congr 1
  funext t;congr 1;exact find_congr fun j u=>by rw[W j u]
 exact De (ops:=ops) (A:=A) hl T hm Z N yQ (fun L=>vL s.fs s.tmps.length m dst R L) Dk KZ Rm NJ GH h hQ
def Rec.GF:Rec→Bool
 |.grow _ _ _=>true
 |_=>false
def Rec.K4:Rec→Nat→Bool
 |.grow a _ _,b=>a==b
 |_,_=>false
theorem FSt.N9{a b:FSt}(e:∀t,a.tmp t=b.tmp t)(d:∀k,a.blk k=b.blk k)(c:∀k,a.b_ k=b.b_ k):a=b:=by
 cases a;cases b;simp only[FSt.mk.injEq];exact⟨funext e,funext d,funext c⟩
def LU(gs:Nat→Bool)(R:Rec):Prop:=
 (∃d,R=.val d∧∀b∈d.refs,gs b=false)∨(∃b cs d,R=.new b cs d false∧(∀x∈cs,x.refs=[])∧(∀a∈d.refs,gs a=false)∧gs b=false)
def afC(gs:Nat→Bool)(R:Rec):Prop:=R.plain=true∨∃b cs d,R=.grow b cs d∧gs b=true
theorem B8{b:Nat}{d:D}(h:b∉d.refs):d.clear b=d:=by
 unfold D.clear;rw[apA (by simpa using h)]
theorem Wt{b:Nat}{cs:List D}(h:∀x∈cs,x.refs=[]):cs.map (D.clear b)=cs:=by
 rw[amQ fun x a=>B8 (by rw[h x a];simp)];exact List.map_id' cs
theorem JN{gs:Nat→Bool}{u o:Rec}{g i:Option Tmp}{n:Nat}(B:LU gs u)(j:afC gs o)(w:∀t,g=some t→i≠some t)
  (F:∀b,u.dx b=true→o.dx b=false∧o.cZ b=false) (s:FSt):(s.app n i o).app n g u=(s.app n g u).app n i o:=by
 have xz:∀(x y:D)(f:Nat→D)(t:Nat),(if g=some t∧t<n then x else if i=some t∧t<n then y else f t)=if i=some t∧t<n then y else if g=some t∧t<n then x else f t:=by
  intro x y f t;by_cases c:g=some t
  ·have:=w t c
   simp[this]
  ·simp[c]
 rcases B with⟨d,rfl,v⟩|⟨b,cs,d,rfl,E,v,C⟩
 ·rcases j with j|⟨a,cs',l,rfl,r⟩
  ·cases o<;>first|(cases j;done)|exact FSt.N9 (fun t=>xz _ _ _ t) (fun k=>rfl) (fun k=>rfl)
  ·have e:d.clear a=d:=B8 fun h=>by have:=v a h;rw[r]at this;cases this
   refine FSt.N9 (fun t=>?_) (fun k=>rfl) (fun k=>rfl)
   show(if g=some t∧t<n then d else if i=some t∧t<n then l else(s.tmp t).clear a)=if i=some t∧t<n then l else(if g=some t∧t<n then d else s.tmp t).clear a
   by_cases c:g=some t∧t<n
   ·have:=w t c.1
    rw[apB c,apB c,apA (fun h=>this h.1),e]
   ·rw[apA c,apA c]
 ·obtain⟨A,z⟩:=F b (by simp[Rec.dx])
  rcases j with j|⟨a,cs',l,rfl,r⟩
  ·cases o with
   |grow=>cases j
   |own=>cases j
   |inl=>cases j
   |val l=>exact FSt.N9 (fun t=>xz _ _ _ t) (fun k=>rfl) (fun k=>rfl)
   |new a cs' l q=>
    have p:a≠b:=by simpa [Rec.dx]using A
    refine FSt.N9 (fun t=>xz _ _ _ t) (fun k=>?_) (fun k=>?_)
    ·show(if k=b then some cs else if k=a then some cs' else s.blk k)=if k=a then some cs' else if k=b then some cs else s.blk k
     by_cases h:k=b
     ·rw[apB h,apA (by rw[h];exact anm p),apB h]
     ·rw[apA h,apA h]
    ·show((s.b_ k||(q&&(k==a)))||(false&&(k==b)))=((s.b_ k||(false&&(k==b)))||(q&&(k==a)))
     simp
   |store a off G l q=>
    have p:a≠b:=by simpa [Rec.cZ]using z
    refine FSt.N9 (fun t=>xz _ _ _ t) (fun k=>?_) (fun k=>?_)
    ·show(if k=b then some cs else if k=a then(s.blk a).map _ else s.blk k)=if k=a then(if a=b then some cs else s.blk a).map _ else if k=b then some cs else s.blk k
     rw[apA p];by_cases h:k=b
     ·rw[apB h,apA (by rw[h];exact anm p),apB h]
     ·rw[apA h,apA h]
    ·show((s.b_ k||(q&&(k==a)))||(false&&(k==b)))=((s.b_ k||(false&&(k==b)))||(q&&(k==a)))
     simp
  ·have p:a≠b:=fun e=>by rw[e,C]at r;cases r
   have e:d.clear a=d:=B8 fun h=>by have:=v a h;rw[r]at this;cases this
   refine FSt.N9 (fun t=>?_) (fun k=>?_) (fun k=>?_)
   ·show(if g=some t∧t<n then d else if i=some t∧t<n then l else(s.tmp t).clear a)=if i=some t∧t<n then l else(if g=some t∧t<n then d else s.tmp t).clear a
    by_cases c:g=some t∧t<n
    ·have:=w t c.1
     rw[apB c,apB c,apA (fun h=>this h.1),e]
    ·rw[apA c,apA c]
   ·show(if k=b then some cs else if k=a then some cs' else if s.b_ k then(s.blk k).map (List.map (D.clear a))else s.blk k)=
     if k=a then some cs' else if(s.b_ k||(false&&(k==b)))then(if k=b then some cs else s.blk k).map (List.map (D.clear a))else(if k=b then some cs else s.blk k)
    by_cases h:k=b
    ·rw[apB h,apA (by rw[h];exact anm p),apB h,Option.map_some,Wt E]
     split<;>rfl
    ·rw[apA h,apA h]
     simp
   ·show((s.b_ k||(false&&(k==a)))||(false&&(k==b)))=((s.b_ k||(false&&(k==b)))||(false&&(k==a)))
    simp
def gL(s0:FSt)(n:Nat)(dst:Nat→Option Tmp)(R:Nat→Rec)(L:Nat→Bool)(m:Nat):FSt:=(List.range m).foldl (fun s j=>if L j then s.app n (dst j) (R j)else s) s0
theorem v9(s0:FSt)(n:Nat)(dst:Nat→Option Tmp)(R:Nat→Rec)(L:Nat→Bool)(m:Nat):gL s0 n dst R L (m+1)=if L m then(gL s0 n dst R L m).app n (dst m) (R m)else gL s0 n dst R L m:=by
 unfold gL;rw[ang,am9];rfl
theorem xY{s0:FSt}{n:Nat}{dst:Nat→Option Tmp}{R:Nat→Rec}{L L':Nat→Bool}:∀{m:Nat},(∀j,j<m→L j=L' j)→gL s0 n dst R L m=gL s0 n dst R L' m
 |0,_=>rfl
 |m+1,h=>by rw[v9,v9,xY (m:=m) fun j a=>h j (by omega),h m (by omega)]
theorem Rw{s0:FSt}{n:Nat}{dst:Nat→Option Tmp}{R:Nat→Rec}{L:Nat→Bool}{i:Nat}(c:L i=false):∀{m:Nat},i<m→(∀j,i<j→j<m→L j=true→∀s:FSt,(s.app n (dst j) (R j)).app n (dst i) (R i)=(s.app n (dst i) (R i)).app n (dst j) (R j))→
  (gL s0 n dst R L m).app n (dst i) (R i)=gL s0 n dst R (fun j=>L j||j==i) m
 |0,f,_=>by omega
 |m+1,f,b=>by
  rw[v9,v9];by_cases d:m=i
  ·subst d
   rw[c];simp only[beq_self_eq_true,Bool.or_true,if_true,Bool.false_eq_true,if_false];rw[xY (L:=L) (L':=fun j=>L j||j==m) fun j l=>by
    have:(j==m)=false:=by rw[beq_eq_false_iff_ne];omega
    rw[this,Bool.or_false]]
  ·have g:(m==i)=false:=by simpa using d
   simp only[g,Bool.or_false];have a:=Rw (s0:=s0) (n:=n) (dst:=dst) (R:=R) c (m:=m) (by omega) fun j k o h=>b j k (by omega) h
   cases e:L m with
   |true=>simp only[if_true];rw[b m (by omega) (by omega) e,a]
   |false=>simp only[Bool.false_eq_true,if_false];exact a
theorem K7{s0:FSt}{n:Nat}{dst:Nat→Option Tmp}{R:Nat→Rec}:∀{m i:Nat},i≤m→gL s0 n dst R (fun j=>Nat.blt j i) m=kZ n s0 dst R i
 |0,i,h=>by
  obtain rfl:i=0:=by omega
  rfl
 |m+1,i,h=>by
  rw[v9];by_cases b:i=m+1
  ·subst b
   have:Nat.blt m (m+1)=true:=by rw[al6];omega
   rw[this];simp only[if_true];rw[xY (L:=fun j=>Nat.blt j (m+1)) (L':=fun j=>Nat.blt j m) fun j c=>by rw[am3,al6,al6];omega,K7 (alE m)]
   rfl
  ·have:Nat.blt m i=false:=by cases a:Nat.blt m i with|false=>rfl|true=>rw[al6]at a;omega
   rw[this];simp only[Bool.false_eq_true,if_false];exact K7 (by omega)
structure ub(s0:FSt)(m:Nat)(dst:Nat→Option Tmp)(reads:Nat→Tmp→Bool)(R:Nat→Rec)(acc:Nat→Option Nat)(jE:Nat→Nat→Bool)(lt:Nat→Prop)(gs:Nat→Bool):Prop where
 RT:∀i j,i<m→j<m→i≠j→jE i j=false→jE j i=false→lt i∨lt j
 WD:∀i j t,i<m→j<m→i≠j→jE i j=false→jE j i=false→dst i=some t→dst j≠some t
 ajU:∀i j b,i<m→j<m→i≠j→jE i j=false→jE j i=false→(R i).dx b=true→(R j).dx b=false∧(R j).cZ b=false
 Hc:∀i j t,i<m→j<m→i≠j→jE i j=false→jE j i=false→reads i t=true→dst j≠some t
 alr:∀i j b,i<m→j<m→i≠j→jE i j=false→jE j i=false→acc i=some b→(R j).dx b=false∧(R j).cZ b=false∧(R j).GF=false
 cLV:∀i,i<m→lt i→LU gs (R i)
 Hg:∀i,i<m→afC gs (R i)
 alq:∀i t,i<m→lt i→reads i t=true→∀b∈(s0.tmp t).refs,gs b=false
 cLR:∀i j t,i<m→j<m→j≠i→lt i→reads i t=true→dst j=some t→lt j
 ael:∀i b,i<m→(R i).dx b=true→s0.blk b=none
 ajT:∀i j b,i<m→j<m→i≠j→(R i).dx b=true→(R j).dx b=false∧((R j).cZ b=true∨(R j).K4 b=true→jE j i=true)
section stepG
variable {s0:FSt} {n m:Nat} {dst:Nat→Option Tmp} {reads:Nat→Tmp→Bool} {R:Nat→Rec} {acc:Nat→Option Nat} {jE:Nat→Nat→Bool} {lt:Nat→Prop} {gs:Nat→Bool}
theorem Oi(ok:ub s0 m dst reads R acc jE lt gs){i j:Nat}(c:i<m)(a:j<m)(d:i≠j)(f:jE i j=false)(e:jE j i=false)(s:FSt):
  (s.app n (dst j) (R j)).app n (dst i) (R i)=(s.app n (dst i) (R i)).app n (dst j) (R j):=by
 rcases ok.RT i j c a d f e with h|h
 ·exact JN (ok.cLV i c h) (ok.Hg j a) (fun t=>ok.WD i j t c a d f e) (fun b=>ok.ajU i j b c a d f e) s
 ·exact(JN (ok.cLV j a h) (ok.Hg i c) (fun t=>ok.WD j i t a c (anm d) e f) (fun b=>ok.ajU j i b a c (anm d) e f) s).symm
theorem ahp(ok:ub s0 m dst reads R acc jE lt gs)(f:∀i j,i<m→jE i j=true→j<i){L:Nat→Bool}{i:Nat}(b:i<m)(c:L i=false)(e:∀j,j<m→L j=true→∀k,jE j k=true→L k=true):
  (gL s0 n dst R L m).app n (dst i) (R i)=gL s0 n dst R (fun j=>L j||j==i) m:=by
 refine Rw c b fun j h d g s=>Oi ok b d (by omega) ?_ ?_ s
 ·cases a:jE i j with
  |false=>rfl
  |true=>have:=f i j b a;omega
 ·cases a:jE j i with
  |false=>rfl
  |true=>have:=e j d g i a;rw[c]at this;cases this
theorem D9(ok:ub s0 m dst reads R acc jE lt gs){L:Nat→Bool}{i:Nat}(u:i<m)(x:lt i)(y:L i=false){t:Tmp}(r:reads i t=true):∀m',m'≤m→∀b∈((gL s0 n dst R L m').tmp t).refs,gs b=false
 |0,_,b,f=>ok.alq i t u x r b f
 |m'+1,hm,b,f=>by
  rw[v9]at f;have o:=D9 ok u x y r m' (by omega)
  split at f
  ·rename_i p
   have B:m'≠i:=fun e=>by rw[e,y]at p;cases p
   have put:∀(s:FSt)(d:D),(dst m'=some t→∀b∈d.refs,gs b=false)→(∀b∈(s.tmp t).refs,gs b=false)→b∈((s.put n (dst m') d).tmp t).refs→gs b=false:=fun s d A w z=>by
    have j:b∈(if dst m'=some t∧t<n then d else s.tmp t).refs:=z
    by_cases v:dst m'=some t∧t<n
    ·rw[apB v]at j;exact A v.1 b j
    ·rw[apA v]at j;exact w b j
   have lit:dst m'=some t→LU gs (R m'):=fun e=>ok.cLV m' (by omega) (ok.cLR i m' t u (by omega) B x r e)
   have k:=ok.Hg m' (by omega)
   cases c:R m' with
   |val d=>
    rw[c]at f;refine put _ d (fun e=>?_) o f
    rcases lit e with⟨l,a,h⟩|⟨g,cs,l,a,-⟩
    ·rw[c]at a;cases a;exact h
    ·rw[c]at a;cases a
   |new g cs d q=>
    rw[c]at f;refine put (FSt.bS _ g (some cs) q) d (fun e=>?_) o f
    rcases lit e with⟨l,a,h⟩|⟨g,cs,l,a,_,h,_⟩
    ·rw[c]at a;cases a
    ·rw[c]at a;cases a;exact h
   |store g off E d q=>
    rw[c]at f;refine put (FSt.bS _ g _ q) d (fun e=>?_) o f
    rcases lit e with⟨l,a,h⟩|⟨g,cs,l,a,-⟩
    ·rw[c]at a;cases a
    ·rw[c]at a;cases a
   |grow g cs d=>
    rw[c]at f;refine put (FSt.bS (FSt.clear _ g) g (some cs) false) d (fun e=>?_) (fun C w=>o C (wA w).1) f
    rcases lit e with⟨l,a,h⟩|⟨g,cs,l,a,-⟩
    ·rw[c]at a;cases a
    ·rw[c]at a;cases a
   |own d=>
    rcases k with k|⟨_,_,_,e,_⟩
    ·rw[c]at k;cases k
    ·rw[c]at e;cases e
   |inl bl nl d=>
    rcases k with k|⟨_,_,_,e,_⟩
    ·rw[c]at k;cases k
    ·rw[c]at e;cases e
  ·exact o b f
theorem WN(ok:ub s0 m dst reads R acc jE lt gs){i j:Nat}(v:i<m)(o:j<m)(r:i≠j)(x:jE i j=false)(w:jE j i=false){s:FSt}(F:lt i→∀t,reads i t=true→∀b∈(s.tmp t).refs,gs b=false):
  (∀t,reads i t=true→(s.app n (dst j) (R j)).tmp t=s.tmp t)∧(∀b,acc i=some b→(s.app n (dst j) (R j)).blk b=s.blk b)∧(¬lt i→(s.app n (dst j) (R j)).b_=s.b_):=by
 have G:∀t,reads i t=true→dst j≠some t:=fun t=>ok.Hc i j t v o r x w
 have z:∀b,acc i=some b→(R j).dx b=false∧(R j).cZ b=false∧(R j).GF=false:=fun b=>ok.alr i j b v o r x w
 have l:∀(s:FSt)(d:D) t,reads i t=true→(s.put n (dst j) d).tmp t=s.tmp t:=fun s d t u=>apA fun h=>G t u h.1
 have B:¬lt i→LU gs (R j):=fun h=>ok.cLV j o ((ok.RT i j v o r x w).resolve_left h)
 have g:=ok.Hg j o;cases c:R j with
 |val d=>exact⟨l s d,fun b _=>rfl,fun _=>rfl⟩
 |new a cs d E=>
  refine⟨l _ d,fun b p=>?_,fun h=>?_⟩
  ·have:=(z b p).1
   rw[c]at this;have A:a≠b:=by simpa [Rec.dx]using this
   show(if b=a then some cs else s.blk b)=s.blk b
   rw[apA (anm A)]
  ·rcases B h with⟨q,f,-⟩|⟨a,cs,q,f,-⟩
   ·rw[c]at f;cases f
   ·rw[c]at f;cases f
    funext k
    show(s.b_ k||(false&&(k==a)))=s.b_ k
    simp
 |store a off I d E=>
  refine⟨l _ d,fun b p=>?_,fun h=>?_⟩
  ·have:=(z b p).2.1
   rw[c]at this;have A:a≠b:=by simpa [Rec.cZ]using this
   show(if b=a then _ else s.blk b)=s.blk b
   rw[apA (anm A)]
  ·rcases B h with⟨q,f,-⟩|⟨a,cs,q,f,-⟩<;>(rw[c]at f;cases f)
 |grow a cs d=>
  have y:gs a=true:=by
   rcases g with g|⟨_,_,_,e,y⟩
   ·rw[c]at g;cases g
   ·rw[c]at e;cases e;exact y
  have C:lt i:=by
   rcases ok.RT i j v o r x w with h|h
   ·exact h
   ·rcases ok.cLV j o h with⟨q,f,-⟩|⟨a,cs,q,f,-⟩<;>(rw[c]at f;cases f)
  refine⟨fun t u=>?_,fun b p=>?_,fun h=>apC C h⟩
  ·have H:=l ((s.clear a).bS a (some cs) false) d t u
   show(((s.clear a).bS a (some cs) false).put n (dst j) d).tmp t=s.tmp t;rw[H];exact B8 fun h=>by have:=F C t u a h;rw[y]at this;cases this
  ·have:=(z b p).2.2
   rw[c]at this;cases this
 |own d=>
  rcases g with g|⟨_,_,_,e,_⟩
  ·rw[c]at g;cases g
  ·rw[c]at e;cases e
 |inl bl nl d=>
  rcases g with g|⟨_,_,_,e,_⟩
  ·rw[c]at g;cases g
  ·rw[c]at e;cases e
def Looks(reads:Nat→Tmp→Bool)(acc:Nat→Option Nat)(lt:Nat→Prop)(i:Nat)(a b:FSt):Prop:=
 (∀t,reads i t=true→b.tmp t=a.tmp t)∧(∀k,acc i=some k→b.blk k=a.blk k)∧(¬lt i→b.b_=a.b_)
theorem Tp(ok:ub s0 m dst reads R acc jE lt gs)(G:∀i j,i<m→jE i j=true→j<i){i:Nat}(z:i<m){S S':Nat→Bool}(g:∀j,S j=true→S' j=true)
  (F:∀j,j<m→S j=true→∀k,jE j k=true→S k=true) (d:S' i=false) (p:∀k,k<m→S' k=true→S k=false→jE i k=false∧jE k i=false):
  Looks reads acc lt i (gL s0 n dst R S m) (gL s0 n dst R S' m):=by
 have key:∀k,k≤m→Looks reads acc lt i (gL s0 n dst R S m) (gL s0 n dst R (fun j=>S j||(S' j&&Nat.blt j k)) m):=by
  intro k;induction k with
  |zero=>
   intro _;have e:(fun j=>S j||(S' j&&Nat.blt j 0))=S:=by
    funext j
    have:Nat.blt j 0=false:=by cases a:Nat.blt j 0 with|false=>rfl|true=>rw[al6]at a;omega
    rw[this];simp
   rw[e];exact⟨fun _ _=>rfl,fun _ _=>rfl,fun _=>rfl⟩
  |succ k f=>
   intro M;have f:=f (by omega)
   by_cases c:S k=false∧S' k=true
   ·obtain⟨E,D⟩:=p k (by omega) c.2 c.1
    have r:i≠k:=fun e=>by rw[←e]at c;rw[d]at c;cases c.2
    have q:Nat.blt k k=false:=by cases a:Nat.blt k k with|false=>rfl|true=>rw[al6]at a;omega
    have H:(fun j=>S j||(S' j&&Nat.blt j k)) k=false:=by simp only[c.1,c.2,q];rfl
    have add:=Rw (s0:=s0) (n:=n) (dst:=dst) (R:=R) (L:=fun j=>S j||(S' j&&Nat.blt j k)) (i:=k) H (m:=m) (by omega) (fun j N A J s=>by
     have v:S j=true:=by
      have:Nat.blt j k=false:=by cases a:Nat.blt j k with|false=>rfl|true=>rw[al6]at a;omega
      simpa [this]using J
     refine Oi ok (by omega) A (by omega) ?_ ?_ s
     ·cases a:jE k j with
      |false=>rfl
      |true=>have:=G k j (by omega) a;omega
     ·cases a:jE j k with
      |false=>rfl
      |true=>have:=F j A v k a;rw[c.1]at this;cases this)
    have e:(fun j=>(S j||(S' j&&Nat.blt j k))||j==k)=fun j=>S j||(S' j&&Nat.blt j (k+1)):=by
     funext j
     rw[am3];simp only[Bool.or_eq_true,zLq,Nat.blt_eq,beq_iff_eq];constructor
     ·rintro((h|⟨h,w⟩)|h)
      ·exact .inl h
      ·exact .inr ⟨h,by omega⟩
      ·subst h;exact .inr ⟨c.2,by omega⟩
     ·rintro(h|⟨h,w⟩)
      ·exact .inl (.inl h)
      ·by_cases y:j=k
       ·exact .inr y
       ·exact .inl (.inr ⟨h,by omega⟩)
    rw[e]at add;have u:(fun j=>S j||(S' j&&Nat.blt j k)) i=false:=by
     have x:S i=false:=by
      cases a:S i with
      |false=>rfl
      |true=>have:=g i a;rw[d]at this;cases this
     simp only[d,x];rfl
    obtain⟨a1,C,B⟩:=WN (n:=n) ok z (by omega:k<m) r E D (s:=gL s0 n dst R (fun j=>S j||(S' j&&Nat.blt j k)) m) (fun K t l=>D9 ok z K u l m (alE m))
    rw[add]at a1 C B;exact⟨fun t l=>(a1 t l).trans (f.1 t l),fun b o=>(C b o).trans (f.2.1 b o),fun h=>(B h).trans (f.2.2 h)⟩
   ·have e:(fun j=>S j||(S' j&&Nat.blt j (k+1)))=fun j=>S j||(S' j&&Nat.blt j k):=by
     funext j
     rw[am3];simp only[Bool.or_eq_true,zLq,Nat.blt_eq];constructor
     ·rintro(h|⟨h,w⟩)
      ·exact .inl h
      ·by_cases y:j=k
       ·subst y
        left
        cases a:S j with
        |true=>rfl
        |false=>exact apC ⟨a,h⟩ c
       ·exact .inr ⟨h,by omega⟩
     ·rintro(h|⟨h,w⟩)
      ·exact .inl h
      ·exact .inr ⟨h,by omega⟩
    rw[e];exact f
 have:=key m (alE m)
 rwa [xY (L:=fun j=>S j||(S' j&&Nat.blt j m)) (L':=S') fun j I=>by
  have o:Nat.blt j m=true:=by rw[al6];exact I
  rw[o,aoD];cases a:S j with
  |true=>rw[g j a];rfl
  |false=>rfl]at this
theorem aay(ok:ub s0 m dst reads R acc jE lt gs)(d:∀i j,i<m→jE i j=true→j<i){L:Nat→Bool}{i:Nat}(o:i<m)(w:L i=false)
  (q:∀j,j<m→L j=true→∀k,jE j k=true→L k=true) (x:∀k,jE i k=true→L k=true):
  Looks reads acc lt i (gL s0 n dst R L m) (gL s0 n dst R (fun j=>Nat.blt j i) m):=by
 have l:Nat.blt i i=false:=by cases a:Nat.blt i i with|false=>rfl|true=>rw[al6]at a;omega
 have v:(fun j=>L j||Nat.blt j i) i=false:=by simp only[w,l];rfl
 have r:∀k,k<m→(L k||Nat.blt k i)=true→jE k i=false:=fun k c h=>by
  cases a:jE k i with
  |false=>rfl
  |true=>
   rw[amo,al6]at h;rcases h with h|h
   ·have:=q k c h i a;rw[w]at this;cases this
   ·have:=d k i c a;omega
 have g:=Tp (n:=n) ok d o (S:=L) (S':=fun j=>L j||Nat.blt j i) (fun j h=>by simp[h]) q v (fun k c p e=>⟨(by
  cases a:jE i k with
  |false=>rfl
  |true=>have:=x k a;rw[e]at this;cases this),r k c p⟩)
 have f:=Tp (n:=n) ok d o (S:=fun j=>Nat.blt j i) (S':=fun j=>L j||Nat.blt j i) (fun j h=>by simp[h]) (fun j y h k c=>by
  rw[al6]at h⊢;have:=d j k y c;omega) v (fun k c p e=>⟨(by
  cases a:jE i k with
  |false=>rfl
  |true=>
   have:=d i k o a;have z:Nat.blt k i=true:=by rw[al6];exact this
   rw[z]at e;cases e),r k c p⟩)
 exact⟨fun t s=>(f.1 t s).symm.trans (g.1 t s),fun b u=>(f.2.1 b u).symm.trans (g.2.1 b u),fun h=>(f.2.2 h).symm.trans (g.2.2 h)⟩
theorem N3(ok:ub s0 m dst reads R acc jE lt gs){L:Nat→Bool}{i b:Nat}(q:i<m)(s:L i=false)(r:(R i).dx b=true)(t:∀j,j<m→L j=true→∀k,jE j k=true→L k=true):∀m',m'≤m→(gL s0 n dst R L m').blk b=none
 |0,_=>ok.ael i b q r
 |m'+1,hm=>by
  rw[v9];have l:=N3 ok q s r t m' (by omega)
  split
  ·rename_i g
   have x:i≠m':=fun e=>by rw[←e,s]at g;cases g
   obtain⟨u,w⟩:=ok.ajT i m' b q (by omega) x r
   have p:¬((R m').cZ b=true∨(R m').K4 b=true):=fun h=>by have:=t m' (by omega) g i (w h);rw[s]at this;cases this
   have c:=ok.Hg m' (by omega)
   cases f:R m' with
   |val d=>exact l
   |new a cs d v=>
    rw[f]at u;have o:a≠b:=by simpa [Rec.dx]using u
    show(if b=a then some cs else _)=none
    rw[apA (anm o)];exact l
   |store a off y d v=>
    rw[f]at p;have o:a≠b:=fun e=>p (.inl (by simp[Rec.cZ,e]))
    show(if b=a then _ else(gL s0 n dst R L m').blk b)=none
    rw[apA (anm o)];exact l
   |grow a cs d=>
    rw[f]at p;have o:a≠b:=fun e=>p (.inr (by simp[Rec.K4,e]))
    show(if b=a then some cs else if(gL s0 n dst R L m').b_ b then((gL s0 n dst R L m').blk b).map (List.map (D.clear a))else(gL s0 n dst R L m').blk b)=none
    rw[apA (anm o),l];simp
   |own d=>
    rcases c with c|⟨_,_,_,e,_⟩
    ·rw[f]at c;cases c
    ·rw[f]at e;cases e
   |inl bl nl d=>
    rcases c with c|⟨_,_,_,e,_⟩
    ·rw[f]at c;cases c
    ·rw[f]at e;cases e
  ·exact l
end stepG
def Info.aar(x:Info):List Nat:=match x.rc with
 |.grow b _ _=>[b]
 |_=>[]
def Info.BD(gs:List Nat)(x:Info):Bool:=match x.rc with
 |.val d=>d.refs.all fun b=>!gs.contains b
 |.new b cs d a=>!a&&(cs.all (fun c=>c.refs.isEmpty)&&((d.refs.all fun b=>!gs.contains b)&& !gs.contains b))
 |_=>false
def Info.Y4(gs:List Nat)(x y:Info):Bool:=
 (x.ix==y.ix||(x.jE.testBit y.ix||y.jE.testBit x.ix))||
  ((x.BD gs||y.BD gs)&&
  ((match x.dst with|some t=>!(y.dst==some t)|none=>true)&&
  ((match x.rc with|.new b _ _ _=>!(y.rc.dx b)&& !(y.rc.cZ b)|_=>true)&&
  ((match y.dst with|some t=>!(x.reads.contains t)|none=>true)&&
  (match x.acc with|some b=>!(y.rc.dx b)&&(!(y.rc.cZ b)&& !y.rc.GF)|none=>true)))))
def Info.I7(gs:List Nat)(x y:Info):Bool:=
 x.ix==y.ix||((!(x.BD gs)||(match y.dst with|some t=>!(x.reads.contains t)||y.BD gs|none=>true))&&
  (match x.rc with|.new b _ _ _=>!(y.rc.dx b)&&((!(y.rc.cZ b)&& !(y.rc.K4 b))||y.jE.testBit x.ix)|_=>true))
def Info.No(gs:List Nat)(tmps:List D)(a:Nat)(x:Info):Bool:=
 (x.rc.plain||x.rc.GF)&&((!(x.BD gs)||x.reads.all fun t=>(tmps.getD t .any).refs.all fun b=>!gs.contains b)&&
  (match x.rc with|.new b _ _ _=>Nat.ble a b|_=>true))
def AB(ops:Array Oper)(s:St)(l:List Oper)(a:List (Rec×Option Nat)):Bool:=
 let xs:=infos ops 0 l a (Ik l [])
 let gs:=xs.flatMap Info.aar
 T' 0 l&&(xs.all (Info.No gs s.tmps s.blks.length)&&xs.all fun x=>xs.all fun y=>x.Y4 gs y&&x.I7 gs y)
theorem N6{dr:Bool}{c:Ctx}{Q:Exit→Act→World→Prop}{inl:Inline P Good}(nR:yo P Good inl){gb:Nat}(qP:c.gb≤gb)(hP:c.P=P)(Ez:c.Good=Good)(hG:aa Good)(h0:c.Good c.w0)(hm:P.follows .mixedOrders=true){id:Nat}{ops:Array Oper}{ro:List Nat}
  {s s':St} {tr tr':List (Item P Good)} {eqs:List (de×de)} {F:List (Rec×Option Nat)} {a:Act} {w:World}
  (hr:kU P inl dr ops ro gb ops.toList s tr=some (s',tr',eqs,F)) (he:jI eqs) (Ew:AB ops s ops.toList F=true)
  (h:Rel c s.tmps.length s.fs a w) (hQ:∀T w',Rel c s.tmps.length s'.fs T w'→Q .normal T w'):(Code.region id ops true).wpIn (Fw c.rd) 0 P Q a w:=by
 obtain⟨V,Rm,D7⟩:=tM _ _ _ _ _ _ _ hr he;generalize hl:ops.toList=l at*;have Eu:∀i:Nat,ops[i]? =l[i]? :=fun i=>by rw[←hl];simp
 simp only[AB,zLq,List.all_eq_true]at Ew;obtain⟨ht,NR,NM⟩:=Ew;have ph:∀i(h:i<l.length),∀d∈dK l[i],d<i:=fun i h d W=>by have:=EJ 0 l ht i h d W;omega
 obtain⟨iM,X⟩:=E_ l l [] [] rfl rfl ⟨by simp,fun i h=>apC h (by simp)⟩ ph
 generalize hA:Ik l []=A at*;have Xl:=BM (ops:=ops) 0 l F A V X;simp only[Nat.zero_add]at Xl;have Au:∀j(G:j<l.length),⟨j,l[j].dst,dL ops l[j],(F.getD j (.val .any,none)).1,(F.getD j (.val .any,none)).2,A.getD j 0⟩∈infos ops 0 l F A:=fun j G=>
  an8.2 ⟨j,Xl j G⟩
 generalize hgs:(infos ops 0 l F A).flatMap Info.aar=gs at*;generalize Ro:(fun j:Nat=>(l[j]?).bind (fun x:Oper=>x.dst))=dst at*
 generalize hRR:(fun j:Nat=>(F.getD j (.val .any,none)).1)=R at*
 generalize hAC:(fun j:Nat=>(F.getD j ((.val .any,none):Rec×Option Nat)).2)=acc
 have tX:∀i(h:i<l.length),l[i].dst=dst i:=fun i h=>by rw[←Ro];simp[h]
 have Y:∀i,(F.getD i (.val .any,none)).1=R i:=fun i=>by rw[←hRR]
 have Rv:∀i,(F.getD i (.val .any,none)).2=acc i:=fun i=>by rw[←hAC]
 have s6:∀i j,i<l.length→(A.getD i 0).testBit j=true→j<i:=by
  intro i;induction i using Nat.strongRecOn with
  |_ i ih=>
   intro j p q;obtain⟨d,W,E⟩:=iM.2 i (by omega) p j q
   have hdi:=ph i p d W;rcases E with E|⟨_,D⟩
   ·omega
   ·have:=ih d hdi j (by omega) D;omega
 let mk:∀i(h:i<l.length),Info:=fun i h=>⟨i,dst i,dL ops l[i],R i,acc i,A.getD i 0⟩
 have P2:∀i j(p:i<l.length)(q:j<l.length),Info.Y4 gs (mk i p) (mk j q)=true∧Info.I7 gs (mk i p) (mk j q)=true:=by
  intro i j p q;have:=NM _ (Au i p) _ (Au j q);simpa only[tX,Y,Rv]using this
 have P1:∀i(p:i<l.length),Info.No gs s.tmps s.blks.length (mk i p)=true:=by
  intro i p;have:=NR _ (Au i p);simpa only[tX,Y,Rv]using this
 have ajB:∀i b cs d,i<l.length→R i=.grow b cs d→gs.contains b=true:=by
  intro i b cs d p e;have:b∈gs:=by
   rw[←hgs];refine anI.2 ⟨_,Au i p,?_⟩;simp only[Info.aar,Y,e,List.mem_singleton]
  simpa using this
 let lt:Nat→Prop:=fun i=>∃h:i<l.length,Info.BD gs (mk i h)=true
 have Z:∀i j(p:i<l.length)(q:j<l.length),i≠j→(A.getD i 0).testBit j=false→(A.getD j 0).testBit i=false→
   (Info.BD gs (mk i p)=true∨Info.BD gs (mk j q)=true)∧(match dst i with|some t=>!(dst j==some t)|none=>true)=true∧
   (match R i with|.new b _ _ _=>!((R j).dx b)&& !((R j).cZ b)|_=>true)=true∧
   (match dst j with|some t=>!((dL ops l[i]).contains t)|none=>true)=true∧
   (match acc i with|some b=>!((R j).dx b)&&(!((R j).cZ b)&& !(R j).GF)|none=>true)=true:=by
  intro i j p q C E D;have:=(P2 i j p q).1;have y:(i==j)=false:=by simpa using C
  simp only[Info.Y4,mk,y,E,D,Bool.or_self,Bool.false_or,zLq,Bool.or_eq_true]at this;exact⟨this.1,this.2.1,this.2.2.1,this.2.2.2.1,this.2.2.2.2⟩
 have ok:ub s.fs l.length dst (fun i t=>((l[i]?).map fun o=>(dL ops o).contains t)==some true) R acc (fun i j=>(A.getD i 0).testBit j) lt (fun b=>gs.contains b):=by
  refine⟨fun i j p q C E D=>?_,fun i j t p q C E D B I=>?_,fun i j b p q C E D B=>?_,fun i j t p q C E D B I=>?_,fun i j b p q C E D B=>?_,fun i p u=>?_,fun i p=>?_,fun i t p u B b y=>?_,fun i j t p q C u B I=>?_,fun i b p B=>?_,fun i j b p q C B=>?_⟩
  ·exact(Z i j p q C E D).1.imp (fun h=>⟨p,h⟩) (fun h=>⟨q,h⟩)
  ·have:=(Z i j p q C E D).2.1
   rw[B,I]at this;simp at this
  ·have:=(Z i j p q C E D).2.2.1
   cases z:R i<;>simp only[z,Rec.dx,Bool.false_eq_true]at B
   simp only[beq_iff_eq]at B;subst B;rw[z]at this;simpa using this
  ·have:=(Z i j p q C E D).2.2.2.1
   have HM:(dL ops l[i]).contains t=true:=by simpa [p]using B
   rw[I]at this;simp only[HM,Bool.not_true,Bool.false_eq_true]at this
  ·have:=(Z i j p q C E D).2.2.2.2
   rw[B]at this;simpa using this
  ·obtain⟨h,u⟩:=u
   simp only[Info.BD,mk]at u;cases z:R i with
   |val d=>
    rw[z]at u;refine .inl ⟨d,rfl,fun b y=>?_⟩
    have:=al9.1 u b y;simpa using this
   |new b cs d nf=>
    rw[z]at u;simp only[zLq,Bool.not_eq_true',List.all_eq_true,List.isEmpty_iff]at u;obtain⟨rfl,D,h3,h4⟩:=u;exact .inr ⟨b,cs,d,rfl,D,h3,h4⟩
   |store=>rw[z]at u;cases u
   |grow=>rw[z]at u;cases u
   |own=>rw[z]at u;cases u
   |inl=>rw[z]at u;cases u
  ·have:=P1 i p
   simp only[Info.No,mk,zLq,Bool.or_eq_true]at this;rcases this.1 with h|h
   ·exact .inl h
   ·cases z:R i with
    |grow b cs d=>exact .inr ⟨b,cs,d,rfl,ajB i b cs d p z⟩
    |val=>rw[z]at h;cases h
    |new=>rw[z]at h;cases h
    |store=>rw[z]at h;cases h
    |own=>rw[z]at h;cases h
    |inl=>rw[z]at h;cases h
  ·obtain⟨h,u⟩:=u
   have:=P1 i p;simp only[Info.No,zLq,Bool.or_eq_true,u,Bool.not_true,Bool.false_eq_true,false_or,List.all_eq_true]at this;have HM:t∈dL ops l[i]:=by simpa [p]using B
   have:=this.2.1 t HM b y;simpa using this
  ·obtain⟨h,u⟩:=u
   have:=(P2 i j p q).2;have y:(i==j)=false:=by simpa using anm C
   have HM:(dL ops l[i]).contains t=true:=by simpa [p]using B
   simp only[Info.I7,u,Bool.not_true,Bool.false_or,zLq,Bool.or_eq_true]at this;rcases this with J|⟨J,_⟩
   ·exact apC (by simpa [mk]using J) (anm C)
   ·simp only[mk,I,HM,Bool.not_true,Bool.false_or]at J
    exact⟨q,J⟩
  ·have:=P1 i p
   cases z:R i<;>simp only[z,Rec.dx,Bool.false_eq_true]at B
   simp only[beq_iff_eq]at B;subst B;simp only[Info.No,mk,z,zLq,Nat.ble_eq]at this;simp only[St.fs,List.getD_eq_getElem?_getD];rw[alX (by omega)];rfl
  ·have:=(P2 i j p q).2
   cases z:R i<;>simp only[z,Rec.dx,Bool.false_eq_true]at B
   simp only[beq_iff_eq]at B;subst B;simp only[Info.I7,mk,z,Bool.or_eq_true,zLq,beq_iff_eq,Bool.not_eq_true']at this;rcases this with J|⟨_,J,h10⟩
   ·exact apC J C
   ·refine⟨J,fun h=>?_⟩
    rcases h10 with⟨O,h12⟩|O
    ·rcases h with h|h
     ·rw[O]at h;cases h
     ·rw[h12]at h;cases h
    ·exact O
 have s8:∀(L:Nat→Bool),(∀j(h:j<l.length),L j=true→∀d∈dK l[j],L d=true)→∀i(h:i<l.length),(∀d∈dK l[i],L d=true)→∀k,(A.getD i 0).testBit k=true→L k=true:=
  fun L U=>AM iM X U
 subst hP;refine De (ops:=ops) (A:=A) hl (alE _) hm ph s8 (fun j h G=>apC G (by omega)) (fun L=>gL s.fs s.tmps.length dst R L l.length) (fun L L' y=>xY y) (fun i p=>(K7 p).symm) Rm ?_ ?_ h hQ
 ·intro L i Ih p hL U hrd a w aW K hK
  obtain⟨M,Ek,Ej,VI,H,q2,q3,S,q5⟩:=D7 i p;rw[Y]at H;rw[Rv]at q3;rw[←K7 (m:=l.length) (by omega:i≤l.length)]at S
  have a1:=s8 L U i p hrd;have c1:∀j,j<l.length→L j=true→∀k,(A.getD j 0).testBit k=true→L k=true:=fun j q hLj=>s8 L U j q (U j q hLj)
  obtain⟨k1,k2,k3⟩:=aay (n:=s.tmps.length) ok (fun i j=>s6 i j) p hL c1 a1
  have rd:∀t,t∈dL ops l[i]→(gL s.fs s.tmps.length dst R (fun j=>Nat.blt j i) l.length).tmp t=(gL s.fs s.tmps.length dst R L l.length).tmp t:=fun t ht=>k1 t (by simp[p,ht])
  have q1':oP c.P inl ops l[i] ro gb (mxA dr gb M) (gL s.fs s.tmps.length dst R L l.length) M.blks M.b_ Ek=some (R i,Ej,VI):=by
   rw[S]at H;have hg:∀j want t,l[i].guard=some (j,want)→(ops[j]?).bind (·.dst)=some t→(gL s.fs s.tmps.length dst R (fun j=>Nat.blt j i) l.length).tmp t=(gL s.fs s.tmps.length dst R L l.length).tmp t:=fun j want t hg W=>rd t (by simp[dL,hg,W])
   have hρ:∀x∈l[i].op.operands.toList,(gL s.fs s.tmps.length dst R (fun j=>Nat.blt j i) l.length).ev x=(gL s.fs s.tmps.length dst R L l.length).ev x:=fun x hx=>by
    cases x with
    |tmp t=>exact rd t (by simp only[dL,List.mem_append,List.mem_filterMap];exact .inl ⟨.tmp t,hx,rfl⟩)
    |const v=>rfl
    |global g=>rfl
    |func f=>rfl
   have y:∀b,rk l[i] (gL s.fs s.tmps.length dst R (fun j=>Nat.blt j i) l.length).ev=some b→(gL s.fs s.tmps.length dst R (fun j=>Nat.blt j i) l.length).blk b=(gL s.fs s.tmps.length dst R L l.length).blk b:=fun b y=>by
    rw[←S,←q3]at y;exact k2 b y
   rcases ok.Hg i p with hp|⟨b,cs,d,e,Js⟩
   ·exact DV hg hρ y H hp
   ·rw[e]at H⊢
    refine KD hg hρ y (k3 fun u=>?_) H
    rcases ok.cLV i p u with⟨d',I,-⟩|⟨b',cs',d',I,-⟩<;>(rw[e]at I;cases I)
  have N:ops[i]? =some l[i]:=by rw[Eu];simp[p]
  unfold wpOpIn;simp only[N];have:=gR (r:=c.rd) nR rfl Ez hG h0 qP aW q1' q2 (fun b cs d nf y=>N3 ok p hL (by rw[y];simp[Rec.dx]) c1 _ (alE _)) (fun y=>by
    rcases ok.Hg i p with hp|⟨b,cs,d,e,_⟩
    ·cases hRi:R i<;>rw[hRi]at hp y<;>first|(cases y;done)|(cases hp;done)
    ·rw[e]at y;cases y) (Q:=Q) (K:=K) (fun T w' G=>hK T w' (by
   rw[tX i p,ahp ok (fun i j=>s6 i j) p hL c1]at G;exact G))
  exact this
 ·intro i p a w aW K hK
  obtain⟨M,Ek,Ej,VI,H,q2,q3,S,q5⟩:=D7 i p;rw[Y]at H;have N:ops[i]? =some l[i]:=by rw[Eu];simp[p]
  unfold wpOpIn;simp only[N];rw[←S]at aW;have:=gR (r:=c.rd) nR rfl Ez hG h0 qP aW H q2 (fun b cs d nf y=>by rw[(pI H).1 b cs d nf y];exact mA M) (fun _=>⟨fun b=>rfl,fun b=>rfl,by rw[←q5];exact vE M,CV _ M qP⟩) (Q:=Q) (K:=K) (fun T w' G=>hK T w' (by
   rw[tX i p,S]at G;exact G))
  exact this
end Lw
namespace Lw
open Go Go.RowKit
variable {P:Program} {Good:World→Prop}
def BH{α:Type}(a:α)(lD:List Nat):Nat→List α→List α
 |_,[]=>[]
 |i,x::l=>(if lD.contains i then x else a)::BH a lD (i+1) l
def St.mask(keepT keepB:List Nat)(ns:List Nat)(s:St):St where
 tmps:=BH .any keepT 0 s.tmps
 blks:=BH none keepB 0 (s.blks.take (sk keepB))
 b_:=ns
def vS(gb:Nat)(keepT keepB:List Nat)(ns:List Nat)(s:St):Bool:=
 ((keepT.all fun t=>(s.tmps.getD t .any).refs.all fun b=>keepB.contains b&&(s.blks.getD b none).isSome)&&(List.range gb).all fun b=>keepB.contains b)&&
  (s.b_.all (fun b=>ns.contains b)&&s.b_.all fun b=>!keepB.contains b||match s.blks.getD b none with|some cs=>cs.all (fun d=>match d.ref with|some a=>keepB.contains a&&(s.blks.getD a none).isSome|none=>true)|none=>true)
theorem An{α:Type}(z d:α)(lD:List Nat):∀(i:Nat)(l:List α)(t:Nat),(BH z lD i l).getD t d=if t<l.length then(if lD.contains (i+t)then l.getD t d else z)else d
 |i,[],t=>by simp[BH]
 |i,x::l,t=>by
  cases t with
  |zero=>simp[BH]
  |succ t=>
   have:=An z d lD (i+1) l t;simp only[BH,List.getD_cons_succ,List.length_cons,this,Nat.add_assoc,Nat.add_comm 1 t,Nat.add_lt_add_iff_right]
theorem Fp{lD:List Nat}{b:Nat}(h:lD.contains b=true):b<sk lD:=by
 induction lD with
 |nil=>simp at h
 |cons x lD c=>
  have:x<sk (x::lD)∧sk lD≤sk (x::lD):=by
   show x<(if Nat.blt x (sk lD)then sk lD else x+1)∧sk lD≤(if Nat.blt x (sk lD)then sk lD else x+1)
   split
   ·rename_i h;rw[al6]at h;exact⟨h,alE _⟩
   ·rename_i h;rw[al6]at h;exact⟨by omega,by omega⟩
  by_cases a:b=x
  ·rw[a];exact this.1
  ·have:=c (by simpa [a]using h)
   omega
theorem S7(s:St)(keepT keepB ns:List Nat):
  (∀t,(s.mask keepT keepB ns).fs.tmp t=if keepT.contains t then s.fs.tmp t else .any)∧(∀b,(s.mask keepT keepB ns).fs.blk b=if keepB.contains b then s.fs.blk b else none):=by
 refine⟨fun t=>?_,fun b=>?_⟩
 ·show(BH .any keepT 0 s.tmps).getD t .any=_
  rw[An,amv];by_cases h:t<s.tmps.length
  ·rw[apB h];rfl
  ·rw[apA h]
   split
   ·simp[St.fs,List.getD_eq_getElem?_getD,List.getElem?_eq_none (Nat.le_of_not_lt h)]
   ·rfl
 ·show(BH none keepB 0 (s.blks.take (sk keepB))).getD b none=_
  rw[An,amv];by_cases a:keepB.contains b=true
  ·have c:=Fp a
   rw[apB a,apB a];by_cases h:b<(s.blks.take (sk keepB)).length
   ·rw[apB h]
    simp[St.fs,List.getD_eq_getElem?_getD,c]
   ·rw[apA h]
    have:s.blks.length≤b:=by simp at h;omega
    simp[St.fs,List.getD_eq_getElem?_getD,List.getElem?_eq_none this]
  ·rw[apA a,apA a];split<;>rfl
theorem Rel.mask{c:Ctx}{n:Nat}{s:St}{a:Act}{w:World}{gb:Nat}{keepT keepB ns:List Nat}(h:Rel c n s.fs a w)(v:c.gb≤gb)(i:vS gb keepT keepB ns s=true):Rel c n (s.mask keepT keepB ns).fs a w:=by
 obtain⟨o,g⟩:=S7 s keepT keepB ns;unfold vS at i;rw[zLq,zLq,zLq]at i;obtain⟨⟨k1,k2⟩,k3,k4⟩:=i;rw[al9]at k1 k2 k3 k4;refine h.weaken (fun t=>?_) (fun b=>?_) (fun b e=>?_) (fun t b e=>?_) (fun b cs f p d q r u=>?_) (fun b e=>?_)
 ·rw[o t];split
  ·exact .inr rfl
  ·exact .inl rfl
 ·rw[g b];split
  ·exact .inr rfl
  ·exact .inl rfl
 ·exact k3 b (by simpa [St.fs]using e)
 ·rw[o t]at e
  by_cases j:keepT.contains t=true
  ·rw[apB j]at e
   have:=k1 t (by simpa using j)
   rw[al9]at this;have:=this b e;rw[zLq]at this;rw[g b,apB this.1];exact this.2
  ·rw[apA j]at e;simp[D.refs]at e
 ·rw[g b]at f
  by_cases l:keepB.contains b=true
  ·rw[apB l]at f
   have:=k4 b (by simpa [St.fs]using p)
   have k:s.blks.getD b none=some cs:=f;rw[l,k]at this;simp only[Bool.not_true,Bool.false_or,List.all_eq_true]at this;have:=this d q;rw[u]at this;simp only[zLq]at this;rw[g r,apB this.1];exact this.2
  ·rw[apA l]at f;cases f
 ·rw[g b,apB (k2 b (by simp;omega))]
def St.freeze(s:St)(b:Nat)(cs:List D):St:=⟨s.tmps.map (D.Aa b cs),(vV s.b_ (D.dX b cs) 0 s.blks).set b none,s.b_⟩
theorem Jz{s:St}{b:Nat}{cs:List D}(h:s.blks.getD b none=some cs):(s.freeze b cs).fs=s.fs.freeze b cs:=by
 simp only[St.freeze,St.fs,FSt.freeze];congr 1
 ·funext t
  simp only[List.getD_eq_getElem?_getD,List.getElem?_map];cases s.tmps[t]?with
  |none=>rfl
  |some d=>rfl
 ·funext k
  rw[vZ _ b k _ (by rw[Ak];exact Am h),xO,amv]
  by_cases a:k=b
  ·rw[apB a,apB a]
  ·rw[apA a,apA a];rfl
theorem ar(n:Nat)(l:List (Nat×D))(bl:List (Nat×List D))(ns:List Nat:=[]):(lay n l bl ns).tmps.length=n:=by simp[lay]
theorem af(n:Nat)(l:List (Nat×D))(bl:List (Nat×List D))(ns:List Nat):(lay n l bl ns).tmps.length=n:=by simp[lay]
theorem D_{α:Type}(f:Nat→α)(l:List (Nat×α))(h:l.map (fun p=>f p.1)=l.map (·.2))(t:Nat):(l.find? fun p=>p.1==t).map (·.2)=if(l.map (·.1)).contains t then some (f t)else none:=by
 induction l with
 |nil=>simp
 |cons p l b=>
  simp only[List.map_cons,List.cons.injEq]at h;by_cases a:p.1=t
  ·rw[aoM (by simpa using a)]
   simp[a,←h.1]
  ·rw[List.find?_cons_of_neg (by simpa using a),b h.2]
   have:(t==p.1)=false:=by simpa using anm a
   simp only[List.map_cons,List.contains_cons,this,Bool.false_or]
theorem dN(n:Nat)(l:List (Nat×D))(bl:List (Nat×List D))(ns:List Nat)(t:Nat):(lay n l bl ns).fs.tmp t=if t<n then((l.find? fun p=>p.1==t).map (·.2)).getD .any else .any:=by
 show((List.range n).map fun t=>((l.find? fun p=>p.1==t).map (·.2)).getD D.any).getD t .any=_
 rw[alD,ane];split
 ·rw[alK (by simpa)];simp
 ·rw[alX (by simp;omega)];rfl
theorem vX(n:Nat)(l:List (Nat×D))(bl:List (Nat×List D))(ns:List Nat)(b:Nat):(lay n l bl ns).fs.blk b=if b<sk (bl.map (·.1))then(bl.find? fun p=>p.1==b).map (·.2)else none:=by
 show((List.range (sk (bl.map (·.1)))).map fun b=>(bl.find? fun p=>p.1==b).map (·.2)).getD b none=_
 rw[alD,ane];split
 ·rw[alK (by simpa)];simp
 ·rw[alX (by simp;omega)];rfl
theorem qu{s:St}{n:Nat}{l:List (Nat×D)}{bl:List (Nat×List D)}{ns:List Nat}(o:s.tmps.length=n)(f:(l.map fun p=>s.tmps.getD p.1 .any)=l.map (·.2))(e:(bl.map fun p=>s.blks.getD p.1 none)=bl.map fun p=>some p.2):
  (s.mask (l.map (·.1)) (bl.map (·.1)) ns).fs=(lay n l bl ns).fs:=by
 obtain⟨j,i⟩:=S7 s (l.map (·.1)) (bl.map (·.1)) ns;have f1:∀t,(s.mask (l.map (·.1)) (bl.map (·.1)) ns).fs.tmp t=(lay n l bl ns).fs.tmp t:=by
  intro t;rw[j,dN,D_ (fun t=>s.tmps.getD t .any) l f t]
  by_cases a:(l.map (·.1)).contains t=true
  ·rw[apB a,apB a]
   by_cases d:t<n
   ·rw[apB d];rfl
   ·rw[apA d]
    show s.tmps.getD t .any=.any;rw[alD,alX (by omega)];rfl
  ·rw[apA a,apA a];split<;>rfl
 have f2:∀b,(s.mask (l.map (·.1)) (bl.map (·.1)) ns).fs.blk b=(lay n l bl ns).fs.blk b:=by
  intro b;rw[i];have k:(bl.map fun p=>(p.1,some p.2)).map (fun p=>s.blks.getD p.1 none)=(bl.map fun p=>(p.1,some p.2)).map (·.2):=by simpa [anD,Function.comp]using e
  have:=D_ (fun b=>s.blks.getD b none) (bl.map fun p=>(p.1,some p.2)) k b
  rw[List.find?_map]at this;simp only[List.map_map]at this;have h:((fun x:Nat×Option (List D)=>x.1)∘fun p:Nat×List D=>(p.1,some p.2))=fun p=>p.1:=rfl
  have g:((fun p:Nat×Option (List D)=>p.1==b)∘fun p:Nat×List D=>(p.1,some p.2))=fun p=>p.1==b:=rfl
  rw[h,g]at this;rw[vX];by_cases a:(bl.map (·.1)).contains b=true
  ·rw[apB a]at this⊢
   rw[apB (Fp a)];cases c:bl.find? (fun p=>p.1==b)with
   |none=>rw[c]at this;simp at this
   |some p=>rw[c]at this;simp at this⊢;exact this.symm
  ·rw[apA a]at this⊢
   cases c:bl.find? (fun p=>p.1==b)with
   |some p=>rw[c]at this;simp at this
   |none=>split<;>rfl
 show(⟨(s.mask (l.map (·.1)) (bl.map (·.1)) ns).fs.tmp,(s.mask (l.map (·.1)) (bl.map (·.1)) ns).fs.blk,fun b=>ns.contains b⟩:FSt)=⟨(lay n l bl ns).fs.tmp,(lay n l bl ns).fs.blk,fun b=>ns.contains b⟩
 rw[funext f1,funext f2]
abbrev Out(P:Program)(Good:World→Prop):=o_×St×List (Item P Good)×List (de×de)
def iter(g:St→List (Item P Good)→Option (Out P Good)):Nat→St→List (Item P Good)→Option (Out P Good)
 |0,_,_=>none
 |m+1,s,b=>match g s b with
  |some (.normal,s1,a,f)=>match iter g m s1 a with
   |some (e,s2,c,d)=>some (e,s2,c,f++d)
   |none=>none
  |r=>r
def ER(gb:Nat)(k:Code)(g:St→List (Item P Good)→Option (Out P Good))(m:Nat)(s:St)(c:List (Item P Good)):Option (Out P Good):=
 match c with
 |.code (n:=n) (gb:=a) (k:=b) (l:=l) (bl:=bl) (ns:=ns) (e:=e) (s':=s') _::tr'=>
  if vS gb (l.map (·.1)) (bl.map (·.1)) ns s&&s'.tmps.length==s.tmps.length then
   some (e,s',tr',[(.code k s.tmps.length gb (l.map fun p=>s.tmps.getD p.1 .any) (bl.map fun p=>s.blks.getD p.1 none),.code b n a (l.map (·.2)) (bl.map fun p=>some p.2))])else none
 |.auto A:: .code (n:=n) (gb:=a) (k:=b) (l:=l) (bl:=bl) (ns:=ns) (e:=e) (s':=s') _::tr'=>
  if vS gb (l.map (·.1)) (bl.map (·.1)) ns s&&s'.tmps.length==s.tmps.length then
   some (e,s',.auto A::tr',[(.code k s.tmps.length gb (l.map fun p=>s.tmps.getD p.1 .any) (bl.map fun p=>s.blks.getD p.1 none),.code b n a (l.map (·.2)) (bl.map fun p=>some p.2))])else none
 |_=>iter g m s c
def resultD(P:Program)(s:St):ResultVar→Option D
 |.tmp t=>some (s.tmps.getD t .any)
 |.cell x t=>match cC P t,se P t,s.tmps.getD x .any with
  |some sz,some a,.ptr b off=>match s.blks.getD b none with
   |some cs=>if Nat.blt 0 sz&&Nat.ble (off+sz) cs.length then some (if a then .agg ((cs.drop off).take sz)else(cs.drop off).headD .any)else none
   |none=>none
  |some sz,some a,.aV cs=>if Nat.blt 0 sz&&Nat.ble sz cs.length then some (if a then .agg (cs.take sz)else cs.headD .any)else none
  |_,_,_=>none
def gY(P:Program)(s:St):List ResultVar→Option (List D)
 |[]=>some []
 |r::rs=>match resultD P s r,gY P s rs with
  |some d,some ds=>some (d::ds)
  |_,_=>none
def re:List D→D
 |[d]=>d
 |ds=>.aY ds
def tQ:List Value→Value
 |[v]=>v
 |vs=>.tuple vs.toArray
def fN(n:Nat)(args:List D)(blks:List (Option (List D)))(ns:List Nat:=[]):St:=⟨args++List.replicate (n-args.length) (.lit undef),blks,ns⟩
abbrev Runner(P:Program)(Good:World→Prop):=List Nat→Nat→Code→St→List (Item P Good)→Option (Out P Good)
def D.single(d:D):Bool:=d.refs.isEmpty||d.ref.isSome
def Rx(gb:Nat):Nat→List Nat→St→Option St
 |0,_,s=>some s
 |_+1,[],s=>some s
 |n+1,b::l,s=>match s.blks.getD b none with
  |none=>Rx gb n l s
  |some cs=>match cs.filterMap D.ref with
   |[]=>match Nat.ble gb b with
    |true=>Rx gb n l (s.freeze b cs)
    |false=>none
   |r::rs=>Rx gb n (r::rs++b::l) s
def adZ(P:Program)(fn:Func)(gb:Nat)(s:St):Option St:=match gY P s fn.results.toList with
 |some a=>Rx gb 64 (a.flatMap D.refs) s
 |none=>none
def wT(P:Program){Good:World→Prop}(g:Runner P Good):Inline P Good:=fun b ro fn a blks f e=>K9 b fun d=>
 match fn.body with
 |some k=>if Nat.ble a.length fn.ntmps then
   match g ro d k (fN fn.ntmps a blks f) e with
   |some (.normal,s0,tr',eqs)|some (.ret,s0,tr',eqs)=>match(if ro.contains 998 then adZ P fn d s0 else some s0)with
    |some s=>match gY P s fn.results.toList with
     |some c=>if c.length==1||c.all D.single then some (re c,s.blks,s.b_,tr',eqs)else none
     |none=>none
    |none=>none
   |_=>none
  else none
 |none=>none
def Kg(s t:St):Bool:=nh (wW 8) s.tmps t.tmps&&tg s.blks t.blks&&decide (s.b_=t.b_)
theorem IS{s t:St}(h:Kg s t=true):s=t:=by
 cases s;cases t;simp only[Kg,zLq,decide_eq_true_eq]at h;rw[jF (fun a=>o6 8 a) h.1.1,qA h.1.2,h.2]
def JR(P:Program){Good:World→Prop}(inl:Inline P Good)(ops:Array Oper)(ro:List Nat)(gb:Nat)(a:List (Item P Good))(fin:St):Nat→Array Bool→St→Bool
 |0,listed,s=>match Region.ready .any ops listed with
  |[]=>Kg s fin
  |_::_=>false
 |fuel+1,listed,s=>match Region.ready .any ops listed with
  |[]=>Kg s fin
  |j::rd=>(j::rd).all fun i=>match ops[i]?with
   |some o=>match oP P inl ops o ro gb (mxA false gb s) s.fs s.blks s.b_ a with
    |some (R,_,[])=>JR P inl ops ro gb a fin fuel (listed.setIfInBounds i true) (s.app o.dst R)
    |_=>false
   |none=>false
theorem Ee{c:Ctx}{Q:Exit→Act→World→Prop}{inl:Inline P Good}(t:yo P Good inl)(u:c.P=P)(A:c.Good=Good)(v:aa Good)(x:c.Good c.w0){gb:Nat}(p:c.gb≤gb){ops:Array Oper}{ro:List Nat}{B:List (Item P Good)}{fin:St}
  (q:∀l w',Rel c fin.tmps.length fin.fs l w'→Q .normal l w'):
  ∀(fuel:Nat)(listed:Array Bool)(s:St)(a:Act)(w:World),JR P inl ops ro gb B fin fuel listed s=true→Rel c s.tmps.length s.fs a w→wpAnyIn (Fw c.rd) 0 P .any ops Q fuel listed a w
 |0,listed,s,a,w,h,k=>by
  unfold JR at h;split at h
  ·rename_i e
   obtain rfl:=IS h;exact⟨e,q a w k⟩
  ·cases h
 |fuel+1,listed,s,a,w,h,k=>by
  unfold JR at h;split at h
  ·rename_i e
   obtain rfl:=IS h;exact⟨fun _=>q a w k,fun i f=>by rw[e]at f;cases f⟩
  ·rename_i j rd e
   refine⟨fun z=>(by rw[e]at z;cases z),fun i f=>?_⟩
   rw[e]at f;have g:=al9.1 h i f;split at g
   ·rename_i o D
    split at g
    ·rename_i R I r
     obtain⟨H,G⟩:=uW r;unfold wpOpIn;simp only[D];refine gR t u A v x p k r (fun e E=>by cases E) (fun b cs d C F=>by rw[(pI r).1 b cs d C F];exact mA s) (fun _=>⟨fun b=>rfl,fun b=>rfl,vE s,CV _ s p⟩) fun l w' y=>?_
     rw[←H,←G]at y;exact Ee t u A v x p q fuel _ _ l w' g y
    ·cases g
   ·cases g
theorem LA{c:Ctx}{Q:Exit→Act→World→Prop}{inl:Inline P Good}(f:yo P Good inl)(k:c.P=P)(q:c.Good=Good)(l:aa Good)(p:c.Good c.w0){gb:Nat}(e:c.gb≤gb)(h:P.follows .mixedOrders=true){id:Nat}{ops:Array Oper}{ro:List Nat}{d:List (Item P Good)}{s fin:St}{a:Act}{w:World}
  (i:JR P inl ops ro gb d fin ops.size (Array.replicate ops.size false) s=true) (g:Rel c s.tmps.length s.fs a w)
  (j:∀b w',Rel c fin.tmps.length fin.fs b w'→Q .normal b w'):(Code.region id ops true).wpIn (Fw c.rd) 0 P Q a w:=by
 refine wpIn_region_any h ?_;obtain⟨β,X,o⟩:=g;exact Ee f k q l p e j _ _ s a _ i ⟨β,X,o.grow ((Below.refl _ _).drew)⟩
def ahq(gb t:Nat)(s:St):Option St:=match s.tmps.getD t .any with
 |.ptr b _=>match s.blks.getD b none with
  |some cs=>Rx gb 64 (cs.filterMap D.ref) s
  |none=>some s
 |d=>Rx gb 64 d.refs s
def GQ(gb id:Nat):List Nat→St→Option St
 |[],s=>some s
 |m::ro,s=>match Nat.beq (m/1000) (1000+id)with
  |true=>match ahq gb (m%1000) s with
   |some s'=>GQ gb id ro s'
   |none=>none
  |false=>match Nat.beq (m/1000) (2000+id)with
   |true=>match Rx gb 64 (s.tmps.getD (m%1000) .any).refs s with
    |some s'=>GQ gb id ro s'
    |none=>none
   |false=>GQ gb id ro s
def oA(P:Program){Good:World→Prop}:Nat→Runner P Good
  |0,_,_,_,_,_=>none
  |m+1,ro,gb,k,s,c=>match c with
    |.freeze b::d=>match s.blks.getD b none with
      |some cs=>if Nat.ble gb b&&(!s.b_.contains b|| !dZ cs)then match oA P m ro gb k (s.freeze b cs) d with
          |some (e,s',tr',eqs)=>some (e,s',tr',(.p True,.p True)::eqs)
          |none=>none
        else none
      |none=>none
    |c=>match k with
      |.skip=>some (.normal,s,c,[])
      |.ret=>some (.ret,s,c,[])
      |.exit id=>some (.exit id,s,c,[])
      |.seq x y=>match oA P m ro gb x s c with
        |some (.normal,s1,d,h)=>match oA P m ro gb y s1 d with
          |some (e,s2,l,o)=>some (e,s2,l,h++o)
          |none=>none
        |r=>r
      |.cond x a b=>match s.fs.ev x with
        |.lit (.bool true)=>oA P m ro gb a s c
        |.lit (.bool false)=>oA P m ro gb b s c
        |_=>none
      |.block id x=>match oA P m ro gb x s c with
        |some (.exit f,s1,d,h)=>if f==id then some (.normal,s1,d,h)else some (.exit f,s1,d,h)
        |r=>r
      |.region id ops draw=>match GQ gb id ro s with
       |none=>none
       |some s=>match kU P (wT P (oA P m)) (draw&& !ro.contains (3000000+id)) ops ro gb ops.toList s c with
        |some (s',tr',eqs,i)=>if draw then(if P.follows .mixedOrders&&Df ops s.blks.length ops.toList i then some (.normal,s',tr',eqs)else if P.follows .mixedOrders&&(!ro.contains (3000000+id)&&Fm ops ops.toList i)then some (.normal,s',tr',eqs)else if P.follows .mixedOrders&&AB ops s ops.toList i then some (.normal,s',tr',eqs)else if P.follows .mixedOrders&&JR P (wT P (oA P m)) ops ro gb c s' ops.size (Array.replicate ops.size false) s then some (.normal,s',tr',eqs)else none)else some (.normal,s',tr',eqs)
        |none=>none
      |.loop x=>ER gb (.loop x) (oA P m ro gb x) m s c
      |.rangeFunc g j x y=>ER gb (.rangeFunc g j x y) (fun _ _=>none) m s c
      |_=>none
def o_.Cw:o_→Exit
 |.normal=>.normal
 |.exit id=>.exit id
 |.ret=>.ret
def apL(P:Program)(Good:World→Prop)(gb:Nat)(k:Code)(s:St)(e:o_)(s':St):Prop:=
 s'.tmps.length=s.tmps.length∧∀(c:Ctx)(Q:Exit→Act→World→Prop)(a:Act)(w:World),c.P=P→c.Good=Good→c.Good c.w0→c.gb≤gb→Rel c s.tmps.length s.fs a w→
  (∀d b,Rel c s.tmps.length s'.fs d b→Q e.Cw d b)→k.wpIn (Fw c.rd) 0 P Q a w
theorem GD{gb:Nat}{body:Code}{g:St→List (Item P Good)→Option (Out P Good)}
  (t:∀s d e s' tr' eqs,g s d=some (e,s',tr',eqs)→jI eqs→apL P Good gb body s e s'):
  ∀(m:Nat)(s:St)(d:List (Item P Good))(e:o_)(s':St)(tr':List (Item P Good))(eqs:List (de×de)),iter g m s d=some (e,s',tr',eqs)→jI eqs→
   s'.tmps.length=s.tmps.length∧e≠.normal∧∀(c:Ctx)(Q:Exit→Act→World→Prop)(a:Act)(w:World),c.P=P→c.Good=Good→c.Good c.w0→c.gb≤gb→Rel c s.tmps.length s.fs a w→
    (∀b w',Rel c s.tmps.length s'.fs b w'→Q e.Cw b w')→Code.roundsIn (Fw c.rd) 0 P body Q m a w
 |0,s,d,e,s',tr',eqs,h,_=>by simp[iter]at h
 |m+1,s,d,e,s',tr',eqs,h,he=>by
  simp only[iter]at h;split at h
  ·rename_i s1 E I z
   split at h
   ·rename_i B s2 F H y
    simp only[zIq,zJq]at h;obtain⟨rfl,rfl,rfl,rfl⟩:=h;obtain⟨C,D⟩:=he.append;obtain⟨o,p⟩:=t _ _ _ _ _ _ z C;obtain⟨G,x,v⟩:=GD t m _ _ _ _ _ _ y D;refine⟨by omega,x,fun c Q a w l k j i r q=>?_⟩
    rw[roundsIn_succ];exact p c _ a w l k j i r fun b w' u=>v c Q b w' l k j i (by rw[o];exact u) (by rw[o];exact q)
   ·cases h
  ·rename_i A
   obtain⟨o,p⟩:=t _ _ _ _ _ _ h he;have f:e≠.normal:=by rintro rfl;exact A _ _ _ h
   refine⟨o,f,fun c Q a w l k j i r q=>?_⟩
   rw[roundsIn_succ];refine p c _ a w l k j i r fun b w' u=>?_
   have:=q b w' u;cases e with
   |normal=>exact apC rfl f
   |exit id=>exact this
   |ret=>exact this
theorem HU{c:Ctx}{n:Nat}{s:St}{a:Act}{w:World}{β:Nat→Nat}{X:Nat→Prop}(h:dk c n s.fs a w β X){r:ResultVar}{d:D}(e:resultD c.P s r=some d):
  ∃v,((match r with|.tmp t=>pure (a.tmps.getD t undef)|.cell x t=>do loadVar t (←asAddr (a.tmps.getD x undef))):Sem Value).run c.P w=.ok v w∧cW β w X v d∧∀b∈d.refs,(s.fs.blk b).isSome=true:=by
 unfold resultD at e;split at e
 ·rename_i t
  simp only[zIq]at e;subst e;exact⟨_,rfl,h.tmp t,h.nd t⟩
 ·rename_i x t
  have l:=h.tmp x;split at e
  ·rename_i sz I b off p q o
   split at e
   ·rename_i cs j
    split at e
    ·rename_i g
     simp only[zLq,Nat.blt_eq,Nat.ble_eq]at g;simp only[zIq]at e;subst e;have f:s.fs.tmp x=.ptr b off:=o;rw[f]at l;obtain⟨B,y,u⟩:=I8 h (off:=off) j;obtain⟨v,z,k⟩:=Jk p q y u g.1 (by simp;omega)
     obtain⟨_,_,A,_,_,_,F⟩:=h.blk b cs j;exact⟨v,by simp[yD l,asAddr,z],k,yE (by omega) (fun d E H J=>(h.tB b cs j d E H J).2) fun _=>ze F⟩
    ·cases e
   ·cases e
  ·rename_i sz I cs p q o
   split at e
   ·rename_i g
    simp only[zLq,Nat.blt_eq,Nat.ble_eq]at g;simp only[zIq]at e;subst e;have f:s.fs.tmp x=.aV cs:=o;rw[f]at l;obtain⟨K,B,G,y,u⟩:=pG (l.pure rfl);obtain⟨v,z,k⟩:=Np p q y (fun i C=>(u i C).2) g.1 g.2
    exact⟨v,by simp[G,asAddr,z],.c (.p k),fun b j=>by rw[ff k]at j;cases j⟩
   ·cases e
  ·cases e
theorem xw{c:Ctx}{n:Nat}{s:St}{a:Act}{w:World}{β:Nat→Nat}{X:Nat→Prop}(h:dk c n s.fs a w β X):
  ∀(rs:List ResultVar)(ds:List D),gY c.P s rs=some ds→
   ∃vs,(rs.mapM fun r=>((match r with|.tmp t=>pure (a.tmps.getD t undef)|.cell x t=>do loadVar t (←asAddr (a.tmps.getD x undef))):Sem Value)).run c.P w=.ok vs w∧
    vs.length=ds.length∧(∀i(h:i<vs.length)(F:i<ds.length),cW β w X vs[i] ds[i])∧∀d∈ds,∀b∈d.refs,(s.fs.blk b).isSome=true
 |[],ds,e=>by
  simp only[gY,zIq]at e;subst e;exact⟨[],by simp,rfl,fun i h=>apC h (by simp),fun d h=>by simp at h⟩
 |r::rs,ds,e=>by
  simp only[gY]at e;split at e
  ·rename_i d g C B
   simp only[zIq]at e;subst e;obtain⟨v,A,z,l⟩:=HU h C;obtain⟨vs,y,u,q,p⟩:=xw h rs g B;refine⟨v::vs,by simp only[List.mapM_cons,Sem.run_bind,A,y,Result.andThen_ok,Sem.run_pure],by simp[u],fun i o k=>?_,fun E f b j=>?_⟩
   ·cases i with
    |zero=>exact z
    |succ i=>simpa using q i (by simpa using o) (by simpa using k)
   ·rcases alM.1 f with rfl|f
    ·exact l b j
    ·exact p E f b j
  ·cases e
theorem yF{w:World}{F:Nat→Prop}{vs:List Value}{ds:List D}(h:a9 w F vs ds):cU w F (tQ vs) (re ds):=by
 match vs,ds,h with
 |[v],[d],a=>exact a.head
 |[],[],a=>exact .aY [] [] a.1 a.2
 |v::b::vs,d::c::ds,a=>exact .aY _ _ a.1 a.2
 |[],d::ds,a=>have:=a.1;simp at this
 |v::vs,[],a=>have:=a.1;simp at this
 |[v],d::c::ds,a=>have:=a.1;simp at this
 |v::b::vs,[d],a=>have:=a.1;simp at this
theorem lY{c:Ctx}{n:Nat}{s:St}{a:Act}{w:World}{β:Nat→Nat}{X:Nat→Prop}(h:dk c n s.fs a w β X){fn:Func}{ds:List D}(e:gY c.P s fn.results.toList=some ds):
  ∃vs,(results fn a.tmps).run c.P w=.ok (tQ vs) w∧
   vs.length=ds.length∧(∀i(h:i<vs.length)(q:i<ds.length),cW β w X vs[i] ds[i])∧∀d∈ds,∀b∈d.refs,(s.fs.blk b).isSome=true:=by
 obtain⟨vs,l,k,j,g⟩:=xw h _ _ e;have hm:(fn.results.mapM fun r=>((match r with|.tmp t=>pure (a.tmps.getD t undef)|.cell x t=>do loadVar t (←asAddr (a.tmps.getD x undef))):Sem Value)).run c.P w=.ok vs.toArray w:=by
  rw[Array.mapM_eq_mapM_toList,Sem.run_map,l];rfl
 refine⟨vs,?_,k,j,g⟩;have o:tQ vs=if h:vs.toArray.size=1 then vs.toArray[0]else .tuple vs.toArray:=by
  match vs with
  |[]=>rfl
  |[v]=>rfl
  |v::p::vs=>
   rw[dif_neg (by simp)];rfl
 rw[o];unfold results;rw[Sem.run_bind];exact apF (fun r=>Result.andThen r fun(a:Array Value) f=>Result.ok (if h:a.size=1 then a[0]else Value.tuple a) f) hm
theorem rR{Q':Value→D→Prop}{n:Nat}{vals:List Value}{args:List D}{blks:List (Option (List D))}{ns:List Nat}(j:vals.length=args.length)(g:args.length≤n)
  (f:∀i(h:i<vals.length)(k:i<args.length),Q' vals[i] args[i]) (e:Q' undef (.lit undef)) (d:Q' undef .any) (t:Nat):
  Q' ((vals.toArray++Array.replicate (n-vals.toArray.size) undef).getD t undef) ((fN n args blks ns).fs.tmp t):=by
 show Q' _ ((args++List.replicate (n-args.length) (D.lit undef)).getD t .any);by_cases b:t<args.length
 ·have a:(args++List.replicate (n-args.length) (D.lit undef)).getD t .any=args[t]:=by simp[List.getD_eq_getElem?_getD,List.getElem?_append_left b,b]
  have c:(vals.toArray++Array.replicate (n-vals.toArray.size) undef).getD t undef=vals[t]:=by
   have:t<vals.length:=by omega
   simp[Array.getD_eq_getD_getElem?,Array.getElem?_append,this]
  rw[a,c];exact f t (by omega) b
 ·have c:(vals.toArray++Array.replicate (n-vals.toArray.size) undef).getD t undef=undef:=by
   have:¬t<vals.length:=by omega
   simp[Array.getD_eq_getD_getElem?,Array.getElem?_append,this,Array.getElem?_replicate];split<;>rfl
  rw[c];by_cases l:t<n
  ·have a:(args++List.replicate (n-args.length) (D.lit undef)).getD t .any=.lit undef:=by
    rw[alD,aml (by omega),amZ,apB (by omega)];rfl
   rw[a];exact e
  ·have a:(args++List.replicate (n-args.length) (D.lit undef)).getD t .any=.any:=by
    rw[alD,aml (by omega),amZ,apA (by omega)];rfl
   rw[a];exact d
theorem rS{n:Nat}{args:List D}{blks:List (Option (List D))}{ns:List Nat}{p:Nat→Prop}(h:∀d∈args,∀b∈d.refs,p b):∀t b,b∈((fN n args blks ns).fs.tmp t).refs→p b:=by
 intro t b e;have a:b∈((args++List.replicate (n-args.length) (D.lit undef)).getD t .any).refs:=e;by_cases c:t<args.length
 ·have f:(args++List.replicate (n-args.length) (D.lit undef)).getD t .any=args[t]:=by simp[List.getD_eq_getElem?_getD,List.getElem?_append_left c,c]
  rw[f]at a;exact h _ (al2 _) b a
 ·rw[alD,aml (by omega),amZ]at a
  split at a<;>simp[D.refs]at a
theorem pD{n:Nat}{args:List D}{blks:List (Option (List D))}{ns:List Nat}(h:args.length≤n):(fN n args blks ns).tmps.length=n:=by simp[fN];omega
theorem AA{c:Ctx}{n gb:Nat}{a:Act}{w:World}(e:c.gb≤gb):∀(m:Nat)(l:List Nat)(s s':St),Rx gb m l s=some s'→Rel c n s.fs a w→Rel c n s'.fs a w
 |0,l,s,s',h,d=>by
  simp only[Rx,zIq]at h;subst h;exact d
 |m+1,[],s,s',h,d=>by
  simp only[Rx,zIq]at h;subst h;exact d
 |m+1,b::l,s,s',h,d=>by
  simp only[Rx]at h;split at h
  ·exact AA e m l s s' h d
  ·rename_i cs g
   split at h
   ·rename_i f
    split at h
    ·rename_i hle
     rw[anb]at hle;refine AA e m l _ s' h ?_;rw[Jz g];obtain⟨β,X,i⟩:=d;exact⟨β,_,i.freeze (b:=b) g (filterMap_nil f) (by omega)⟩
    ·cases h
   ·exact AA e m _ s s' h d
theorem adY{c:Ctx}{n gb:Nat}{a:Act}{w:World}{fn:Func}{ro:List Nat}{s s':St}(d:c.gb≤gb)(h:(if ro.contains 998 then adZ P fn gb s else some s)=some s')(b:Rel c n s.fs a w):Rel c n s'.fs a w:=by
 split at h
 ·unfold adZ at h
  split at h
  ·exact AA d _ _ _ _ h b
  ·cases h
 ·cases h;exact b
theorem yV{gb:Nat}:∀(m:Nat)(l:List Nat)(s s':St),Rx gb m l s=some s'→s'.tmps.length=s.tmps.length
 |0,l,s,s',h=>by
  simp only[Rx,zIq]at h;subst h;rfl
 |m+1,[],s,s',h=>by
  simp only[Rx,zIq]at h;subst h;rfl
 |m+1,b::l,s,s',h=>by
  simp only[Rx]at h;split at h
  ·exact yV m l s s' h
  ·split at h
   ·split at h
    ·rw[yV m l _ s' h];simp[St.freeze]
    ·cases h
   ·exact yV m _ s s' h
theorem ad0{gb t:Nat}{s s':St}(h:ahq gb t s=some s'):s'.tmps.length=s.tmps.length∧∀(c:Ctx)(n:Nat)(a:Act)(w:World),c.gb≤gb→Rel c n s.fs a w→Rel c n s'.fs a w:=by
 unfold ahq at h;split at h
 ·split at h
  ·exact⟨yV _ _ _ _ h,fun c n a w d b=>AA d _ _ _ _ h b⟩
  ·cases h;exact⟨rfl,fun _ _ _ _ _ b=>b⟩
 ·exact⟨yV _ _ _ _ h,fun c n a w d b=>AA d _ _ _ _ h b⟩
theorem BV{gb id:Nat}:∀(ro:List Nat)(s s':St),GQ gb id ro s=some s'→s'.tmps.length=s.tmps.length∧∀(c:Ctx)(n:Nat)(a:Act)(w:World),c.gb≤gb→Rel c n s.fs a w→Rel c n s'.fs a w
 |[],s,s',h=>by
  simp only[GQ,zIq]at h;subst h;exact⟨rfl,fun _ _ _ _ _ b=>b⟩
 |m::ro,s,s',h=>by
  simp only[GQ]at h;split at h
  ·split at h
   ·rename_i s1 e
    obtain⟨a1,i⟩:=ad0 e;obtain⟨g,f⟩:=BV ro s1 s' h;exact⟨g.trans a1,fun c n a w d b=>f c n a w d (i c n a w d b)⟩
   ·cases h
  split at h
  ·split at h
   ·rename_i s1 e
    obtain⟨g,f⟩:=BV ro s1 s' h;exact⟨g.trans (yV _ _ _ _ e),fun c n a w d b=>f c n a w d (AA d _ _ _ _ e b)⟩
   ·cases h
  ·exact BV ro s s' h
theorem oX{g:Runner P Good}(hg:∀ro gb k s E e s' tr' eqs,g ro gb k s E=some (e,s',tr',eqs)→jI eqs→apL P Good gb k s e s'):yo P Good (wT P g):=by
 intro F ro fn q blks ns E d blks' ns' tr' eqs h he;unfold wT at h;rw[o5]at h;split at h
 ·rename_i k hk
  split at h
  ·rename_i hle
   rw[anb]at hle;have key:∀e s0 s a,g ro F k (fN fn.ntmps q blks ns) E=some (e,s0,tr',eqs)→(e=.normal∨e=.ret)→(if ro.contains 998 then adZ P fn F s0 else some s0)=some s→gY P s fn.results.toList=some a→
     (a.length==1||a.all D.single)=true→iD P Good fn F q blks ns (re a) s.blks s.b_:=by
    intro e s0 s a y fa o A O f hf c w β X vals q1 q2 Z N qr qd l W fu V;subst q1;have hs:=hg _ _ _ _ _ _ _ _ _ y he;have hlen:=pD (blks:=blks) (ns:=ns) hle;have hF:Fw c.rd=Fence.wide:=by rw[qr];rfl
    refine(callsIn_wide (n:=0)).1 (callsIn_of_wp hf hk trivial ?_);rw[←hF];refine hs.2 c _ _ w rfl q2 Z N ⟨β,X,qd.symm,?_,fun t=>?_,?_,l.blk,l.tB,l.inj,l.F,l.vt,l.oE,l.below,l.gh,l.iY,⟨l.kp.obj,l.kp.x,l.kp.lt,l.kp.off⟩⟩ fun T x h'=>?_
    ·rw[hlen];simp;omega
    ·exact rR (Q':=fun v d=>cW β w X v d) W hle fu (.c (.p (.lit _))) (.c (.p (.any _))) t
    ·exact rS (p:=fun b=>(((fN fn.ntmps q blks ns).fs).blk b).isSome=true) V
    ·obtain⟨u,z,j⟩:=adY N o h'
     obtain⟨r,h1,L,K,S⟩:=lY j A;have BO:T.defers=[]∧∃v,(results fn T.tmps).run c.P x=.ok v x∧(∃C u z,Ending.returned v=.returned C∧dk c 0 ⟨fun _=>.any,fun b=>s.blks.getD b none,fun b=>s.b_.contains b⟩ ⟨#[],[]⟩ x u z∧cW u x z C (re a)∧
       ∀b∈(re a).refs,(s.blks.getD b none).isSome=true):=by
      refine⟨j.defers.trans qd,tQ r,h1,tQ r,u,z,rfl,⟨qd.symm,rfl,fun t=>.c (.p (.any _)),fun t b J=>by simp[D.refs]at J,j.blk,j.tB,j.inj,j.F,j.vt,j.oE,j.below,j.gh,j.iY,⟨j.kp.obj,j.kp.x,j.kp.lt,j.kp.off⟩⟩,?_⟩
      by_cases B:a.length=1
      ·obtain⟨d,rfl⟩:=ams.1 B
       obtain⟨v,rfl⟩:=ams.1 (L.trans B);exact⟨K 0 (by simp) (by simp),S d (by simp)⟩
      ·have mV:∀d∈a,d.refs=[]∨∃b,d.ref=some b:=by
        simp only[Bool.or_eq_true,beq_iff_eq,B,false_or,List.all_eq_true]at O;intro d I;have:=O d I;unfold D.single at this;rw[amo,anH]at this;exact this.imp id alL.1
       have hl:LQ (cu u x z) r a:=⟨L,fun i Q G=>by
        rcases mV a[i] (al2 G)with e|⟨b,e⟩
        ·exact .p ((K i Q G).pure e)
        ·exact(K i Q G).cell (fun U M=>by rw[M]at e;cases e) (fun U M=>by rw[M]at e;cases e)⟩
       have ep:re a=.aY a:=by
        match a,B with
        |[],_=>rfl
        |[d],h=>exact apC rfl h
        |d::d'::a,_=>rfl
       have ev:tQ r=.tuple r.toArray:=by
        match r,(L▸B:r.length≠1)with
        |[],_=>rfl
        |[v],h=>exact apC rfl h
        |v::C::r,_=>rfl
       rw[ep,ev];refine⟨.aY r a hl,fun b J=>?_⟩
       obtain⟨d,I,e⟩:=amh.1 J;exact S d I b (rC e)
     rcases fa with rfl|rfl<;>exact BO
   split at h
   ·rename_i s0 mZ Y y
    split at h
    ·rename_i s o
     split at h
     ·rename_i a A
      split at h
      ·rename_i H
       simp only[zIq,zJq]at h;obtain⟨rfl,rfl,rfl,rfl,rfl⟩:=h;exact key _ _ _ _ y (.inl rfl) o A H
      ·cases h
     ·cases h
    ·cases h
   ·rename_i s0 mZ Y y
    split at h
    ·rename_i s o
     split at h
     ·rename_i a A
      split at h
      ·rename_i H
       simp only[zIq,zJq]at h;obtain⟨rfl,rfl,rfl,rfl,rfl⟩:=h;exact key _ _ _ _ y (.inr rfl) o A H
      ·cases h
     ·cases h
    ·cases h
   ·cases h
  ·cases h
 ·cases h
theorem iO(S:aa Good):∀(m:Nat)(ro:List Nat)(gb:Nat)(k:Code)(s:St)(N:List (Item P Good))(e:o_)(s':St)(tr':List (Item P Good))(eqs:List (de×de)),
  oA P m ro gb k s N=some (e,s',tr',eqs)→jI eqs→apL P Good gb k s e s'
 |0,ro,gb,k,s,N,e,s',tr',eqs,h,_=>by simp[oA]at h
 |m+1,ro,gb,k,s,N,e,s',tr',eqs,h,he=>by
  have z:=iO S m;unfold oA at h;split at h
  ·rename_i b xg
   split at h
   ·rename_i cs kC
    split at h
    ·rename_i hle
     rw[zLq,anb]at hle;obtain⟨hle,Y⟩:=hle;split at h
     ·rename_i e2 s2 V qS h2
      simp only[zIq,zJq]at h;obtain⟨rfl,rfl,rfl,rfl⟩:=h;obtain⟨r,t⟩:=z _ _ _ _ _ _ _ _ _ h2 (fun x W=>he x (al_ _ W))
      have hl:(s.freeze b cs).tmps.length=s.tmps.length:=by simp[St.freeze]
      rw[hl]at r t;refine⟨r,fun c Q a w j i g d f o=>t c Q a w j i g d ?_ o⟩
      obtain⟨β,X,T⟩:=f;rw[Jz kC];refine⟨β,_,T.freeze (b:=b) kC ?_ (by omega)⟩
      rw[amo,Bool.not_eq_true',Bool.not_eq_true']at Y;rcases Y with hn|hn
      ·exact yW T kC hn
      ·exact iL hn
     ·cases h
    ·cases h
   ·cases h
  ·split at h
   ·simp only[zIq,zJq]at h
    obtain⟨rfl,rfl,rfl,rfl⟩:=h;exact⟨rfl,fun c Q a w _ _ _ _ h4 Z=>wpIn_skip (Z a w h4)⟩
   ·simp only[zIq,zJq]at h
    obtain⟨rfl,rfl,rfl,rfl⟩:=h;exact⟨rfl,fun c Q a w _ _ _ _ h4 Z=>wpIn_ret (Z a w h4)⟩
   ·simp only[zIq,zJq]at h
    obtain⟨rfl,rfl,rfl,rfl⟩:=h;exact⟨rfl,fun c Q a w _ _ _ _ h4 Z=>wpIn_exit (Z a w h4)⟩
   ·rename_i x y
    split at h
    ·rename_i s1 xg e1 C
     split at h
     ·rename_i e2' s2 V e2 h2
      simp only[zIq,zJq]at h;obtain⟨rfl,rfl,rfl,rfl⟩:=h;obtain⟨Vt,Cp⟩:=he.append;obtain⟨r,t⟩:=z _ _ _ _ _ _ _ _ _ C Vt;obtain⟨l2,w2⟩:=z _ _ _ _ _ _ _ _ _ h2 Cp;refine⟨by omega,fun c Q a w j i g d f o=>wpIn_seq ?_⟩
      exact t c _ a w j i g d f fun q p u=>w2 c Q q p j i g d (by rw[r];exact u) (by rw[r];exact o)
     ·cases h
    ·rename_i gI
     obtain⟨r,t⟩:=z _ _ _ _ _ _ _ _ _ h he;refine⟨r,fun c Q a w j i g d f o=>wpIn_seq ?_⟩
     refine t c _ a w j i g d f fun q p u=>?_
     have:=o q p u;cases e with
     |normal=>exact apC h (gI _ _ _)
     |exit id=>exact this
     |ret=>exact this
   ·rename_i x k1 k2
    split at h
    ·rename_i W
     obtain⟨r,t⟩:=z _ _ _ _ _ _ _ _ _ h he;refine⟨r,fun c Q a w j i g d f o=>wpIn_cond_true ?_ (t c Q a w j i g d f o)⟩
     obtain⟨β,X,T⟩:=f;exact apG T (by rw[W];rfl)
    ·rename_i W
     obtain⟨r,t⟩:=z _ _ _ _ _ _ _ _ _ h he;refine⟨r,fun c Q a w j i g d f o=>wpIn_cond_false ?_ (t c Q a w j i g d f o)⟩
     obtain⟨β,X,T⟩:=f;exact apG T (by rw[W];rfl)
    ·cases h
   ·rename_i id x
    split at h
    ·rename_i E s1 xg e1 C
     split at h
     ·rename_i G
      simp only[beq_iff_eq]at G;subst G;simp only[zIq,zJq]at h;obtain⟨rfl,rfl,rfl,rfl⟩:=h;obtain⟨r,t⟩:=z _ _ _ _ _ _ _ _ _ C he;refine⟨r,fun c Q a w j i g d f o=>wpIn_block ?_⟩
      refine t c _ a w j i g d f fun q p u=>?_
      show(if E=E then Q .normal q p else Q (.exit E) q p)
      rw[apB rfl];exact o q p u
     ·rename_i G
      simp only[zIq,zJq]at h;obtain⟨rfl,rfl,rfl,rfl⟩:=h;obtain⟨r,t⟩:=z _ _ _ _ _ _ _ _ _ C he;refine⟨r,fun c Q a w j i g d f o=>wpIn_block ?_⟩
      refine t c _ a w j i g d f fun q p u=>?_
      show(if E=id then Q .normal q p else Q (.exit E) q p)
      rw[apA (by simpa using G)];exact o q p u
    ·rename_i gI
     obtain⟨r,t⟩:=z _ _ _ _ _ _ _ _ _ h he;refine⟨r,fun c Q a w j i g d f o=>wpIn_block ?_⟩
     refine t c _ a w j i g d f fun q p u=>?_
     have:=o q p u;cases e with
     |normal=>exact this
     |exit id=>exact apC h (gI _ _ _ _)
     |ret=>exact this
   ·rename_i id U draw
    split at h
    ·cases h
    rename_i sF hfr;obtain⟨H,hfk⟩:=BV _ _ _ hfr;have back:apL P Good gb (.region id U draw) sF e s'→apL P Good gb (.region id U draw) s e s':=fun sh=>⟨sh.1.trans H,fun c Q a w j i g d f o=>sh.2 c Q a w j i g d (by rw[H];exact hfk c _ a w d f) (by rw[H];exact o)⟩
    refine back ?_;split at h
    ·rename_i s1 xg w9 dF C
     split at h
     ·rename_i O
      split at h
      ·rename_i v
       simp only[zLq]at v;simp only[zIq,zJq]at h;obtain⟨rfl,rfl,rfl,rfl⟩:=h;refine⟨pF _ _ _ _ _ _ _ C,fun c Q a w j i g d f o=>?_⟩
       subst O;exact RG (oX z) d j i S g v.1 C he v.2 f o
      split at h
      ·rename_i v
       simp only[zLq]at v;simp only[zIq,zJq]at h;obtain⟨rfl,rfl,rfl,rfl⟩:=h;refine⟨pF _ _ _ _ _ _ _ C,fun c Q a w j i g d f o=>?_⟩
       subst O;exact T9 (oX z) d j i S g v.1 (by rw[v.2.1]at C;exact C) he v.2.2 f o
      split at h
      ·rename_i v
       simp only[zLq]at v;simp only[zIq,zJq]at h;obtain⟨rfl,rfl,rfl,rfl⟩:=h;refine⟨pF _ _ _ _ _ _ _ C,fun c Q a w j i g d f o=>?_⟩
       subst O;exact N6 (oX z) d j i S g v.1 C he v.2 f o
      ·split at h
       ·rename_i v
        simp only[zLq]at v;simp only[zIq,zJq]at h;obtain⟨rfl,rfl,rfl,rfl⟩:=h;have hlen:=pF _ _ _ _ _ _ _ C;refine⟨hlen,fun c Q a w j i g d f o=>?_⟩
        subst O;exact LA (oX z) j i S g d v.1 v.2 f (by rw[hlen];exact o)
       ·cases h
     ·rename_i O
      have yP:draw=false:=by simpa using O
      subst yP;simp only[zIq,zJq]at h;obtain⟨rfl,rfl,rfl,rfl⟩:=h;exact⟨pF _ _ _ _ _ _ _ C,fun c Q a w j i g d f o=>wpIn_region_list (A' (oX z) j i S g d _ _ _ _ _ _ _ a w C he f o)⟩
    ·cases h
   ·rename_i x
    unfold ER at h;split at h
    ·rename_i n I k' l bl ns L s2 M V _
     split at h
     ·rename_i B
      simp only[zLq,beq_iff_eq]at B;simp only[zIq,zJq]at h;obtain⟨rfl,rfl,rfl,rfl⟩:=h;have F:=he _ (alW ..);simp only[de.code.injEq]at F;obtain⟨rfl,rfl,rfl,K,J⟩:=F;refine⟨B.2,fun c Q a w j i g d f o=>?_⟩
      have D:=f.mask d B.1;rw[qu rfl K J]at D;refine M c Q a w j i g d D fun q p u=>?_
      have:=o q p u;cases L<;>exact this
     ·cases h
    ·rename_i A n I k' l bl ns L s2 M V _
     split at h
     ·rename_i B
      simp only[zLq,beq_iff_eq]at B;simp only[zIq,zJq]at h;obtain⟨rfl,rfl,rfl,rfl⟩:=h;have F:=he _ (alW ..);simp only[de.code.injEq]at F;obtain⟨rfl,rfl,rfl,K,J⟩:=F;refine⟨B.2,fun c Q a w j i g d f o=>?_⟩
      have D:=f.mask d B.1;rw[qu rfl K J]at D;refine M c Q a w j i g d D fun q p u=>?_
      have:=o q p u;cases L<;>exact this
     ·cases h
    ·obtain⟨r,n1,t⟩:=GD (fun s N e s' tr' eqs hh ha=>z ro gb x s N e s' tr' eqs hh ha) m s N e s' tr' eqs h he
     exact⟨r,fun c Q a w j i g d f o=>wpIn_loop_rounds m (t c Q a w j i g d f o)⟩
   ·unfold ER at h
    split at h
    ·rename_i n I k' l bl ns L s2 M V _
     split at h
     ·rename_i B
      simp only[zLq,beq_iff_eq]at B;simp only[zIq,zJq]at h;obtain⟨rfl,rfl,rfl,rfl⟩:=h;have F:=he _ (alW ..);simp only[de.code.injEq]at F;obtain⟨rfl,rfl,rfl,K,J⟩:=F;refine⟨B.2,fun c Q a w j i g d f o=>?_⟩
      have D:=f.mask d B.1;rw[qu rfl K J]at D;refine M c Q a w j i g d D fun q p u=>?_
      have:=o q p u;cases L<;>exact this
     ·cases h
    ·rename_i A n I k' l bl ns L s2 M V _
     split at h
     ·rename_i B
      simp only[zLq,beq_iff_eq]at B;simp only[zIq,zJq]at h;obtain⟨rfl,rfl,rfl,rfl⟩:=h;have F:=he _ (alW ..);simp only[de.code.injEq]at F;obtain⟨rfl,rfl,rfl,K,J⟩:=F;refine⟨B.2,fun c Q a w j i g d f o=>?_⟩
      have D:=f.mask d B.1;rw[qu rfl K J]at D;refine M c Q a w j i g d D fun q p u=>?_
      have:=o q p u;cases L<;>exact this
     ·cases h
    ·exfalso
     cases m<;>simp[iter]at h
   ·cases h
def Item.aiA:Item P Good→de
 |.call (f:=f) (args:=args) _=>.call f args
 |.eq _ (d:=d) _=>.d d
 |.prop (p:=p) _=>.p p
 |.code (n:=n) (gb:=gb) (k:=k) (l:=l) (bl:=bl) _=>.code k n gb (l.map (·.2)) (bl.map fun p=>some p.2)
 |.Ha (f:=f) (args:=args) _=>.call f args
 |.dY (f:=f) (args:=args) _=>.call f args
 |.inl _ (f:=f) _=>.call f []
 |.freeze _=>.p True
 |.auto _=>.p True
 |.aT (f:=f) (args:=args) (cs:=cs) _ _=>.m f args cs
 |.wY (f:=f) (args:=args) (cs:=cs) _ _=>.m f args cs
 |.mE (f:=f) (mx:=mx) (args:=args) (blks:=blks) (ns:=ns) _ _=>JQ f mx args blks ns
def said(a:List (Item P Good)):List (de×de):=a.map fun i=>(i.aiA,i.aiA)
theorem nZ(b:List (Item P Good)):jI (said b):=by
 intro e a;simp only[said,List.mem_map]at a;obtain⟨i,_,rfl⟩:=a;rfl
theorem apL.ae(b:aa Good){ro:List Nat}{gb m:Nat}{k:Code}{s s':St}{e:o_}(a:List (Item P Good))(h:oA P m ro gb k s a=some (e,s',[],said a)):
  apL P Good gb k s e s':=iO b m ro gb k s a e s' [] _ h (nZ a)
def Ba(P:Program){Good:World→Prop}(ro:List Nat)(m:Nat)(fn:Func)(args:List D)(a:List (Item P Good)):Option (D×List (Item P Good)×List (de×de)):=
 match fn.body with
 |some k=>if Nat.ble args.length fn.ntmps then
   match oA P m ro 0 k (fN fn.ntmps args []) a with
   |some (.normal,s,tr',eqs)|some (.ret,s,tr',eqs)=>match gY P s fn.results.toList with
    |some b=>some (re (b.map (D.rowOf s.fs.blk s.fs.b_)),tr',eqs)
    |none=>none
   |_=>none
  else none
 |none=>none
theorem Spec.Bp(N:aa Good){f:FuncId}{fn:Func}(U:P.funcs[f]? =some fn){ro:List Nat}{m:Nat}{args:List D}{r:D}(E H:List (Item P Good)){eqs:List (de×de)}(Ju:jI eqs)
  (h:Ba P ro m fn args E=some (r,H,eqs)):Spec P Good f args r:=by
 intro w F q L z O;unfold Ba at h;split at h
 ·rename_i k x
  split at h
  ·rename_i hle
   rw[anb]at hle;have key:∀e s,oA P m ro 0 k (fN fn.ntmps args []) E=some (e,s,H,eqs)→(e=.normal∨e=.ret)→(∃j,gY P s fn.results.toList=some j∧re (j.map (D.rowOf s.fs.blk s.fs.b_))=r)→
     Calls P f q.toArray w fun e g=>∃v,e=.returned v∧cU g F v r∧Below w.heap.size w g∧Good g:=by
    intro e s u M K1;obtain⟨j,A,rfl⟩:=K1;have T:=iO N m ro 0 k _ E e s H _ u Ju;have hlen:=pD (blks:=[]) (ns:=[]) hle;refine(callsIn_wide (n:=0)).1 (callsIn_of_wp U x trivial ?_);show Code.wpIn (Fw none) 0 _ _ _ _ _
    let c:Ctx:=⟨P,Good,F,w,[],0,none,[],fun _=>none,0,fun _=>none,fun _=>False⟩
    have G:∀b,(fN fn.ntmps args []).fs.blk b=none:=fun b=>by simp[fN,St.fs]
    refine T.2 c _ _ w rfl rfl L (alE _) ⟨fun _=>0,F,rfl,?_,fun t=>?_,?_,fun b cs a=>?_,fun b cs a=>?_,fun b b' a=>?_,fun _ h=>h,O,O,⟨Below.refl _ _,fun k o x=>(by cases x),amd _⟩,fun p I=>?_,fun p I=>?_,n9.none rfl rfl⟩ fun Q g Z=>?_
    ·rw[hlen];have:=z.1;simp;omega
    ·exact rR (Q':=fun v d=>cW (fun _=>0) w F v d) z.1 hle (fun i J B=>.c (.p (z.2 i J B))) (.c (.p (.lit _))) (.c (.p (.any _))) t
    ·refine rS fun d V b a=>?_
     obtain⟨i,y,rfl⟩:=alZ.1 V;rw[ff (z.2 i (by rw[z.1];exact y) y)]at a;cases a
    ·rw[G]at a;cases a
    ·rw[G]at a;cases a
    ·rw[G]at a;cases a
    ·cases I
    ·cases I
    ·obtain⟨β,X,l⟩:=Z
     obtain⟨C,J,B,W,h4⟩:=lY (c:=c) l A;have Y:a9 g F C (j.map (D.rowOf s.fs.blk s.fs.b_)):=by
      refine⟨by simpa using B,fun i y mU=>?_⟩
      rw[amg];have C4:i<j.length:=by rw[←B];exact y
      refine rX l (W i y C4) l.F fun b cs S k x M=>?_
      have h5:=(l.blk b cs S).1;have h6:=l.vt k x;omega
     have BO:Q.defers=[]∧∃v,(results fn Q.tmps).run P g=.ok v g∧(∃K,Ending.returned v=.returned K∧cU g F K (re (j.map (D.rowOf s.fs.blk s.fs.b_)))∧Below w.heap.size w g∧Good g):=
      ⟨l.defers,tQ C,J,tQ C,rfl,yF Y,l.below.uJ,l.l7 N L⟩
     rcases M with rfl|rfl<;>exact BO
   split at h
   ·rename_i s tr' eqs u
    split at h
    ·rename_i j A
     simp only[zIq,zJq]at h;obtain⟨rfl,rfl,rfl⟩:=h;exact key _ _ u (.inl rfl) ⟨j,A,rfl⟩
    ·cases h
   ·rename_i s tr' eqs u
    split at h
    ·rename_i j A
     simp only[zIq,zJq]at h;obtain⟨rfl,rfl,rfl⟩:=h;exact key _ _ u (.inr rfl) ⟨j,A,rfl⟩
    ·cases h
   ·cases h
  ·cases h
 ·cases h
theorem Spec.ae(c:aa Good){f:FuncId}{fn:Func}(b:P.funcs[f]? =some fn){ro:List Nat}{m:Nat}{args:List D}{r:D}(a:List (Item P Good))
  (h:Ba P ro m fn args a=some (r,[],said a):=by kernel_rfl):Spec P Good f args r:=Spec.Bp c b a [] (nZ a) h
theorem Spec.r(c:aa Good){f:FuncId}{fn:Func}(b:P.funcs[f]? =some fn)(ro:List Nat){args:List D}{r:D}(a:List (Item P Good))(h:Ba P ro 60 fn args a=some (r,[],said a):=by kernel_rfl):Spec P Good f args r:=Spec.ae c b a h
theorem Spec.jN(g:aa Good)(A:rM P Good){f:FuncId}{fn:Func}(e:P.funcs[f]? =some fn){ro:List Nat}{m:Nat}{args:List D}{r:D}(a:List (Item P Good))
  (h:((Ba P ro m fn args (.auto A::a)).map fun o=>(o.1,o.2.2))=some (r,said a):=by kernel_rfl):Spec P Good f args r:=by
 cases b:Ba P ro m fn args (.auto A::a)with
 |none=>rw[b]at h;cases h
 |some o=>
  obtain⟨d,c,i⟩:=o;rw[b]at h;simp only[Option.map_some,zIq,zJq]at h;obtain⟨rfl,rfl⟩:=h;exact Spec.Bp g e _ c (nZ a) b
def runIn(P:Program){Good:World→Prop}(ro:List Nat)(m mx:Nat)(fn:Func)(args:List D)(blks:List (Option (List D)))(a:List (Item P Good)):Option (D×List (Option (List D))×List Nat×List (de×de)):=
 match wT P (oA P m) mx ro fn args blks [] a with
 |some (d,blks',ns',_,eqs)=>some (d,blks',ns',eqs)
 |none=>none
theorem iD.jN(j:aa Good)(A:rM P Good){fn:Func}{ro:List Nat}{m mx:Nat}{args:List D}{blks blks':List (Option (List D))}{d:D}
  (h:runIn P ro m mx fn args blks [Item.auto A]=some (d,blks',[],[]):=by kernel_rfl):iD P Good fn mx args blks [] d blks' []:=by
 unfold runIn at h;split at h
 ·rename_i d1 t q p r l
  simp only[zIq,zJq]at h;obtain⟨rfl,rfl,rfl,rfl⟩:=h;exact oX (fun ro o k s b e c tr' a f i=>iO j m ro o k s b e c tr' a f i) _ _ _ _ _ _ _ _ _ _ _ _ l (fun e g=>by cases g)
 ·cases h
theorem iD.mono{fn:Func}{mx a:Nat}{args:List D}{blks blks':List (Option (List D))}{ns ns':List Nat}{d:D}(h:iD P Good fn mx args blks ns d blks' ns')(b:a≤mx):iD P Good fn a args blks ns d blks' ns':=
 fun f e c w β X vals k j i g=>h f e c w β X vals k j i (alJ g b)
def de.isU:de→Bool
 |.u _=>true
 |_=>false
def de.cells:de→List D
 |.u cs=>cs
 |_=>[]
def CK(l:List (de×de)):List (de×de):=l.filter fun e=>!(e.1.isU&&e.2.isU)
def Nz(l:List (de×de)):List (List D):=(l.filter fun e=>e.1.isU&&e.2.isU).map fun e=>e.1.cells
def FR(l:List (de×de)):List (List D):=(l.filter fun e=>e.1.isU&&e.2.isU).map fun e=>e.2.cells
theorem Gq{α β:Type}{f g:α→β}:∀{l:List α},l.map f=l.map g→∀x∈l,f x=g x
 |[],_,_,h=>by cases h
 |a::l,e,x,h=>by
  simp only[List.map_cons,List.cons.injEq]at e;rcases alM.1 h with rfl|h
  ·exact e.1
  ·exact Gq e.2 x h
theorem zm{l:List (de×de)}{c:List (Item P Good)}(h:CK l=said c)(g:Nz l=FR l):jI l:=by
 intro e d;by_cases hu:(e.1.isU&&e.2.isU)=true
 ·have f:=Gq g e (anR.2 ⟨d,hu⟩)
  rw[zLq]at hu;obtain⟨a,b⟩:=e;cases a<;>simp only[de.isU,Bool.false_eq_true,false_and]at hu
  cases b<;>simp only[Bool.false_eq_true,and_false]at hu
  simp only[de.cells]at f;rw[f]
 ·have:e∈CK l:=anR.2 ⟨d,by rw[Bool.eq_false_iff.2 hu];rfl⟩
  rw[h]at this;exact nZ c e this
def adk{α:Type}(f:List (de×de)→α)(o:Option (D×List (Item P Good)×List (de×de))):Option (D×α):=o.map fun o=>(o.1,f o.2.2)
theorem Spec.aq(i:aa Good)(A:rM P Good){f:FuncId}{fn:Func}(g:P.funcs[f]? =some fn){ro:List Nat}{m:Nat}{args:List D}{r:D}(a:List (Item P Good))
  (h:adk CK (Ba P ro m fn args (.auto A::a))=some (r,said a):=by kernel_rfl) (b:adk Nz (Ba P ro m fn args (.auto A::a))=adk FR (Ba P ro m fn args (.auto A::a)):=by kernel_rfl):Spec P Good f args r:=by
 unfold adk at h b;cases c:Ba P ro m fn args (.auto A::a)with
 |none=>rw[c]at h;cases h
 |some o=>
  obtain⟨d,e,j⟩:=o;rw[c]at h b;simp only[Option.map_some,zIq,zJq,true_and]at h b;obtain⟨rfl,h⟩:=h;exact Spec.Bp i g _ e (zm h b) c
theorem Mr{β:Nat→Nat}{w:World}{X:Nat→Prop}{v:Value}{b off len a:Nat}(h:cW β w X v (.bz b off len a)):v=.slice (some ⟨β b,off,none⟩) len a∧a≤maxLen:=by
 cases h with
 |c h=>cases h with
  |p d=>cases d
  |bz _ _ _ _ _ e=>exact⟨rfl,e⟩
theorem Spec.y(c:aa Good)(A:rM P Good){f:FuncId}{fn:Func}(b:P.funcs[f]? =some fn)(ro:List Nat){args:List D}{r:D}(a:List (Item P Good))(h:adk CK (Ba P ro 60 fn args (.auto A::a))=some (r,said a):=by kernel_rfl)(d:adk Nz (Ba P ro 60 fn args (.auto A::a))=adk FR (Ba P ro 60 fn args (.auto A::a)):=by kernel_rfl):Spec P Good f args r:=Spec.aq c A b a h d
theorem zX.ae(V:aa Good){f:FuncId}{fn:Func}(hf:P.funcs[f]? =some fn){k:Code}(J:fn.body=some k){ro:List Nat}{m:Nat}{args:List D}{n:Nat}{cs:List D}{t:Tmp}(hle:args.length≤fn.ntmps)(K1:fn.results= #[.tmp t]){e:o_}{b:Nat}(x:List (Item P Good))
  (h:((oA P m ro 0 k (fN fn.ntmps args []) x).map fun o=>(o.1,o.2.1.tmps.getD t .any,(if o.2.1.b_.contains b then none else o.2.1.blks.getD b none),o.2.2.1,o.2.2.2))=some (e,.bz b 0 n n,some cs,[],said x)) (he:e=.normal∨e=.ret):zX P Good f args n cs:=by
 intro w F N O z W;cases H:oA P m ro 0 k (fN fn.ntmps args []) x with
 |none=>rw[H]at h;cases h
 |some o=>
  obtain⟨e1,s,xg,w9⟩:=o;rw[H]at h;simp only[Option.map_some,zIq,zJq]at h;obtain⟨rfl,B,A,rfl,rfl⟩:=h;have y:s.b_.contains b=false:=by
   cases hq:s.b_.contains b with
   |false=>rfl
   |true=>rw[hq]at A;simp at A
  have U:s.blks.getD b none=some cs:=by rw[y]at A;simpa using A
  have hs:=iO V m ro 0 k _ x e1 s [] _ H (nZ x);have hlen:=pD (blks:=[]) (ns:=[]) hle;refine(callsIn_wide (n:=0)).1 (callsIn_of_wp hf J trivial ?_);show Code.wpIn (Fw none) 0 _ _ _ _ _
  let c:Ctx:=⟨P,Good,F,w,[],0,none,[],fun _=>none,0,fun _=>none,fun _=>False⟩
  have E:∀b,(fN fn.ntmps args []).fs.blk b=none:=fun b=>by simp[fN,St.fs]
  refine hs.2 c _ _ w rfl rfl O (alE _) ⟨fun _=>0,F,rfl,?_,fun t=>?_,?_,fun b cs g=>?_,fun b cs g=>?_,fun b b' g=>?_,fun _ h=>h,W,W,⟨Below.refl _ _,fun k o J=>(by cases J),amd _⟩,fun p I=>?_,fun p I=>?_,n9.none rfl rfl⟩ fun Y q aW=>?_
  ·rw[hlen];have:=z.1;simp;omega
  ·exact rR (Q':=fun v d=>cW (fun _=>0) w F v d) z.1 hle (fun i L K=>.c (.p (z.2 i L K))) (.c (.p (.lit _))) (.c (.p (.any _))) t
  ·refine rS fun d B b g=>?_
   obtain⟨i,T,rfl⟩:=alZ.1 B;rw[ff (z.2 i (by rw[z.1];exact T) T)]at g;cases g
  ·rw[E]at g;cases g
  ·rw[E]at g;cases g
  ·rw[E]at g;cases g
  ·cases I
  ·cases I
  ·obtain⟨β,X,l⟩:=aW
   have S:=l.tmp t;have Z:s.fs.tmp t=.bz b 0 n n:=B;rw[Z]at S;obtain⟨q1,q2,r,ty,q3,q4,C⟩:=l.blk b cs U;have q5:=C.pure (yW l U y);have BO:Y.defers=[]∧∃v,(results fn Y.tmps).run P q=.ok v q∧∃k r ty,Ending.returned v=.returned (.slice (some ⟨k,0,none⟩) n n)∧n≤maxLen∧w.heap.size≤k∧q.heap[k]? =some (.cells r ty (0,0))∧cs.length≤r.size∧
     a9 q (fun j=>F j∨j=k) (r.toList.take cs.length) cs∧Below w.heap.size w q∧Good q:=by
    have Ev:gY c.P s fn.results.toList=some [.bz b 0 n n]:=by rw[K1];simp only[gY,resultD,B]
    obtain⟨vs,L,K,h3,h4⟩:=lY (c:=c) l Ev;obtain⟨v,rfl⟩:=ams.1 K;have lI:=h3 0 (by simp) (by simp)
    refine⟨l.defers,v,L,β b,r,ty,?_,?_,q1,q3,q4,q5.mono (fun a u ha Q=>⟨ha,?_⟩),l.below.uJ,l.l7 V O⟩
    ·have G:cW β q X v (.bz b 0 n n):=lI
     rw[(Mr G).1]
    ·exact(Mr S).2
    ·rintro(M|M)
     ·exact Q (l.F _ M)
     ·exact Q (by rw[M];exact q2)
   rcases he with rfl|rfl<;>exact BO
theorem apL.loop{ι:Type}{gb:Nat}{body:Code}(R:ι→Prop)(inv:ι→St)(μ:ι→Nat){n:Nat}{e:o_}{s':St}(b:∀i,(inv i).tmps.length=n)(B:e≠.normal)
  (round:∀i,R i→(∃j s1 f h g,R j∧μ j<μ i∧apL P Good gb body (inv i) .normal s1∧vS gb f h g s1=true∧(s1.mask f h g).fs=(inv j).fs)∨
   (∃s1 f h g,apL P Good gb body (inv i) e s1∧vS gb f h g s1=true∧(s1.mask f h g).fs=s'.fs)) (i:ι) (u:R i):bT P Good n gb (.loop body) (inv i) e s':=by
 intro c Q a w y x v p q C;have D:∀o d,Rel c n s'.fs o d→Q e.Cw o d:=fun o d l=>by have:=C o d l;cases e<;>exact this
 refine wpIn_loop_ghost (fun k a w=>∃i,μ i=k∧R i∧Rel c n (inv i).fs a w) (μ i) ⟨i,rfl,u,q⟩ fun k a w z=>?_
 obtain⟨i,rfl,u,q⟩:=z;rcases round i u with⟨j,s1,f,h,g,A,E,r,s,t⟩|⟨s1,f,h,g,r,s,t⟩
 ·refine r.2 c _ a w y x v p (by rw[b];exact q) fun o d l=>?_
  rw[b]at l;exact⟨μ j,E,j,rfl,A,by rw[←t];exact l.mask p s⟩
 ·refine r.2 c _ a w y x v p (by rw[b];exact q) fun o d l=>?_
  rw[b]at l;have:=D o d (by rw[←t];exact l.mask p s)
  cases e with
  |normal=>exact apC rfl B
  |exit id=>exact this
  |ret=>exact this
end Lw
