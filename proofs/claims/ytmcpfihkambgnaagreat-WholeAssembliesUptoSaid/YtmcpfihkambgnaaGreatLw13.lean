/- Part 13. -/
import Derived.Test.YtmcpfihkambgnaaGreatLw12
import Derived.Shelf.Abstract
open Bool renaming and_eq_true→zLq
open Go.Proofs.Tryz renaming prog→zZq
open Go.Proofs.Tryz
open Int renaming ofNat→zNq
namespace Lw
open Go Go.RowKit Go.Proofs
def Ma:Value→Value→Bool
 |.int k a,.int l b=>decide (k=l)&&decide (a=b)
 |.bool a,.bool b=>decide (a=b)
 |.string a,.string b=>Kf a b
 |.nilIface,.nilIface=>true
 |_,_=>false
theorem XA:∀{a b:Value},Ma a b=true→a=b
 |.int k a,.int l b,h=>by
  simp only[Ma,zLq,decide_eq_true_eq]at h;rw[h.1,h.2]
 |.bool a,.bool b,h=>by
  simp only[Ma,decide_eq_true_eq]at h;rw[h]
 |.string a,.string b,h=>by
  simp only[Ma]at h;rw[FC h]
 |.nilIface,.nilIface,_=>rfl
def eqL(f:D→D→Bool):List D→List D→Bool
 |[],[]=>true
 |a::l,b::m=>f a b&&eqL f l m
 |_,_=>false
theorem x7{f:D→D→Bool}(c:∀{a b},f a b=true→a=b):∀{l m:List D},eqL f l m=true→l=m
 |[],[],_=>rfl
 |a::l,b::m,h=>by
  simp only[eqL,zLq]at h;rw[c h.1,x7 c h.2]
def VX:Nat→D→D→Bool
 |0,_,_=>false
 |_+1,.lit a,.lit b=>Ma a b
 |n+1,.row l f xs,.row m g c=>decide (l=m)&&decide (f=g)&&eqL (VX n) xs c
 |n+1,.agg xs,.agg c=>eqL (VX n) xs c
 |n+1,.aV xs,.aV c=>eqL (VX n) xs c
 |n+1,.aY xs,.aY c=>eqL (VX n) xs c
 |_,_,_=>false
theorem uE:∀(n:Nat){a b:D},VX n a b=true→a=b
 |0,_,_,h=>by simp[VX]at h
 |n+1,a,b,h=>by
  cases a<;>cases b<;>simp only[VX,Bool.false_eq_true]at h
  ·rw[XA h]
  ·simp only[zLq,decide_eq_true_eq]at h
   rw[h.1.1,h.1.2,x7 (fun c=>uE n c) h.2]
  ·rw[x7 (fun c=>uE n c) h]
  ·rw[x7 (fun c=>uE n c) h]
  ·rw[x7 (fun c=>uE n c) h]
namespace Tw
open fL
variable {G:World→Prop}
def TB:D→List Nat
 |.row _ _ xs=>xs.map fun x=>match x with
  |.lit (.int _ z)=>z.toNat
  |_=>0
 |_=>[]
def valOf:List Nat→Nat
 |[]=>0
 |x::l=>x+4294967296*valOf l
def qOf(s n d:D):Rat:=match s with
 |.lit (.bool true)=>mkRat (-(valOf (TB n):Int)) (valOf (TB d))
 |_=>mkRat (valOf (TB n):Int) (valOf (TB d))
def lOf:List D→List Rat
 |s::n::d::r=>qOf s n d::lOf r
 |_=>[]
def Rz:D→Rat
 |.agg [s,n,d]=>qOf s n d
 |_=>0
def HK:D→List Rat
 |.row _ _ c=>lOf c
 |_=>[]
def PZ:D→aS
 |.agg [.row _ _ ns]=>ns.map HK
 |_=>[]
instance(k:Nat)(q:Rat):Decidable (gU k q):=by unfold gU;infer_instance
def okQ(d:D):Bool:=VX 4 (F (Rz d)) d&&decide (gU 16 (Rz d))
def okT(d:D):Bool:=VX 5 (aP (PZ d)) d&&match PZ d with
 |[]=>true
 |[[q]]=>decide (gU 2 q)&&decide (0≤rW q)
 |_=>false
def okN(t:aS)(d:D):Bool:=VX 4 (aA (HK d)) d&&(decide ((HK d).length≤1)||decide ((HK d).length=2∧t.length=1))&&(HK d).all fun q=>decide (gU 16 q)
theorem Ge{d:D}(h:okQ d=true):d=F (Rz d)∧gU 16 (Rz d):=by
 unfold okQ at h;simp only[zLq,decide_eq_true_eq]at h;exact⟨(uE _ h.1).symm,h.2⟩
theorem QL{d:D}(h:okT d=true):d=aP (PZ d)∧(PZ d).length≤1∧n7 512 (PZ d):=by
 unfold okT at h;rw[zLq]at h;refine⟨(uE _ h.1).symm,?_⟩;have a:=h.2;generalize PZ d=t at a
 match t,a with
 |[],_=>exact⟨by simp,⟨.nil,w5.nil 512,by decide⟩⟩
 |[[q]],a=>
  simp only[zLq,decide_eq_true_eq]at a;refine⟨by simp,⟨⟨by simp,fun j e=>?_,fun k c=>?_⟩,aeM (by simp) (by simp) (fun d f g b=>?_),(show sb 512 1 512≤NB by decide+kernel)⟩⟩
  ·obtain rfl:j=0:=by simp at e;exact e
   rfl
  ·obtain rfl:k=0:=by simp at c;exact c
   exact a.2
  ·rw[alI]at f;subst f
   rw[alI]at b;subst b;exact a.1
theorem QM{t:aS}{d:D}(h:okN t d=true):d=aA (HK d)∧aQ 2048 t (HK d):=by
 unfold okN at h;simp only[zLq,Bool.or_eq_true,decide_eq_true_eq,List.all_eq_true]at h;obtain⟨⟨f,b⟩,e⟩:=h;refine⟨(uE _ f).symm,⟨?_,(Bt.Zj (k:=16) (fun q c=>e q c)).mono (by rcases b with b|b<;>omega)⟩⟩
 generalize HK d=l at b;rcases b with b|b
 ·cases l with
  |nil=>exact .nil _
  |cons a m=>
   have:m=[]:=by cases m with
    |nil=>rfl
    |cons _ _=>simp at b
   subst this;exact .inr ⟨0,amd _,rfl⟩
 ·exact .inr ⟨1,by omega,b.1⟩
theorem I9{k:Nat}(h:k≤1):sb 512 k 2048≤NB∧2048+2048+1≤NB∧2048+2048+tb 512 k≤NB∧2048+ib 512 k 2048+tb 512 k≤NB∧sb 512 k (2048+2048+1)≤NB:=by
 have:k=0∨k=1:=by omega
 rcases this with rfl|rfl<;>decide+kernel
theorem GB:16≤KB:=by rw[pd];omega
def tp(d:D):D:=.aY [d,.lit .nilIface]
def o3(f:FuncId)(t a b:D):Option D:=
 if f=316∨f=312∨f=317∨f=284∨f=52 then
  if okT t&&okN (PZ t) a&&okN (PZ t) b then
   if f=316 then some (tp (aA (o9 (HK a) (HK b))))
   else if f=312 then some (tp (aA (jg (HK a) (HK b))))
   else if f=317 then some (tp (aA (mulL (PZ t) (HK a) (HK b))))
   else if f=52 then some (tp (int (a7 (PZ t) (dJ (HK a) (fp (HK b))))))
   else if f=284 then(if a7 (PZ t) (HK b)=0 then none else some (tp (aA (wu (PZ t) (HK a) (HK b)))))
   else none
  else none
 else none
def o2(f:FuncId)(a b:D):Option D:=
 if f=51∨f=23∨f=157∨f=65 then
  if okT a&&okN (PZ a) b then
   if f=51 then some (tp (aA (xI (HK b))))
   else if f=23 then some (tp (int (a7 (PZ a) (HK b))))
   else if f=65 then some (int (a7 (PZ a) (HK b)))
   else if f=157 then some (bool true)
   else none
  else none
 else if f=112∨f=70∨f=45∨f=320 then
  if okQ a&&okQ b then
   if f=112 then some (F (Rz a+Rz b))
   else if f=70 then some (F (Rz a-Rz b))
   else if f=45 then some (F (Rz a*Rz b))
   else if f=320 then(if Rz b=0 then none else some (tp (F (Rz a/Rz b))))
   else none
  else none
 else none
def o1(f:FuncId)(a:D):Option D:=
 if f=50 then(if okT a then some (.lit .nilIface)else none)
 else if f=86 then(if okQ a then some (aA (iF (Rz a)))else none)
 else if f=43 then(if okQ a then some (int (rW (Rz a)))else none)
 else if f=42 then(if okQ a then some (bool true)else none)
 else if f=28 then(match a with
  |.lit (.int .i64 z)=>if -9223372036854775808≤z∧z<9223372036854775808 then some (F (z:Rat))else none
  |_=>none)
 else none
theorem aiV(i:aa G){f:FuncId}{t a b r:D}(h:o3 f t a b=some r):Spec zZq G f [t,a,b] r:=by
 unfold o3 at h;split at h
 ·split at h
  ·rename_i j
   simp only[zLq]at j;obtain⟨s,n,g⟩:=QL j.1.1;obtain⟨q,e⟩:=QM j.1.2;obtain⟨p,d⟩:=QM j.2;obtain⟨s1,s2,m,l,k⟩:=I9 n;rw[s,q,p];split at h
   ·rename_i c;subst c;cases h;exact Cj i g e d s2
   ·split at h
    ·rename_i c;subst c;cases h;exact PA i g e d s2
    ·split at h
     ·rename_i c;subst c;cases h;exact kP i g e d m
     ·split at h
      ·rename_i c;subst c;cases h;exact yq i g e d k
      ·split at h
       ·rename_i c
        split at h
        ·cases h
        ·rename_i o;subst c;cases h;exact PF i g e d o s1 l
       ·cases h
  ·cases h
 ·cases h
theorem aiW(d:aa G){f:FuncId}{a b r:D}(h:o2 f a b=some r):Spec zZq G f [a,b] r:=by
 unfold o2 at h;split at h
 ·split at h
  ·rename_i e
   simp only[zLq]at e;obtain⟨k,l,i⟩:=QL e.1;obtain⟨j,g⟩:=QM e.2;obtain⟨s1,s2,p,o,n⟩:=I9 l;rw[k,j];split at h
   ·rename_i c;subst c;cases h;exact ym d i g (by omega)
   ·split at h
    ·rename_i c;subst c;cases h;exact oz d i g s1
    ·split at h
     ·rename_i c;subst c;cases h;exact lS d i g s1
     ·split at h
      ·rename_i c;subst c;cases h;exact Hx d i g (by omega)
      ·cases h
  ·cases h
 ·split at h
  ·split at h
   ·rename_i e
    simp only[zLq]at e;obtain⟨k,s1⟩:=Ge e.1;obtain⟨j,s2⟩:=Ge e.2;rw[k,j];split at h
    ·rename_i c;subst c;cases h;exact vu d s1.tW s2.tW GB GB
    ·split at h
     ·rename_i c;subst c;cases h;exact J2 d s1.tW s2.tW GB GB
     ·split at h
      ·rename_i c;subst c;cases h;exact DD d s1.tW s2.tW GB GB
      ·split at h
       ·rename_i c
        split at h
        ·cases h
        ·rename_i m;subst c;cases h;exact DE d s1.tW s2.tW GB GB m
       ·cases h
   ·cases h
  ·cases h
theorem aiX(e:aa G){f:FuncId}{a r:D}(h:o1 f a=some r):Spec zZq G f [a] r:=by
 unfold o1 at h;split at h
 ·rename_i b;subst b
  split at h
  ·rename_i c
   obtain⟨d,k,g⟩:=QL c;rw[d];cases h;exact tA e g.ok g.bt g.sz
  ·cases h
 ·split at h
  ·rename_i b;subst b
   split at h
   ·rename_i c
    obtain⟨d,s1⟩:=Ge c;rw[d];cases h;exact dG e (s1.mono GB)
   ·cases h
  ·split at h
   ·rename_i b;subst b
    split at h
    ·rename_i c
     obtain⟨d,s1⟩:=Ge c;rw[d];cases h;exact tx e s1.tW GB
    ·cases h
   ·split at h
    ·rename_i b;subst b
     split at h
     ·rename_i c
      obtain⟨d,s1⟩:=Ge c;rw[d];cases h;have j:=qC (G:=G) e (s1.mono GB).ok (alE _);rw[DR]at j;exact j
     ·cases h
    ·split at h
     ·rename_i b;subst b
      split at h
      ·split at h
       ·rename_i z i
        cases h;exact dA e i.1 i.2
       ·cases h
      ·cases h
     ·cases h
end Tw
end Lw
namespace Lw
open Go Go.RowKit Go.Proofs
structure Ent(P:Program)(G:World→Prop)where
 f:FuncId
 args:List D
 r:D
 ok:Spec P G f args r
def Nn{P:Program}{G:World→Prop}:List (Ent P G)→FuncId→List D→Option D
 |[],_,_=>none
 |e::l,f,args=>if e.f=f then(match eqL (VX 12) e.args args with
  |true=>some e.r
  |false=>Nn l f args)else Nn l f args
theorem Gu{P:Program}{G:World→Prop}:∀(l:List (Ent P G))(f:FuncId)(args:List D)(r:D),Nn l f args=some r→Spec P G f args r
 |[],_,_,_,h=>by cases h
 |e::l,f,args,r,h=>by
  unfold Nn at h;split at h
  ·rename_i b
   split at h
   ·rename_i c
    cases h;have:=e.ok;rw[b,x7 (fun a=>uE 12 a) c]at this
    exact this
   ·exact Gu l f args r h
  ·exact Gu l f args r h
structure aia(P:Program)(G:World→Prop)where
 f:FuncId
 args:List D
 r:D
 ok:iz P G f args r
def Nm{P:Program}{G:World→Prop}:List (aia P G)→FuncId→List D→Option D
 |[],_,_=>none
 |e::l,f,args=>if e.f=f then(match eqL (VX 12) e.args args with
  |true=>some e.r
  |false=>Nm l f args)else Nm l f args
theorem Gt{P:Program}{G:World→Prop}:∀(l:List (aia P G))(f:FuncId)(args:List D)(r:D),Nm l f args=some r→iz P G f args r
 |[],_,_,_,h=>by cases h
 |e::l,f,args,r,h=>by
  unfold Nm at h;split at h
  ·rename_i b
   split at h
   ·rename_i c
    cases h;have:=e.ok;rw[b,x7 (fun a=>uE 12 a) c]at this
    exact this
   ·exact Gt l f args r h
  ·exact Gt l f args r h
structure W9(P:Program)(G:World→Prop)where
 f:FuncId
 mx:Nat
 args:List D
 blks:List (Option (List D))
 d:D
 blks':List (Option (List D))
 ok:∀fn,P.funcs[f]? =some fn→iD P G fn mx args blks [] d blks' []
def Nl{P:Program}{G:World→Prop}:List (W9 P G)→FuncId→Nat→List D→List (Option (List D))→Option (D×List (Option (List D)))
 |[],_,_,_,_=>none
 |e::l,f,mx,args,blks=>if e.f=f then(match Nat.ble mx e.mx&&eqL (VX 12) e.args args&&tg e.blks blks with
  |true=>some (e.d,e.blks')
  |false=>Nl l f mx args blks)else Nl l f mx args blks
theorem Gs{P:Program}{G:World→Prop}:∀(l:List (W9 P G))(f:FuncId)(mx:Nat)(args:List D)(blks:List (Option (List D)))(d:D)(blks':List (Option (List D)))(fn:Func),Nl l f mx args blks=some (d,blks')→P.funcs[f]? =some fn→iD P G fn mx args blks [] d blks' []
 |[],_,_,_,_,_,_,_,h,_=>by cases h
 |e::l,f,mx,args,blks,d,blks',fn,h,a=>by
  unfold Nl at h;split at h
  ·rename_i g
   split at h
   ·rename_i b
    simp only[Bool.and_eq_true]at b;simp only[Option.some.injEq,Prod.mk.injEq]at h;obtain⟨rfl,rfl⟩:=h;have:=e.ok fn (by rw[g];exact a)
    rw[x7 (fun c=>uE 12 c) b.1.2,qA b.2]at this
    exact this.mono (aoZ b.1.1)
   ·exact Gs l f mx args blks d blks' fn h a
  ·exact Gs l f mx args blks d blks' fn h a
namespace Tw
variable {G:World→Prop}
def base(f:FuncId):List D→Option D
 |[a]=>o1 f a
 |[a,b]=>o2 f a b
 |[a,b,c]=>o3 f a b c
 |_=>none
theorem aeo(a:aa G){f:FuncId}:∀{args:List D}{r:D},base f args=some r→Spec zZq G f args r
 |[_],_,h=>aiX a h
 |[_,_],_,h=>aiW a h
 |[_,_,_],_,h=>aiV a h
 |[],_,h=>by cases h
 |_::_::_::_::_,_,h=>by cases h
def nY(i:aa G)(l:List (Ent zZq G))(e:List (aia zZq G):=[])(ro:FuncId→List Nat:=fun _=>[])(stop:FuncId→Bool:=fun _=>false)(li:List (W9 zZq G):=[]):rM zZq G where
 orc f args:=match Nn l f args with
  |some r=>some r
  |none=>match base f args with
   |some r=>JA 12 r some
   |none=>none
 ok f args r h:=by
  split at h
  ·rename_i c a
   cases h;exact Gu _ _ _ _ a
  ·split at h
   ·rename_i c a
    rw[qR]at h;cases h;exact aeo i a
   ·cases h
 ro:=ro
 stop:=stop
 ado f args:=Nm e f args
 okF f args r h:=Gt _ _ _ _ h
 adn f b args blks:=Nl li f b args blks
 okI f fn b args blks d blks' h g:=Gs _ _ _ _ _ _ _ _ h g
 fr:=true
end Tw
def str(l:List Nat):D:=.lit (.string ⟨(l.map UInt8.ofNat).toArray⟩)
def qd(s:Bool)(n d:List Nat):D:=.agg [bool s,az n,az d]
end Lw
namespace Lw
open Go Go.RowKit Go.Proofs
variable {P:Program} {Good:World→Prop}
def xB:D→Bool
 |.lit _=>true
 |.any=>true
 |.row _ _ xs=>xs.isEmpty
 |_=>false
theorem CJ{w w':World}{X Y:Nat→Prop}{v:Value}{d:D}(b:xB d=true)(h:cU w X v d):cU w' Y v d:=by
 cases h with
 |any v=>exact .any v
 |lit v=>exact .lit v
 |row a len cap full us xs f hlen j g hm k=>
  have e:xs=[]:=by simpa [xB]using b
  subst e;have hu:us=[]:=List.length_eq_zero_iff.1 f;subst hu;exact .row a len cap full [] [] rfl hlen j g (fun i h=>apC h (by simp)) (fun i h=>apC h (by simp))
 |_=>cases b
theorem UO{d:D}(b:xB d=true):d.ref=none:=by cases d<;>first|rfl|cases b
def v_(blk:Nat→Option (List D))(b_:Nat→Bool):Nat→D→Bool
 |0,d=>match d.ref with
  |some b=>match blk b,b_ b with
   |some cs,false=>cs.all xB
   |_,_=>true
  |none=>xB d
 |m+1,d=>match d.ref with
  |some b=>match blk b with
   |some cs=>match b_ b with
    |false=>cs.all xB
    |true=>cs.all (v_ blk b_ m)
   |none=>true
  |none=>xB d
theorem MP{β:Nat→Nat}{w:World}{X Y:Nat→Prop}{v:Value}{d:D}{b:Nat}(h:cu β w X v d)(i:d.ref=some b):cu β w Y v d:=by
 cases h with
 |p j=>rw[jk j]at i;cases i
 |ptr b off=>exact .ptr b off
 |bz b off len cap g f=>exact .bz b off len cap g f
 |cR b n size cap e g f k=>exact .cR b n size cap e g f k
section
variable {c:Ctx} {n:Nat} {s:FSt} {a:Act} {w:World} {β:Nat→Nat} {X:Nat→Prop}
theorem Jy(h:dk c n s a w β X):∀(m:Nat)(v:Value)(d:D),v_ s.blk s.b_ m d=true→cu β w X v d→cU w (fun k=>k<c.w0.heap.size) v (D.w7 s.blk s.b_ m d):=by
 have flat:∀{v:Value}{d:D}{b:Nat}{cs:List D},d.ref=some b→s.blk b=some cs→cs.all xB=true→cu β w X v d→cU w (fun k=>k<c.w0.heap.size) v (d.dX b cs):=fun{v d b cs} g j z l=>by
  obtain⟨G,_,r,e,B,_,q⟩:=h.blk b cs j;rw[al9]at z;have y:a9 w (fun k=>k<c.w0.heap.size) (r.toList.take cs.length) cs:=⟨q.1,fun i F t=>
   CJ (w:=w) (X:=X) (z _ (al2 t)) ((q.2 i F t).pure (UO (z _ (al2 t))))⟩
  refine((lO B y (MP l g)).pure (xj g)).mono fun a u hu o=>⟨hu,fun f=>o ⟨f,fun e=>?_⟩⟩
  have A:a.block<c.w0.heap.size:=f;omega
 intro m;induction m with
 |zero=>
  intro v d f l;unfold v_ at f;unfold D.w7;split
  ·rename_i b g
   rw[g]at f;split
   ·rename_i cs j p
    simp only[j,p]at f;exact flat g j f l
   ·exact .any _
  ·rename_i g
   rw[g]at f;exact CJ f (l.pure g)
 |succ m C=>
  intro v d f l;unfold v_ at f;unfold D.w7;split
  ·rename_i b g
   rw[g]at f;split
   ·rename_i cs j
    split
    ·rename_i p
     simp only[j,p]at f;exact flat g j f l
    ·rename_i p
     simp only[j,p]at f;rw[al9]at f;obtain⟨G,_,r,e,B,_,q⟩:=h.blk b cs j;have y:a9 w (fun k=>k<c.w0.heap.size) (r.toList.take (cs.map (D.w7 s.blk s.b_ m)).length) (cs.map (D.w7 s.blk s.b_ m)):=by
      rw[alR];exact q.map fun u x o E=>C u x (f x o) E
     refine((lO B y (MP l g)).pure (xj g)).mono fun a u hu o=>⟨hu,fun f=>o ⟨f,fun e=>?_⟩⟩
     have A:a.block<c.w0.heap.size:=f;omega
   ·exact .any _
  ·rename_i g
   rw[g]at f;exact CJ f (l.pure g)
def K8(blk:Nat→Option (List D))(b_:Nat→Bool):D→Bool
 |.agg xs=>xs.all (v_ blk b_ 4)
 |.aY xs=>xs.all (v_ blk b_ 4)
 |d=>v_ blk b_ 4 d
theorem GR(h:dk c n s a w β X){v:Value}{d:D}(j:K8 s.blk s.b_ d=true)(g:cW β w X v d):cU w (fun k=>k<c.w0.heap.size) v (d.rowOf s.blk s.b_):=by
 have many:∀{us:List Value}{xs:List D},xs.all (v_ s.blk s.b_ 4)=true→LQ (cu β w X) us xs→a9 w (fun k=>k<c.w0.heap.size) us (xs.map (D.w7 s.blk s.b_ 4)):=fun t f=>
  f.map fun u x z y=>Jy h 4 u x (al9.1 t x z) y
 cases g with
 |c g=>
  by_cases r:∃xs,d=.agg xs
  ·obtain⟨xs,rfl⟩:=r
   cases g with
   |p m=>cases m with
    |agg us _ f l=>
     have:=many (us:=us) (xs:=xs) j ⟨f,fun i a b=>.p (l i a b)⟩
     exact .agg us _ this.1 this.2
  ·by_cases q:∃xs,d=.aY xs
   ·obtain⟨xs,rfl⟩:=q
    cases g with
    |p m=>cases m with
     |aY us _ f l=>
      have:=many (us:=us) (xs:=xs) j ⟨f,fun i a b=>.p (l i a b)⟩
      exact .aY us _ this.1 this.2
   ·have e:d.rowOf s.blk s.b_=(D.w7 s.blk s.b_ 4 d).FW:=by
     cases d<;>first|rfl|exact apC ⟨_,rfl⟩ r|exact apC ⟨_,rfl⟩ q
    have o:v_ s.blk s.b_ 4 d=true:=by
     cases d<;>first|exact j|exact apC ⟨_,rfl⟩ r|exact apC ⟨_,rfl⟩ q
    rw[e];exact uR (Jy h 4 _ _ o g)
 |agg us xs f=>have:=many j f;exact .agg us _ this.1 this.2
 |aY us xs f=>have:=many j f;exact .aY us _ this.1 this.2
end
def Qc(P:Program){Good:World→Prop}(ro:List Nat)(m:Nat)(fn:Func)(args:List D)(d:List (Item P Good)):Option (D×List (Item P Good)×List (de×de)):=
 match fn.body with
 |some k=>if Nat.ble args.length fn.ntmps then
   match oA P m ro 0 k (fN fn.ntmps args []) d with
   |some (.normal,s,tr',eqs)|some (.ret,s,tr',eqs)=>match gY P s fn.results.toList with
    |some b=>if b.all (K8 s.fs.blk s.fs.b_)then some (re (b.map (D.rowOf s.fs.blk s.fs.b_)),tr',eqs)else none
    |none=>none
   |_=>none
  else none
 |none=>none
theorem iz.Bp(O:aa Good){f:FuncId}{fn:Func}(T:P.funcs[f]? =some fn){ro:List Nat}{m:Nat}{args:List D}{r:D}(G I:List (Item P Good)){eqs:List (de×de)}(Ju:jI eqs)
  (h:Qc P ro m fn args G=some (r,I,eqs)):iz P Good f args r:=by
 intro w x N B;unfold Qc at h;split at h
 ·rename_i k K
  split at h
  ·rename_i hle
   rw[anb]at hle;have key:∀e s,oA P m ro 0 k (fN fn.ntmps args []) G=some (e,s,I,eqs)→(e=.normal∨e=.ret)→(∃l,gY P s fn.results.toList=some l∧l.all (K8 s.fs.blk s.fs.b_)=true∧re (l.map (D.rowOf s.fs.blk s.fs.b_))=r)→
     Calls P f x.toArray w fun e q=>∃v,e=.returned v∧cU q (fun k=>k<w.heap.size) v r∧Below w.heap.size w q∧Good q:=by
    intro e s y U K1;obtain⟨l,C,g,rfl⟩:=K1;have S:=iO O m ro 0 k _ G e s I _ y Ju;have hlen:=pD (blks:=[]) (ns:=[]) hle;refine(callsIn_wide (n:=0)).1 (callsIn_of_wp T K trivial ?_);show Code.wpIn (Fw none) 0 _ _ _ _ _
    let c:Ctx:=⟨P,Good,fun _=>False,w,[],0,none,[],fun _=>none,0,fun _=>none,fun _=>False⟩
    have H:∀b,(fN fn.ntmps args []).fs.blk b=none:=fun b=>by simp[fN,St.fs]
    refine S.2 c _ _ w rfl rfl N (alE _) ⟨fun _=>0,fun _=>False,rfl,?_,fun t=>?_,?_,fun b cs j=>?_,fun b cs j=>?_,fun b b' j=>?_,fun _ h=>h,fun _ h=>h.elim,fun _ h=>h.elim,⟨Below.refl _ _,fun k o K=>(by cases K),amd _⟩,fun p J=>?_,fun p J=>?_,n9.none rfl rfl⟩ fun Q q Z=>?_
    ·rw[hlen];have:=B.1;simp;omega
    ·exact rR (Q':=fun v d=>cW (fun _=>0) w (fun _=>False) v d) B.1 hle (fun i u E=>.c (.p (B.2 i u E))) (.c (.p (.lit _))) (.c (.p (.any _))) t
    ·refine rS fun d V b j=>?_
     obtain⟨i,z,rfl⟩:=alZ.1 V;rw[ff (B.2 i (by rw[B.1];exact z) z)]at j;cases j
    ·rw[H]at j;cases j
    ·rw[H]at j;cases j
    ·rw[H]at j;cases j
    ·cases J
    ·cases J
    ·obtain⟨β,X,A⟩:=Z
     obtain⟨F,u,E,W,h4⟩:=lY (c:=c) A C;have Y:a9 q (fun k=>k<w.heap.size) F (l.map (D.rowOf s.fs.blk s.fs.b_)):=by
      refine⟨by simpa using E,fun i z mU=>?_⟩
      rw[amg];have R:i<l.length:=by rw[←E];exact z
      exact GR A (al9.1 g _ (al2 R)) (W i z R)
     have BO:Q.defers=[]∧∃v,(results fn Q.tmps).run P q=.ok v q∧(∃M,Ending.returned v=.returned M∧cU q (fun k=>k<w.heap.size) M (re (l.map (D.rowOf s.fs.blk s.fs.b_)))∧Below w.heap.size w q∧Good q):=
      ⟨A.defers,tQ F,u,tQ F,rfl,yF Y,A.below.uJ,A.l7 O N⟩
     rcases U with rfl|rfl<;>exact BO
   split at h
   ·rename_i s tr' L y
    split at h
    ·rename_i l C
     split at h
     ·rename_i g
      simp only[Option.some.injEq,Prod.mk.injEq]at h;obtain⟨u,rfl,rfl⟩:=h;exact key _ _ y (.inl rfl) ⟨l,C,g,u⟩
     ·cases h
    ·cases h
   ·rename_i s tr' L y
    split at h
    ·rename_i l C
     split at h
     ·rename_i g
      simp only[Option.some.injEq,Prod.mk.injEq]at h;obtain⟨u,rfl,rfl⟩:=h;exact key _ _ y (.inr rfl) ⟨l,C,g,u⟩
     ·cases h
    ·cases h
   ·cases h
  ·cases h
 ·cases h
theorem iz.ae(e:aa Good){f:FuncId}{fn:Func}(d:P.funcs[f]? =some fn){ro:List Nat}{m:Nat}{args:List D}{r:D}(b:List (Item P Good))
  (h:Qc P ro m fn args b=some (r,[],said b):=by kernel_rfl):iz P Good f args r:=iz.Bp e d b [] (nZ b) h
end Lw
namespace Lw
open Go Go.RowKit Go.Proofs
variable {P:Program} {G:World→Prop}
theorem uN{c:Ctx}{s:St}{n m gb:Nat}{l:List (Nat×D)}{bl:List (Nat×List D)}{ns:List Nat}{e:o_}{k:Code}{Q:Exit→Act→World→Prop}{a:Act}{W:World}(g:s.tmps.length=n)(u:ak P G gb k s e (lay n l bl ns))
  (w:c.P=P) (y:c.Good=G) (x:c.Good c.w0) (f:c.gb≤gb) (r:Rel c n s.fs a W) (v:∀b d,Rel c n (lay n l bl ns).fs b d→Q e.Cw b d):k.wpIn (Fw c.rd) m P Q a W:=by
 obtain⟨s1,z,B,A,p,q,t⟩:=u;refine PM (n:=0) rfl (p.2 c Q a W w y x f (by rw[g];exact r) fun b d o=>?_)
 rw[g]at o;have h:=o.mask f q;rw[t]at h;exact v b d h
theorem iI.oQ{W d:World}{row:Option Nat}(b:W.grownBy d row)(f:∀r,row=some r→∃o:Obj,W.heap[r]? =some o∧o.isCells=false):iI W d:=
 ⟨b.size,fun k l e m a=>by
  rw[b.block k (amE.1 a).1 (fun h=>by obtain⟨o,c,g⟩:=f k h.symm;rw[a]at c;cases c;cases g)];exact a⟩
theorem Below.oQ{B:Nat}{W b:World}{row:Option Nat}(a:W.grownBy b row)(f:B≤W.heap.size)(c:∀r,row=some r→B≤r):Below B W b:=
 ⟨a.os,a.tape,a.output,a.size,fun k d=>a.block k (ami d f) (fun e=>by have:=c k e.symm;omega)⟩
theorem Bh(W:World)(l:Nat)(a:Obj):W.grownBy (W.putObj l a) (some l):=grownBy_putObj' W l a
theorem dk.ZY{c:Ctx}{n:Nat}{s:FSt}{a:Act}{w w':World}{β:Nat→Nat}{X:Nat→Prop}(h:dk c n s a w β X)(b:c.nc=fun _=>none)(e:iI w w')(g:Below c.w0.heap.size w w')(f:∀k,c.kp k=none:=by intro k;rfl):dk c n s a w' β X:=
 h.lD e ⟨h.below.uJ.trans g,fun k o d=>(by rw[b]at d;cases d),alJ h.below.sz e.size⟩ f
theorem yL{n:Nat}{l:List (Nat×D)}{bl:List (Nat×List D)}{ns:List Nat}{Q:Nat→D→Prop}(a:∀t,Q t .any)(d:∀p∈l,Q p.1 p.2):∀t,Q t ((lay n l bl ns).fs.tmp t):=by
 intro t;rw[dN];split
 ·cases b:l.find? fun p=>p.1==t with
  |none=>exact a t
  |some p=>
   have c:p.1=t:=by have:=aon b;simpa using this
   have:=d p (anN b);rw[c]at this;exact this
 ·exact a t
theorem Rel.Gf{r:Option Nat}{n:Nat}{l:List (Nat×D)}{a:Act}{w:World}(g:a.tmps.size=n)(m:a.defers=[])(h:∀p∈l,cU w (fun _=>False) (a.tmps.getD p.1 undef) p.2):Rel (cx P G r w) n (lay n l []).fs a w:=
 ⟨fun _=>0,fun _=>False,m,g,yL (Q:=fun t d=>cW (fun _=>0) w (fun _=>False) (a.tmps.getD t undef) d) (fun t=>.c (.p (.any _))) (fun p e=>.c (.p (h p e))),
  fun t=>yL (Q:=fun t d=>∀b,b∈d.refs→((lay n l []).fs.blk b).isSome=true) (fun t b c=>by simp[D.refs]at c) (fun p e b c=>by rw[ff (h p e)]at c;cases c) t,
  (fun b cs c=>by rw[oW]at c;cases c),(fun b cs c=>by rw[oW]at c;cases c),(fun b o c=>by rw[oW]at c;cases c),fun k f=>f.elim,fun k f=>f.elim,fun k f=>f.elim,
  ⟨Below.refl _ _,fun _ _ f=>(by cases f),amd _⟩,(fun p e=>by cases e),(fun p e=>by cases e),n9.none rfl rfl⟩
def cq(P:Program)(G:World→Prop)(w:World)(c:List (Value×D))(gb:Nat)(rd:Option Nat)(a:List Deferred)(b:Nat→Option Obj)(ns:Nat):Ctx:=⟨P,G,fun _=>False,w,c,gb,rd,a,b,ns,fun _=>none,fun _=>False⟩
theorem ad1{β:Nat→Nat}{w:World}{X:Nat→Prop}{v:Value}{f:FuncId}{d:D}(h:cW β w X v (.fn f [] [d])):∃u,v=.func (.func f) #[] #[u]∧cU w X u d:=by
 cases h with
 |c h=>cases h with
  |p h=>cases h with
   |fn f us e xs l b g k a=>
    have:us=[]:=List.length_eq_zero_iff.1 b;subst this
    match e,g,a with
    |[u],_,a=>exact⟨u,rfl,a 0 (by simp) (by simp)⟩
theorem YE{β:Nat→Nat}{w:World}{X:Nat→Prop}{v:Value}{b off:Nat}(h:cW β w X v (.ptr b off)):v=.pointer (some ⟨β b,off,none⟩):=by
 cases h with
 |c h=>cases h with
  |p h=>cases h
  |ptr=>rfl
namespace Gr
variable {nm:D} {N:Nat} {bs rest:List D} {an:Nat→Int} {jn:Nat→Nat→Int}
def zG:List D:=[nat 0,.row 0 false [],.row 0 false [],nat 0]
def pr0(fin:D):List (Nat×D):=[(1,.aV [fin]),(2,.ptr 0 0),(3,.ptr 1 0)]
def pr1(fin:D):List (Nat×D):=[(1,.aV [fin]),(2,.ptr 0 0),(3,.ptr 1 0),(10,.fn 322 [] [.aV [fin]])]
def UK:List (Nat×List D):=[(0,zG),(1,[bool false])]
theorem akv(a:aa G):ak zZq G 0 (kL (bV f239)) (fN 42 [jv nm N bs rest] []) .normal (lay 42 (pr0 (jv nm N bs rest)) UK):=
 ak.ae a (ro:=[1]) (m:=60) rfl []
theorem aku(a:aa G):ak zZq G 0 (kL (kL (kR (bV f239)))) (lay 42 (pr0 (jv nm N bs rest)) UK) .normal (lay 42 (pr1 (jv nm N bs rest)) UK):=
 ak.r a [.inl [1] func294]
def prS(i j:Nat)(c b a:Value):List (Nat×D):=[(1,.lit c),(2,.lit b),(3,.lit a),(11,nat i),(12,nat j)]
def prT(i:Nat)(c b a:Value):List (Nat×D):=[(1,.lit c),(2,.lit b),(3,.lit a),(4,nat i),(5,.ptr 0 0)]
def prA(i j:Nat)(fin:D):List (Nat×D):=[(1,.aV [fin]),(2,.ptr 0 0),(3,.ptr 1 0),(4,nat i),(5,.aV [nat j])]
def prH(i j:Nat)(a b c:Int):List (Nat×List D):=[(0,[nat 1,.bz 2 0 2 2,.bz 3 0 3 3,nat 0]),(1,[bool true]),(2,[nat i,nat j]),(3,[int a,int b,int c])]
theorem aiM:kR (bV f239)=.seq (.seq (kL (kL (kR (bV f239)))) (.block 0 (.rangeFunc (.tmp 10) #[11,12] (kL (kL (kR (kL (kR (bV f239)))))) (kR (kL (kR (kL (kR (bV f239))))))))) (kR (kR (bV f239))):=by kernel_rfl
def aiP(K:Code):Code:=kL (kL (kR (kL (kR K))))
def agj(K:Code):Code:=kR (kL (kR (kL (kR K))))
theorem aiO(d:aa G){i j:Nat}{c b a:Value}:ak zZq G 0 (aiP (bV f239)) (lay 42 (prS i j c b a) []) .normal (lay 42 (prT i c b a) [(0,[nat j])]):=
 ak.r d []
def prX(i j:Nat)(fin:D):List (Nat×D):=[(1,.aV [fin]),(4,nat i),(5,.aV [nat j])]
def L4(an:Nat→Int)(jn:Nat→Nat→Int)(x:Nat×Nat):Bool:=decide (an x.1≥0)&&decide (an x.2≥0)&&decide (jn x.1 x.2≥0)
section
variable {i j:Nat} (ci:Spec zZq G 293 [jv nm N bs rest,nat 0,nat i] (int (an i))) (cj:Spec zZq G 293 [jv nm N bs rest,nat 0,nat j] (int (an j)))
 (cc:Spec zZq G 295 [jv nm N bs rest,nat 0,nat i,.fn 296 [] [.aV [nat j]]] (int (jn i j)))
include ci cj cc
theorem aiN(b:aa G)(h:L4 an jn (i,j)=false):ak zZq G 0 (agj (bV f239)) (lay 42 (prX i j (jv nm N bs rest)) []) .normal (lay 42 [] []):=by
 cases a:decide (an i≥0)with
 |false=>exact ak.r b [.call ci,.call cj,.call cc,.eb 24 a]
 |true=>
  cases c:decide (an j≥0)with
  |false=>exact ak.r b [.call ci,.call cj,.call cc,.eb 24 a,.eb 27 c]
  |true=>
   cases d:decide (jn i j≥0)with
   |false=>exact ak.r b [.call ci,.call cj,.call cc,.eb 24 a,.eb 27 c,.eb 31 d]
   |true=>exfalso;unfold L4 at h;simp only[a,c,d]at h;cases h
theorem age(a:aa G)(h:L4 an jn (i,j)=true):ak zZq G 2 (agj (bV f239)) (lay 42 (prA i j (jv nm N bs rest)) UK) .ret
  (lay 42 [] (prH i j (an i) (an j) (jn i j)) [0]):=by
 unfold L4 at h;rw[Bool.and_eq_true,Bool.and_eq_true]at h;exact ak.ae a (ro:=[35,39]) (m:=60) (ar ..) [.call ci,.call cj,.call cc,.eb 24 h.1.1,.eb 27 h.1.2,.eb 31 h.2]
end
theorem Qw(a:aa G):ak zZq G 0 (kR (kR (bV f239))) (lay 42 (pr1 (jv nm N bs rest)) UK) .ret (lay 42 [(2,.ptr 0 0),(3,.ptr 1 0)] UK):=
 ak.r a []
end Gr
end Lw
namespace Lw
open Go Go.RowKit Go.Proofs
theorem dk.z9{c:Ctx}{n:Nat}{s:FSt}{a:Act}{w:World}{β:Nat→Nat}{X:Nat→Prop}(h:dk c n s a w β X){t:Nat}{v:Value}(e:s.tmp t=.lit v):a.tmps.getD t undef=v:=by
 have b:=h.tmp t;rw[e]at b;exact sA (b.pure rfl) (v:=v) rfl
namespace Gr
variable {G:World→Prop} {nm:D} {N:Nat} {bs rest:List D} {an:Nat→Int} {jn:Nat→Nat→Int}
def mk(D:Nat):Deferred:={target:=.collected D,args:= #[]}
def afl:D:=.aY [.agg [nat 0,.row 0 false [],.row 0 false [],nat 0],bool false]
def xV(an:Nat→Int)(jn:Nat→Nat→Int)(i j:Nat):D:=.aY [.agg [nat 1,.row 2 false [nat i,nat j],.row 3 false [int (an i),int (an j),int (jn i j)],nat 0],bool true]
theorem MS{w W:World}{tmps:Array Value}{β:Nat→Nat}{X:Nat→Prop}{a:Nat}{bl:List (Nat×List D)}{ns:List Nat}{ds:List D}{r:D}{m:Nat}(t:aa G)(hw:G w)
  (h:dk (cq zZq G w [] 0 none [mk a] (fun _=>none) 0) 42 (lay 42 [(2,.ptr 0 0),(3,.ptr 1 0)] bl ns).fs ⟨tmps,[mk a]⟩ W β X) (l:W.heap[a]? =some (.deferred (some []))) (f:w.heap.size≤a)
  (z:gY zZq (lay 42 [(2,.ptr 0 0),(3,.ptr 1 0)] bl ns) (f239).results.toList=some ds)
  (d:ds.all (K8 (lay 42 [(2,.ptr 0 0),(3,.ptr 1 0)] bl ns).fs.blk (lay 42 [(2,.ptr 0 0),(3,.ptr 1 0)] bl ns).fs.b_)=true)
  (p:re (ds.map (D.rowOf (lay 42 [(2,.ptr 0 0),(3,.ptr 1 0)] bl ns).fs.blk (lay 42 [(2,.ptr 0 0),(3,.ptr 1 0)] bl ns).fs.b_))=r):
  LeavesInM Fence.wide m zZq f239 tmps (fun e w'=>∃v,e=.returned v∧cU w' (fun k=>k<w.heap.size) v r∧Below w.heap.size w w'∧G w') [mk a] .returning W:=by
 refine⟨(by simp),.inl ⟨a,W.putObj a (.deferred none),rfl,run_takeDeferred l,?_⟩⟩
 have j:=Bh W a (.deferred none);have q:iI W (W.putObj a (.deferred none)):=iI.oQ j (fun r e=>by cases e;exact⟨_,l,rfl⟩)
 have s:Below w.heap.size W (W.putObj a (.deferred none)):=Below.oQ j h.below.uJ.size (fun r e=>by cases e;exact f)
 have b:=h.ZY rfl q s;obtain⟨c,x,n,u,B⟩:=lY b z;have y:a9 (W.putObj a (.deferred none)) (fun k=>k<w.heap.size) c (ds.map (D.rowOf (lay 42 [(2,.ptr 0 0),(3,.ptr 1 0)] bl ns).fs.blk (lay 42 [(2,.ptr 0 0),(3,.ptr 1 0)] bl ns).fs.b_)):=by
  refine⟨by simpa using n,fun i g A=>?_⟩
  rw[amg];have o:i<ds.length:=by rw[←n];exact g
  exact GR b (al9.1 d _ (al2 o)) (u i g o)
 refine⟨tQ c,x,tQ c,rfl,?_,b.below.uJ,t _ _ b.below.uJ hw⟩;have:=yF y
 rwa [p]at this
def Left(G:World→Prop)(w:World)(e d:Value)(i j:Nat)(a b c:Int)(W:World):Prop:=
 ∃β X,dk (cq zZq G w [(e,.ptr 0 0),(d,.ptr 1 0)] 2 none [] (fun _=>none) 0) 0 ⟨fun _=>.any,(lay 42 [] (prH i j a b c) [0]).fs.blk,(lay 42 [] (prH i j a b c) [0]).fs.b_⟩ ⟨#[],[]⟩ W β X
theorem Left.lD{w W d:World}{f e:Value}{i j:Nat}{a b c:Int}(h:Left G w f e i j a b c W)(g:iI W d)(k:Below w.heap.size W d):Left G w f e i j a b c d:=by
 obtain⟨β,X,h⟩:=h;exact⟨β,X,h.ZY rfl g k⟩
def Set(B:Nat)(e d c:Value)(i j:Nat)(a:Act)(W:World):Prop:=
 a.tmps.size=42∧a.defers=[]∧a.tmps.getD 1 undef=e∧a.tmps.getD 2 undef=d∧a.tmps.getD 3 undef=c∧a.tmps.getD 4 undef=.int .i64 (zNq i)∧
  ∃b,B≤b∧a.tmps.getD 5 undef=.pointer (some ⟨b,0,none⟩)∧W.cell? ⟨b,0,none⟩=some (.int .i64 (zNq j))
theorem Set.lD{B:Nat}{e d c:Value}{i j:Nat}{a:Act}{W f:World}(h:Set B e d c i j a W)(g:iI W f):Set B e d c i j a f:=by
 obtain⟨s,r,q,p,o,n,b,m,l,k⟩:=h;exact⟨s,r,q,p,o,n,b,m,l,g.cell k⟩
theorem Set.box{B:Nat}{f e d:Value}{i j:Nat}{a:Act}{W:World}(h:Set B f e d i j a W){X:Nat→Prop}(l:∀k,X k→k<B):cU W X (a.tmps.getD 5 undef) (.aV [nat j]):=by
 obtain⟨u,t,s,r,q,p,b,o,n,m⟩:=h;rw[n];refine .aV ⟨b,0,none⟩ [.int .i64 (zNq j)] [nat j] rfl (fun k c=>?_) (fun k c v=>?_)
 ·obtain rfl:k=0:=by simpa using c
  exact⟨fun g=>by have:=l _ g;simp only at this;omega,by rw[Addr.jr];exact m⟩
 ·obtain rfl:k=0:=by simpa using c
  exact .lit _
theorem agh:(bV f239)=.seq (kL (bV f239)) (kR (bV f239)):=by kernel_rfl
theorem wS{B:Nat}{W c:World}(b:Below W.heap.size W c):KeepsFrom B W c:=⟨b.size,fun k o _ a _=>by rw[b.block k (amE.1 a).1];exact a⟩
theorem Ai{free:Nat→Bool}(P:aa G)(hN:N<100)(cf:∀i,i<N→Spec zZq G 297 [jv nm N bs rest,nat i] (bool (free i)))
  (ca:∀i,i<N→free i=true→Spec zZq G 293 [jv nm N bs rest,nat 0,nat i] (int (an i)))
  (cj:∀i j,i<j→j<N→free i=true→free j=true→Spec zZq G 295 [jv nm N bs rest,nat 0,nat i,.fn 296 [] [.aV [nat j]]] (int (jn i j)))
  {res:D} (hd:(∀x∈Lp N free N 0,L4 an jn x=false)→res=afl)
  (hs:∀i j,i<j→j<N→free i=true→free j=true→L4 an jn (i,j)=true→(∀x∈Lp N free i j,L4 an jn x=false)→res=xV an jn i j):
  iz zZq G 239 [jv nm N bs rest] res:=by
 intro w vals V dU;obtain⟨fv,rfl⟩:∃fv,vals=[fv]:=ams.1 dU.1;refine(callsIn_wide (n:=3)).1 (callsIn_of_wp_marks (fn:=f239) (c:=bV f239) (by kernel_rfl) (by kernel_rfl) trivial ?_)
 have aaa:Rel (cx zZq G none w) 42 (fN 42 [jv nm N bs rest] []).fs {tmps:=[fv].toArray++Array.replicate (42-[fv].toArray.size) undef,defers:=[]} w:=Rel.start (by simp) dU
 refine oJ agh (uN (c:=cx zZq G none w) (pD (by simp)) (akv P) rfl rfl V (alE _) aaa fun a1 W1 hr1=>?_)
 show Code.wpIn Fence.wide 3 zZq _ _ a1 W1;refine oJ aiM (oJ rfl (uN (c:=cx zZq G none w) (ar ..) (aku P) rfl rfl V (alE _) hr1 fun s B hrE=>?_))
 show Code.wpIn Fence.wide 3 zZq _ _ s B;refine yf rfl ?_;obtain⟨β,X,hE⟩:=hrE;have hdf:s.defers=[]:=hE.defers;have D4:s.tmps.size=42:=hE.size;have bE:Below w.heap.size w B:=hE.below.uJ;have gE:G B:=P _ _ bE V;obtain⟨p1,Vn⟩:∃p,p=s.tmps.getD 1 undef:=⟨_,rfl⟩;obtain⟨S,Z⟩:∃p,p=s.tmps.getD 2 undef:=⟨_,rfl⟩;obtain⟨R,Y⟩:∃p,p=s.tmps.getD 3 undef:=⟨_,rfl⟩;have t1:cW β B X p1 (.aV [jv nm N bs rest]):=by have:=hE.tmp 1;rw[dN]at this;rw[Vn];exact this
 have t2:cW β B X S (.ptr 0 0):=by have:=hE.tmp 2;rw[dN]at this;rw[Z];exact this
 have t3:cW β B X R (.ptr 1 0):=by have:=hE.tmp 3;rw[dN]at this;rw[Y];exact this
 have t10:cW β B X (s.tmps.getD 10 undef) (.fn 322 [] [.aV [jv nm N bs rest]]):=by have:=hE.tmp 10;rw[dN]at this;exact this
 obtain⟨cv,hev,akU⟩:=ad1 t10;have hcv:cU B (fun _=>False) cv (.aV [jv nm N bs rest]):=akU.mono fun a u h _=>⟨h,fun h=>h⟩
 have tE:cU B X p1 (.aV [jv nm N bs rest]):=t1.pure rfl;have own:∀W,iI B W→Below B.heap.size B W→dk (cx zZq G none w) 42 (lay 42 (pr1 (jv nm N bs rest)) UK).fs s W β X:=fun W C m=>hE.ZY rfl C (m.mono bE.size)
 have sh0:∀{W:World},iI B W→Dx B W:=fun C=>C.FI
 refine wpIn_rangeFunc_ownH (F:=Fence.wide) (n:=3) (α:=Pr N free) (encs:=fun x=>Lg x.1) (Kp:=Kp B.heap.size) rfl (by omega) (gf:=322) (lb:= #[cv]) hev trivial
  (enters_of func322 (by kernel_rfl) rfl) (UP (nm:=nm) (bs:=bs) (rest:=rest) P hN hcv gE cf) (fun h k=>⟨h.1.trans k.1,h.2.trans k.2⟩)
  (fun W l o o' hl ho hc hw=>⟨iI.oQ (Bh W l o') (fun r e=>by cases e;exact⟨o,ho,hc⟩),belowK_b (alE _) W l o o' hl ho hc hw⟩) (Below.refl _ _) (fun x=>rfl)
  (fun pre W=>(∀x∈pre,L4 an jn x.1=false)∧Kp B.heap.size B W)
  (fun c pre W=>c=.ret∧∃(y:Pr N free)(ys:List (Pr N free)),pre=ys++[y]∧L4 an jn y.1=true∧(∀x∈ys,L4 an jn x.1=false)∧Left G w S R y.1.1 y.1.2 (an y.1.1) (an y.1.2) (jn y.1.1 y.1.2) W)
  ?_ ?_ ⟨fun x E=>(by cases E),⟨⟨alE _,fun _ _ _ _ h=>h⟩,Below.refl _ _⟩⟩
  (fun x U W=>Set B.heap.size p1 S R x.1.1 x.1.2 U W) ?_ ?_ ?_ ?_ ?_
 ·rintro pre W W' row ⟨h1,h2,h3⟩ hg hr
  exact⟨h1,h2.trans (iI.oQ hg fun r e=>(hr r e).2),h3.trans (Below.oQ hg h3.size fun r e=>(hr r e).1)⟩
 ·rintro c pre W W' row ⟨h1,y,ys,h2,h3,h4,h5⟩ hg hr
  have hb5:w.heap.size≤W.heap.size:=by obtain⟨_,_,h⟩:=h5;exact h.below.uJ.size
  exact⟨h1,y,ys,h2,h3,h4,h5.lD (iI.oQ hg fun r e=>(hr r e).2) (Below.oQ hg hb5 fun r e=>alJ bE.size (hr r e).1)⟩
 ·intro x U u W W' row h hg hr
  exact Set.lD h (iI.oQ hg fun r e=>(hr r e).2)
 ·rintro l pre ⟨⟨i,j⟩,oZ,A,fi,fj⟩ W K ⟨M,H,O⟩ hK
  have ea:({tmps:=((#[11,12]:Array Tmp).zip (Lg (i,j))).foldl (fun t (p,v)=>t.setIfInBounds p v) s.tmps,defers:=[]}:Act)=(s.put (some 11) (.int .i64 (zNq i))).put (some 12) (.int .i64 (zNq j)):=by
   rw[←hdf];simp[Lg,Act.put]
  have gW:G W:=P _ _ (bE.trans (O.mono bE.size)) V;have pn:Rel (cx zZq G (some l) W) 42 (lay 42 (prS i j p1 S R) []).fs ((s.put (some 11) (.int .i64 (zNq i))).put (some 12) (.int .i64 (zNq j))) W:=by
   refine Rel.Gf (by simp[Act.put,D4]) (by simp[Act.put,hdf]) fun p g=>?_
   simp only[prS,List.mem_cons,List.not_mem_nil,or_false]at g;rcases g with rfl|rfl|rfl|rfl|rfl
   ·rw[j6 (by omega),j6 (by omega),Vn];exact .lit _
   ·rw[j6 (by omega),j6 (by omega),Z];exact .lit _
   ·rw[j6 (by omega),j6 (by omega),Y];exact .lit _
   ·rw[j6 (by omega),um (by rw[D4];omega)];exact .lit _
   ·rw[um (by simp[Act.put,D4])];exact .lit _
  show Code.wpIn (Fw (some l)) 1 zZq (aiP (bV f239)) _ {tmps:=((#[11,12]:Array Tmp).zip (Lg (i,j))).foldl (fun t (p,v)=>t.setIfInBounds p v) s.tmps,defers:=[]} W
  rw[ea];refine uN (c:=cx zZq G (some l) W) (ar ..) (aiO P) rfl rfl gW (alE _) pn fun U W' uH=>?_
  show K U W';obtain⟨β',X',f⟩:=uH;have adQ:∀t v,(lay 42 (prT i p1 S R) [(0,[nat j])]).fs.tmp t=.lit v→U.tmps.getD t undef=v:=fun t v e=>f.z9 e
  have m:Below W.heap.size W W':=f.below.uJ;have hp5:=f.tmp 5;rw[dN]at hp5;have akI:=YE hp5;obtain⟨k1,k2,us,e,k3,k4,k5⟩:=f.blk 0 [nat j] (by rw[vX];rfl)
  have hus:0<us.size:=k4;have mV:W'.cell? ⟨β' 0,0,none⟩=some (.int .i64 (zNq j)):=by
   have q:=k5.2 0 (by simp;omega) (by simp)
   have q2:us[0]=.int .i64 (zNq j):=by
    have:=(q.pure rfl);have:=sA this (v:=.int .i64 (zNq j)) rfl;simpa using this
   rw[cell_of_row W' (β' 0) 0 us e (0,0) k3,amG hus,q2]
  refine hK U W' (wS m) ⟨iI.xD m,m.mono O.size⟩ ⟨M,H.trans (iI.xD m),O.trans (m.mono O.size)⟩
   ⟨f.size,f.defers,adQ 1 _ (by rw[dN];rfl),adQ 2 _ (by rw[dN];rfl),adQ 3 _ (by rw[dN];rfl),adQ 4 _ (by rw[dN];rfl),β' 0,alJ O.size k1,akI,mV⟩
 ·rintro l pre ⟨⟨i,j⟩,oZ,A,fi,fj⟩ U W hl alz ⟨M,H,O⟩ ahk hlen
  have hiN:i<N:=apy oZ A;have gW:G W:=P _ _ (bE.trans (O.mono bE.size)) V;have hA:=ahk;obtain⟨q1,q2,q3,q4,q5,q6,-⟩:=hA;have r1:cU W X p1 (.aV [jv nm N bs rest]):=tE.mono fun a u h E=>⟨H.cell h,E⟩
  show Code.wpIn (Fw (some l)) 1 zZq (agj (bV f239)) _ U W;cases hh:L4 an jn (i,j)with
  |false=>
   have pn:Rel (cx zZq G (some l) W) 42 (lay 42 (prX i j (jv nm N bs rest)) []).fs U W:=by
    refine Rel.Gf q1 q2 fun p g=>?_
    simp only[prX,List.mem_cons,List.not_mem_nil,or_false]at g;rcases g with rfl|rfl|rfl
    ·rw[q3];exact r1.mono fun a u h _=>⟨h,fun h=>h⟩
    ·rw[q6];exact .lit _
    ·exact ahk.box fun k C=>C.elim
   refine uN (c:=cx zZq G (some l) W) (ar ..) (aiN (ca i hiN fi) (ca j A fj) (cj i j oZ A fi fj) P hh) rfl rfl gW (alE _) pn fun a3 W3 T=>?_
   obtain⟨β',X',f⟩:=T;have m:Below W.heap.size W W3:=f.below.uJ;refine⟨wS m,⟨iI.xD m,m.mono O.size⟩,fun x E=>?_,H.trans (iI.xD m),O.trans (m.mono O.size)⟩
   rcases amy.1 E with E|E
   ·exact M x E
   ·rw[alI]at E;rw[E];exact hh
  |true=>
   have z:=own W H O;have s2:cW β W X S (.ptr 0 0):=by have:=z.tmp 2;rw[dN]at this;rw[Z];exact this
   have s3:cW β W X R (.ptr 1 0):=by have:=z.tmp 3;rw[dN]at this;rw[Y];exact this
   have hXB:∀k,X k→k<B.heap.size:=hE.oE;have pn:dk (cq zZq G w [(S,.ptr 0 0),(R,.ptr 1 0)] 2 (some l) [] (fun k=>W.heap[k]?) W.heap.size) 42 (lay 42 (prA i j (jv nm N bs rest)) UK).fs U W β X:=by
    have b0:((lay 42 (prA i j (jv nm N bs rest)) UK).fs.blk 0).isSome=true:=by rw[vX];rfl
    have b1:((lay 42 (prA i j (jv nm N bs rest)) UK).fs.blk 1).isSome=true:=by rw[vX];rfl
    refine⟨q2,q1,yL (Q:=fun t d=>cW β W X (U.tmps.getD t undef) d) (fun t=>.c (.p (.any _))) (fun p g=>?_),
     fun t=>yL (Q:=fun t d=>∀b,b∈d.refs→((lay 42 (prA i j (jv nm N bs rest)) UK).fs.blk b).isSome=true) (fun t b m=>by simp[D.refs]at m) (fun p g b m=>?_) t,
     z.blk,z.tB,z.inj,z.F,z.vt,z.oE,⟨z.below.uJ,fun k o C _=>C,alE _⟩,fun p g=>?_,fun p g b m=>?_,n9.none rfl rfl⟩
    ·simp only[prA,List.mem_cons,List.not_mem_nil,or_false]at g
     rcases g with rfl|rfl|rfl|rfl|rfl
     ·rw[q3];exact .c (.p r1)
     ·rw[q4];exact s2
     ·rw[q5];exact s3
     ·rw[q6];exact .c (.p (.lit _))
     ·exact .c (.p (ahk.box hXB))
    ·simp only[prA,List.mem_cons,List.not_mem_nil,or_false]at g
     rcases g with rfl|rfl|rfl|rfl|rfl<;>simp only[D.refs,nat,List.not_mem_nil,List.mem_singleton]at m
     ·subst m;exact b0
     ·subst m;exact b1
    ·have Ia:p∈[(S,D.ptr 0 0),(R,D.ptr 1 0)]:=g
     simp only[List.mem_cons,List.not_mem_nil,or_false]at Ia;rcases Ia with rfl|rfl
     ·exact s2
     ·exact s3
    ·have Ia:p∈[(S,D.ptr 0 0),(R,D.ptr 1 0)]:=g
     simp only[List.mem_cons,List.not_mem_nil,or_false]at Ia;rcases Ia with rfl|rfl<;>simp only[D.refs,List.mem_singleton]at m<;>subst m
     ·exact⟨by show 0<2;omega,b0⟩
     ·exact⟨by show 1<2;omega,b1⟩
   refine uN (c:=cq zZq G w [(S,.ptr 0 0),(R,.ptr 1 0)] 2 (some l) [] (fun k=>W.heap[k]?) W.heap.size) (ar ..) (age (ca i hiN fi) (ca j A fj) (cj i j oZ A fi fj) P hh) rfl rfl V (alE _) ⟨β,X,pn⟩ fun a3 W3 T=>?_
   obtain⟨β',X',f⟩:=T;refine⟨⟨f.below.sz,fun k o _ C ho=>f.below.nc k o C (fun us e fr e'=>by rw[e']at ho;cases ho)⟩,rfl,⟨(i,j),oZ,A,fi,fj⟩,pre,rfl,hh,M,β',X',?_⟩
   exact⟨rfl,rfl,fun t=>.c (.p (.any _)),fun t b m=>(by simp[D.refs]at m),f.blk,f.tB,f.inj,f.F,f.vt,f.oE,⟨f.below.uJ,fun _ _ C=>(by cases C),amd _⟩,f.gh,f.iY,n9.none rfl rfl⟩
 ·rintro L xs W hD hS ⟨M,H,O⟩ Rq
  have z:=own W H O;show Code.wpIn Fence.wide 3 zZq (kR (kR (bV f239))) _ {s with defers:=mk L::s.defers} W
  have pn:dk (cq zZq G w [] 0 none [mk L] (fun k=>W.heap[k]?) 0) 42 (lay 42 (pr1 (jv nm N bs rest)) UK).fs {s with defers:=mk L::s.defers} W β X:=
   ⟨by show mk L::s.defers=[mk L];rw[hdf],z.size,z.tmp,z.nd,z.blk,z.tB,z.inj,z.F,z.vt,z.oE,⟨z.below.uJ,fun _ _ C _=>C,amd _⟩,(fun p g=>by cases g),(fun p g=>by cases g),n9.none rfl rfl⟩
  refine uN (c:=cq zZq G w [] 0 none [mk L] (fun k=>W.heap[k]?) 0) (ar ..) (Qw P) rfl rfl V (alE _) ⟨β,X,pn⟩ fun a3 W3 T=>?_
  obtain⟨β',X',f⟩:=T;have akT:a3.defers=[mk L]:=f.defers;have Xi:∀x∈Lp N free N 0,L4 an jn x=false:=fun x E=>by
   rw[←hS]at E;obtain⟨y,hy,rfl⟩:=ama.1 E;exact M y hy
  show LeavesInM Fence.wide 3 zZq f239 a3.tmps _ a3.defers .returning W3;rw[akT,hd Xi];have h3:dk (cq zZq G w [] 0 none [mk L] (fun _=>none) 0) 42 (lay 42 [(2,.ptr 0 0),(3,.ptr 1 0)] UK).fs ⟨a3.tmps,[mk L]⟩ W3 β' X':=
   ⟨rfl,f.size,f.tmp,f.nd,f.blk,f.tB,f.inj,f.F,f.vt,f.oE,⟨f.below.uJ,fun _ _ C=>(by cases C),amd _⟩,(fun p g=>by cases g),(fun p g=>by cases g),n9.none rfl rfl⟩
  exact MS P V h3 (f.below.nc L _ Rq (fun us e fr h=>by cases h)) (alJ bE.size hD) (ds:=[.agg zG,bool false]) (by kernel_rfl) (by kernel_rfl) (by kernel_rfl)
 ·rintro L c pre W hD ⟨i,j,oZ,A,fi,fj,Et⟩ ⟨rfl,⟨⟨J,I⟩,hy⟩,ys,rfl,hh,Xi,βL,XL,hL⟩ Rq
  rw[an_]at Et;obtain⟨e1,e2⟩:=List.append_inj' Et rfl;simp only[List.map_cons,List.map_nil,List.cons.injEq,Prod.mk.injEq,and_true]at e2;obtain⟨rfl,rfl⟩:=e2;have akL:∀x∈Lp N free J I,L4 an jn x=false:=fun x E=>by
   rw[←e1]at E;obtain⟨y,hy,rfl⟩:=ama.1 E;exact Xi y hy
  refine wpIn_ret ?_;show LeavesInM Fence.wide 3 zZq f239 s.tmps _ (mk L::s.defers) .returning W;rw[hdf,hs J I oZ A fi fj hh akL];have b0:((lay 42 [(2,.ptr 0 0),(3,.ptr 1 0)] (prH J I (an J) (an I) (jn J I)) [0]).fs.blk 0).isSome=true:=by rw[vX];rfl
  have b1:((lay 42 [(2,.ptr 0 0),(3,.ptr 1 0)] (prH J I (an J) (an I) (jn J I)) [0]).fs.blk 1).isSome=true:=by rw[vX];rfl
  have h3:dk (cq zZq G w [] 0 none [mk L] (fun _=>none) 0) 42 (lay 42 [(2,.ptr 0 0),(3,.ptr 1 0)] (prH J I (an J) (an I) (jn J I)) [0]).fs ⟨s.tmps,[mk L]⟩ W βL XL:=by
   refine⟨rfl,D4,yL (Q:=fun t d=>cW βL W XL (s.tmps.getD t undef) d) (fun t=>.c (.p (.any _))) (fun p g=>?_),
    fun t=>yL (Q:=fun t d=>∀b,b∈d.refs→((lay 42 [(2,.ptr 0 0),(3,.ptr 1 0)] (prH J I (an J) (an I) (jn J I)) [0]).fs.blk b).isSome=true) (fun t b m=>by simp[D.refs]at m) (fun p g b m=>?_) t,
    hL.blk,hL.tB,hL.inj,hL.F,hL.vt,hL.oE,⟨hL.below.uJ,fun _ _ C=>(by cases C),amd _⟩,(fun p g=>by cases g),(fun p g=>by cases g),n9.none rfl rfl⟩
   ·simp only[List.mem_cons,List.not_mem_nil,or_false]at g
    rcases g with rfl|rfl
    ·show cW βL W XL (s.tmps.getD 2 undef) (.ptr 0 0)
     rw[←Z];exact hL.gh (S,.ptr 0 0) (alW ..)
    ·show cW βL W XL (s.tmps.getD 3 undef) (.ptr 1 0)
     rw[←Y];exact hL.gh (R,.ptr 1 0) (al_ _ (alW ..))
   ·simp only[List.mem_cons,List.not_mem_nil,or_false]at g
    rcases g with rfl|rfl<;>simp only[D.refs,List.mem_singleton]at m<;>subst m
    ·exact b0
    ·exact b1
  exact MS P V h3 Rq (alJ bE.size hD) (ds:=[.agg [nat 1,.bz 2 0 2 2,.bz 3 0 3 3,nat 0],bool true]) (by kernel_rfl) (by kernel_rfl) (by kernel_rfl)
end Gr
end Lw
namespace Lw
open Go Go.RowKit Go.Proofs
namespace Tw
open fL
variable {G:World→Prop}
structure gO(l:Lk):Prop where
 b0:0<l.bs.length
 nb:l.bs.length<100
 nj:l.js.length≤1000000
 nd:l.ds.length≤1000000
 kind:∀j∈l.js,j.kind=0∨j.kind=1
 a:∀j∈l.js,j.a<l.bs.length
 b:∀j∈l.js,j.b<l.bs.length
 ab:∀j∈l.js,j.a≠j.b
 p:∀j∈l.js,j.p<(l.bs.getD j.a default).bC.length
 on:∀j∈l.js,j.on<(l.bs.getD j.b default).bC.length
 to:∀j∈l.js,j.kind=1→j.to<(l.bs.getD j.b default).bC.length
 ne:∀j∈l.js,j.kind=1→(dP l j.b j.on).x≠(dP l j.b j.to).x∨(dP l j.b j.on).y≠(dP l j.b j.to).y
 body:∀d∈l.ds,d.body<l.bs.length
 ajV:∀d∈l.ds,d.body≠0
theorem gO.QB{l:Lk}(h:gO l){j:Jt}(c:j∈l.js){b o:Nat}(a:sK j b=some o):o<l.bs.length:=by
 unfold sK at a;split at a
 ·cases a;exact h.b j c
 ·split at a
  ·cases a;exact h.a j c
  ·cases a
theorem eO{α:Type}(p:α→Bool)(l:List α):C2 p l= -1∨∃n,n<l.length∧C2 p l=zNq n:=by
 unfold C2;split
 ·rename_i h;exact .inr ⟨_,h,rfl⟩
 ·exact .inl rfl
def jV(l:Lk)(s:Fn)(d:Dr):Bool:= !s.known.getD d.body false&&decide (Ao l s 0 d.body .known≥0)
def rH(l:Lk)(s:Fn):Option Gp:=
 if l.ds.findIdx (jV l s)<l.ds.length then
  some ⟨0,[(l.ds.getD (l.ds.findIdx (jV l s)) default).body],[(Ao l s 0 (l.ds.getD (l.ds.findIdx (jV l s)) default).body .known).toNat],l.ds.findIdx (jV l s)⟩
 else none
def Br:List D:=[nat 0,.row 0 false [],.row 0 false [],nat 0]
def Ky:Option Gp→D
 |some g=>.aY [.agg (iV g),bool true]
 |none=>.aY [.agg Br,bool false]
structure pT(l:Lk)(s:Fn):Prop where
 k:s.known.length=l.bs.length
 d:s.mM.length=l.bs.length
 u:s.used.length=l.js.length
theorem kJ{α:Type}{p:α→Bool}{l:List α}(d:α)(h:l.findIdx p<l.length):p (l.getD (l.findIdx p) d)=true:=by
 have:=List.findIdx_getElem (w:=h);rw[alD,alK h];simpa using this
theorem pL{α:Type}{p:α→Bool}{l:List α}(d:α){i:Nat}(a:i<l.findIdx p):i<l.length∧p (l.getD i d)=false:=by
 have b:i<l.length:=ami a amV;refine⟨b,?_⟩;have:=List.not_of_lt_findIdx a;rw[alD,alK b];simpa using this
def drL(l:Lk)(s:Fn)(i:Nat):St:=lay 41 [(0,uD l s),(2,.ptr 0 0),(11,aU PJ l.ds),(12,nat l.ds.length),(13,nat i)] [(0,Br)] [0]
theorem Oa(k:aa G){l:Lk}{s:Fn}(v:gO l)(y:pT l s):iz zZq G 238 [uD l s] (Ky (rH l s)):=by
 have ca:∀a,Spec zZq G 293 [uD l s,nat 0,nat a] (int (Ao l s 0 a .known)):=fun a=>AL k l s 0 a v.nj fun j D o A=>by rw[y.k];exact v.QB D A
 have q:∀i,i<l.ds.length→(l.ds.getD i default).body<s.known.length:=fun i x=>by rw[y.k];exact v.body _ (aN x _)
 have E:=v.nd;have rd:∀i,i<l.ds.findIdx (jV l s)→ak zZq G 0 (ah f238 0) (drL l s i) .normal (drL l s (i+1)):=fun i x=>by
  obtain⟨b,d⟩:=pL default x;have e:=cg fC b default;have u:=gp (q i b);have t:=gw (q i b);have r:=iK (q i b);have c:=ca (l.ds.getD i default).body;rw[jV]at d;generalize s.known.getD (l.ds.getD i default).body false=z at r d;cases z with
  |true=>exact ak.r k [.eb 14 (ay b),.prop (aC fC (by omega) b),.prop (av fC (by omega) b),.eq 17 e,.er 23 (nat (l.ds.getD i default).body),.prop u,.prop t,.eq 25 r,.eq 39 (bQ (aI b (by omega)))]
  |false=>
   rcases eO (tF 0 (l.ds.getD i default).body (tH s .known)) l.js with g|⟨n,-,g⟩
   ·have f:Ao l s 0 (l.ds.getD i default).body .known= -1:=g
    rw[f]at c;exact ak.r k [.eb 14 (ay b),.prop (aC fC (by omega) b),.prop (av fC (by omega) b),.eq 17 e,.er 23 (nat (l.ds.getD i default).body),.prop u,.prop t,.eq 25 r,.call c,.eq 39 (bQ (aI b (by omega)))]
   ·have f:Ao l s 0 (l.ds.getD i default).body .known=zNq n:=g
    rw[f]at d;simp at d
 unfold rH;split
 ·rename_i h
  have d:=kJ (p:=jV l s) default h;have e:=cg fC h default;have u:=gp (q _ h);have t:=gw (q _ h);have r:=iK (q _ h);have c:=ca (l.ds.getD (l.ds.findIdx (jV l s)) default).body;rcases eO (tF 0 (l.ds.getD (l.ds.findIdx (jV l s)) default).body (tH s .known)) l.js with g|⟨n,-,g⟩
  ·have f:Ao l s 0 (l.ds.getD (l.ds.findIdx (jV l s)) default).body .known= -1:=g
   rw[jV,f,zLq]at d;exact apC d.2 (by decide)
  ·have f:Ao l s 0 (l.ds.getD (l.ds.findIdx (jV l s)) default).body .known=zNq n:=g
   have C:s.known.getD (l.ds.getD (l.ds.findIdx (jV l s)) default).body false=false:=by
    rw[jV]at d;simpa using(Bool.and_eq_true_iff.1 d).1
   rw[C]at r;rw[f]at c⊢;have w:=bT.z zZq G (ah f238 0) .ret (lay 41 [(2,.ptr 0 0),(3,bool true)] [(0,[nat 0,.bz 2 0 1 1,.bz 3 0 1 1,nat (l.ds.findIdx (jV l s))]),(2,[nat (l.ds.getD (l.ds.findIdx (jV l s)) default).body]),(3,[nat n])] [0]) (fun i=>drL l s i) _ rd
    (ak.ae k (ro:=[34,36]) (m:=60) (af ..) [.eb 14 (ay h),.prop (aC fC (by omega) h),.prop (av fC (by omega) h),.eq 17 e,.er 23 (nat (l.ds.getD (l.ds.findIdx (jV l s)) default).body),.prop u,.prop t,.eq 25 r,.call c,.eb 31 (l8 n)])
   exact iz.ae k func238 (ro:=[]) (m:=60) [.code w]
 ·rename_i h
  have B:l.ds.findIdx (jV l s)=l.ds.length:=anS amV (by omega)
  rw[B]at rd;have w:=bT.z zZq G (ah f238 0) (.exit 0) (lay 41 [(2,.ptr 0 0)] [(0,Br)] [0]) (fun i=>drL l s i) _ rd
   (ak.r k [.eb 14 (aH (alE l.ds.length))])
  exact iz.ae k func238 (ro:=[]) (m:=60) [.code w]
def wR(l:Lk)(s:Fn)(i:Nat):Bool:=qz s i&&(decide (Ao l s 0 i .known≥0)&&decide (Ao l s 1 i .known≥0))
def FK(l:Lk)(s:Fn):Nat:=(List.range l.bs.length).findIdx (wR l s)
def fW(l:Lk)(i a:Nat):Nat:=if(l.js.getD a default).a=i then 2 else 3
def ry(l:Lk)(s:Fn):Option Gp:=
 if FK l s<l.bs.length then
  some ⟨fW l (FK l s) (Ao l s 1 (FK l s) .known).toNat,[FK l s],[(Ao l s 0 (FK l s) .known).toNat,(Ao l s 1 (FK l s) .known).toNat],0⟩
 else none
def sgL(l:Lk)(s:Fn)(i:Nat):St:=lay 53 [(0,uD l s),(2,.ptr 0 0),(13,nat l.bs.length),(14,nat i)] [(0,Br)] [0]
theorem aB(n:Nat):decide (zNq n<0)=false:=by simp
theorem lZ{n i:Nat}(h:i<n):(List.range n).getD i 0=i:=by simp[List.getD_eq_getElem?_getD,h]
theorem Mt(b:aa G){l:Lk}{s:Fn}(A:gO l)(y:pT l s):iz zZq G 240 [uD l s] (Ky (ry l s)):=by
 have ca:∀k a,Spec zZq G 293 [uD l s,nat k,nat a] (int (Ao l s k a .known)):=fun k a=>AL b l s k a A.nj fun j K o J=>by rw[y.k];exact A.QB K J
 have I:∀i,i<l.bs.length→Spec zZq G 297 [uD l s,nat i] (bool (qz s i)):=fun i w=>aaz b l s (by rw[y.k];exact w) (by rw[y.d];exact w)
 have N:=A.nb;have C:(List.range l.bs.length).length=l.bs.length:=am_;have rd:∀i,i<FK l s→ak zZq G 0 (ah f240 0) (sgL l s i) .normal (sgL l s (i+1)):=fun i w=>by
  obtain⟨f,d⟩:=pL 0 (p:=wR l s) w;rw[C]at f;rw[lZ f]at d;have c:=I i f;have c0:=ca 0 i;have t:=ca 1 i;rw[wR]at d;generalize qz s i=z at c d;cases z with
  |false=>exact ak.r b [.eb 15 (ay f),.call c,.eq 51 (bQ (aI f (by omega)))]
  |true=>
   rw[aoP]at d;rcases eO (tF 0 i (tH s .known)) l.js with q|⟨n,-,q⟩
   ·have g:Ao l s 0 i .known= -1:=q
    rw[g]at c0;exact ak.r b [.eb 15 (ay f),.call c,.call c0,.call t,.eq 51 (bQ (aI f (by omega)))]
   ·have g:Ao l s 0 i .known=zNq n:=q
    rw[g]at c0;rcases eO (tF 1 i (tH s .known)) l.js with r|⟨k,-,r⟩
    ·have u:Ao l s 1 i .known= -1:=r
     rw[u]at t;exact ak.r b [.eb 15 (ay f),.call c,.call c0,.call t,.eb 28 (aB n),.eq 51 (bQ (aI f (by omega)))]
    ·have u:Ao l s 1 i .known=zNq k:=r
     rw[g,u]at d;simp at d
 unfold ry;split
 ·rename_i h
  have L:(List.range l.bs.length).findIdx (wR l s)<(List.range l.bs.length).length:=by rw[C];exact h
  have d:wR l s ((List.range l.bs.length).getD (FK l s) 0)=true:=kJ (p:=wR l s) 0 L;rw[lZ h]at d;generalize M:FK l s=i at h d rd;have c:=I i h;have c0:=ca 0 i;have t:=ca 1 i;rw[wR,zLq,zLq]at d;obtain⟨f1,f2,f3⟩:=d;rw[f1]at c;rcases eO (tF 0 i (tH s .known)) l.js with q|⟨n,F,q⟩
  ·have g:Ao l s 0 i .known= -1:=q
   rw[g]at f2;exact apC f2 (by decide)
  rcases eO (tF 1 i (tH s .known)) l.js with r|⟨k,B,r⟩
  ·have u:Ao l s 1 i .known= -1:=r
   rw[u]at f3;exact apC f3 (by decide)
  have g:Ao l s 0 i .known=zNq n:=q;have u:Ao l s 1 i .known=zNq k:=r;rw[g]at c0⊢;rw[u]at t⊢;have E:=aC br (by omega) B
  have D:=bH br B 2 (by omega)
  have e:=jA br B default 2 (by omega)
  have H:(((l.js.flatMap Ox).drop ((zNq k).toNat*7)).drop 2).headD .any=nat (l.js.getD k default).a:=e;unfold fW;by_cases x:(l.js.getD (zNq k).toNat default).a=i
  ·rw[apB x]
   have v:=bT.z zZq G (ah f240 0) .ret (lay 53 [(2,.ptr 0 0),(3,bool true)] [(0,[nat 2,.bz 1 0 1 1,.bz 2 0 2 2,nat 0]),(1,[nat i]),(2,[nat n,nat k])] [0]) (fun i=>sgL l s i) i rd
    (ak.ae b (ro:=[46,49]) (m:=60) (af ..) [.eb 15 (ay h),.call c,.call c0,.call t,.eb 28 (aB n),.eb 31 (aB k),.er 38 (nat k),.prop E,.prop D,.eq 41 H,.eb 43 (gd x)])
   exact iz.ae b func240 (ro:=[]) (m:=60) [.code v]
  ·rw[apA x]
   have v:=bT.z zZq G (ah f240 0) .ret (lay 53 [(2,.ptr 0 0),(3,bool true)] [(0,[nat 3,.bz 1 0 1 1,.bz 2 0 2 2,nat 0]),(1,[nat i]),(2,[nat n,nat k])] [0]) (fun i=>sgL l s i) i rd
    (ak.ae b (ro:=[46,49]) (m:=60) (af ..) [.eb 15 (ay h),.call c,.call c0,.call t,.eb 28 (aB n),.eb 31 (aB k),.er 38 (nat k),.prop E,.prop D,.eq 41 H,.eb 43 (eJ x)])
   exact iz.ae b func240 (ro:=[]) (m:=60) [.code v]
 ·rename_i h
  have F:FK l s=l.bs.length:=anS (by have:= @amV _ (wR l s) (List.range l.bs.length);rw[C]at this;exact this) (by omega)
  rw[F]at rd;have v:=bT.z zZq G (ah f240 0) (.exit 0) (lay 53 [(2,.ptr 0 0)] [(0,Br)] [0]) (fun i=>sgL l s i) _ rd
   (ak.r b [.eb 15 (aH (alE l.bs.length))])
  exact iz.ae b func240 (ro:=[]) (m:=60) [.code v]
open Gr in
theorem R_(N:Nat)(free:Nat→Bool)(i j:Nat):∀k,Lp N free i j<+:Lp N free i (j+k)
 |0=>apz _
 |k+1=>(R_ N free i j k).trans (by rw[←anl,Ff];exact List.prefix_append _ _)
open Gr in
theorem TX(N:Nat)(free:Nat→Bool)(i:Nat):∀k,Lp N free i 0<+:Lp N free (i+k) 0
 |0=>apz _
 |k+1=>(TX N free i k).trans (by
  have h:=R_ N free (i+k) 0 N;rw[amv,R9]at h;exact h)
open Gr in
theorem ab3{N:Nat}{free:Nat→Bool}{i j:Nat}(c:i<j)(g:j<N)(f:free i=true)(e:free j=true):∃r,Lp N free N 0=Lp N free i j++(i,j)::r:=by
 have d:Lp N free i (j+1)<+:Lp N free (i+1) 0:=by
  have h:=R_ N free i (j+1) (N-(j+1));rw[show j+1+(N-(j+1))=N from by omega,R9]at h
  exact h
 have b:=TX N free (i+1) (N-(i+1));rw[show i+1+(N-(i+1))=N from by omega]at b
 obtain⟨r,a⟩:=d.trans b;rw[Ff,apB ⟨c,f,e⟩,am7]at a;exact⟨r,a.symm⟩
def anP(l:Lk)(s:Fn)(i:Nat):Int:=Ao l s 0 i .known
def cmP(l:Lk)(s:Fn)(i j:Nat):Int:=Ao l s 0 i (.only j)
def I7(l:Lk)(s:Fn)(x:Nat×Nat):Gp:=⟨1,[x.1,x.2],[(anP l s x.1).toNat,(anP l s x.2).toNat,(cmP l s x.1 x.2).toNat],0⟩
def zJ(l:Lk)(s:Fn):Option Gp:=((Gr.Lp l.bs.length (qz s) l.bs.length 0).find? (Gr.L4 (anP l s) (cmP l s))).map (I7 l s)
theorem C0{z:Int}(h:0≤z):int z=nat z.toNat:=by
 have:z=zNq z.toNat:=(Int.toNat_of_nonneg h).symm;show D.lit (.int .i64 z)=D.lit (.int .i64 (zNq z.toNat));rw[←this]
theorem Y2(g:aa G){l:Lk}{s:Fn}(b:gO l)(e:pT l s):iz zZq G 239 [uD l s] (Ky (zJ l s)):=by
 have v:∀a q,Spec zZq G 295 [uD l s,nat 0,nat a,abK l s q] (int (Ao l s 0 a q)):=fun a q=>Td g l s 0 a q b.nj fun j c o m=>by rw[e.k];exact b.QB c m
 have ca:∀a,Spec zZq G 293 [uD l s,nat 0,nat a] (int (Ao l s 0 a .known)):=fun a=>AL g l s 0 a b.nj fun j c o m=>by rw[e.k];exact b.QB c m
 refine Gr.Ai (nm:=.lit (.string l.nm)) (N:=l.bs.length) (bs:=l.bs.flatMap cBd) (rest:=[aU Ox l.js,aU PJ l.ds,gC s.known,gC s.mM,gC s.used,gsD s.gs]) (an:=anP l s) (jn:=cmP l s) (free:=qz s) g b.nb
  (fun i f=>aaz g l s (by rw[e.k];exact f) (by rw[e.d];exact f)) (fun i _ _=>ca i) (fun i j _ _ _ _=>v i (.only j)) (fun h=>?_) fun i j n c f u d t=>?_
 ·rw[zJ,aom.2 (fun x k=>by rw[h x k];simp)];rfl
 ·obtain⟨r,p⟩:=ab3 n c f u
  rw[zJ,p,List.find?_append,aom.2 (fun x k=>by rw[t x k];simp),Option.none_or,aoM d]
  rw[Gr.L4,Bool.and_eq_true,Bool.and_eq_true,decide_eq_true_eq,decide_eq_true_eq,decide_eq_true_eq]at d;show _=D.aY [.agg [nat 1,.row 2 false [nat i,nat j],.row 3 false [int (anP l s i),int (anP l s j),int (cmP l s i j)],nat 0],bool true];rw[C0 d.1.1,C0 d.1.2,C0 d.2];rfl
end Tw
end Lw
