/- Part 11. -/
import Derived.Test.YtmcpfihkambgnaaGreatLw10
open Go.Proofs.Tryz renaming prog→zZq
open Go.Proofs.Tryz
namespace Lw
open Go Go.RowKit Go.Proofs
namespace Tw
open fL
variable {G:World→Prop} {t:aS} {δ:Nat}
def lV(p q:Pt):Pt:=fD q p
def lW(c:Cr)(p:Pt):Pt:=fD c.o p
def lQ(t:aS)(p q:Pt):List Rat:=ta t (lV p q) (lV p q)
def lE(t:aS)(c:Cr)(p q:Pt):List Rat:=ta t (lV p q) (lW c p)
def lC(t:aS)(c:Cr)(p q:Pt):List Rat:=kX t (lV p q) (lW c p)
def lX(t:aS)(c:Cr)(p q:Pt):List Rat:=jg (mulL t (lQ t p q) c.r) (mulL t (lC t c p q) (lC t c p q))
structure aeI(G:World→Prop)(δ:Nat)(t:aS)(c:Cr)(p q:Pt):Prop where
 hp:fP t p
 hq:fP t q
 v:fP t (lV p q)
 sqr:Spec zZq G 158 [aP t,iX (lV p q),iX (lV p q)] (.aY [aA (lQ t p q),.lit .nilIface])
 qo:Ok t (lQ t p q)
 qs:yl δ t (lQ t p q)
 q1:a7 t (lQ t p q)=1
 e:Spec zZq G 158 [aP t,iX (lV p q),iX (lW c p)] (.aY [aA (lE t c p q),.lit .nilIface])
 k:Spec zZq G 252 [aP t,iX (lV p q),iX (lW c p)] (.aY [aA (lC t c p q),.lit .nilIface])
 eo:Ok t (lE t c p q)
 ko:Ok t (lC t c p q)
 m1:Ok t (mulL t (lQ t p q) c.r)
 m2:Ok t (mulL t (lC t c p q) (lC t c p q))
 x:Ok t (lX t c p q)
 xs:yl δ t (lX t c p q)
 d:Sc δ t (lQ t p q)
theorem U'(a:aa G)(b:b7 δ t){c:Cr}{p q:Pt}(d:zC δ t c)(w:aeI G δ t c p q)(f:fF zZq G f315 [.ptr 0 0] (Cl t) (aP t) (Cl t))(e:a7 t (lX t c p q)= -1):
  Spec zZq G 203 [aP t,LW c,iX p,iX q] (.aY [yn t [],.lit .nilIface]):=
 Spec.y a (ax KA roM) func203 [] [.call (gg a b),.call (jZ a b d.o),.call (aM a b d.r),.call (jZ a b w.hp),.call (jZ a b w.hq),.call (d_ a b d.rs d.pos),.call (bW a b w.hq.1 w.hp.1),.call (bW a b w.hq.2 w.hp.2),.call (bW a b d.o.1 w.hp.1),.call (bW a b d.o.2 w.hp.2),.call w.sqr,.call (d_ a b w.qs w.q1),.call w.e,.call w.k,.call (cL a b w.qo d.r),.call (cL a b w.ko w.ko),.call (bW a b w.m1 w.m2),.call (d_ a b w.xs e),.aT func315 f]
def lF(t:aS)(c:Cr)(p q:Pt):List Rat:=wu t (lE t c p q) (lQ t p q)
structure afB(t:aS)(c:Cr)(p q:Pt):Prop where
 f:Ok t (lF t c p q)
 f1:Ok t (mulL t (lF t c p q) (lV p q).1)
 f2:Ok t (mulL t (lF t c p q) (lV p q).2)
theorem ZR(a:aa G)(b:b7 δ t){c:Cr}{p q:Pt}(d:zC δ t c)(w:aeI G δ t c p q)(g:fF zZq G f315 [.ptr 0 0] (Cl t) (aP t) (Cl t))(e:afB t c p q)(f:a7 t (lX t c p q)=0):
  Spec zZq G 203 [aP t,LW c,iX p,iX q] (.aY [yn t (Lu (dR t p (lF t c p q) (lV p q))),.lit .nilIface]):=
 Spec.y a (ax KA roM) func203 [] [.call (gg a b),.call (jZ a b d.o),.call (aM a b d.r),.call (jZ a b w.hp),.call (jZ a b w.hq),.call (d_ a b d.rs d.pos),.call (bW a b w.hq.1 w.hp.1),.call (bW a b w.hq.2 w.hp.2),.call (bW a b d.o.1 w.hp.1),.call (bW a b d.o.2 w.hp.2),.call w.sqr,.call (d_ a b w.qs w.q1),.call w.e,.call w.k,.call (cL a b w.qo d.r),.call (cL a b w.ko w.ko),.call (bW a b w.m1 w.m2),.call (d_ a b w.xs f),.call (ud a b w.eo w.d (by rw[w.q1];decide)),.call (cL a b e.f w.v.1),.call (j4 a b w.hp.1 e.f1),.call (cL a b e.f w.v.2),.call (j4 a b w.hp.2 e.f2),.aT func315 g]
def lT(t:aS)(c:Cr)(p q:Pt):aS:=t++[bA (lX t c p q) (2^t.length)]
def lA(t:aS)(c:Cr)(p q:Pt):List Rat:=o9 (lE t c p q) (eM t.length)
def lB(t:aS)(c:Cr)(p q:Pt):List Rat:=jg (lE t c p q) (eM t.length)
def lG(t:aS)(c:Cr)(p q:Pt):List Rat:=wu (lT t c p q) (lA t c p q) (lQ t p q)
def lH(t:aS)(c:Cr)(p q:Pt):List Rat:=wu (lT t c p q) (lB t c p q) (lQ t p q)
structure aj_(η:Nat)(t:aS)(c:Cr)(p q:Pt):Prop where
 r:Ok (lT t c p q) (eM t.length)
 e:Ok (lT t c p q) (lE t c p q)
 a:Ok (lT t c p q) (lA t c p q)
 b:Ok (lT t c p q) (lB t c p q)
 d:Sc η (lT t c p q) (lQ t p q)
 d0:a7 (lT t c p q) (lQ t p q)≠0
 v:fP (lT t c p q) (lV p q)
 hp:fP (lT t c p q) p
 g:Ok (lT t c p q) (lG t c p q)
 h:Ok (lT t c p q) (lH t c p q)
 g1:Ok (lT t c p q) (mulL (lT t c p q) (lG t c p q) (lV p q).1)
 g2:Ok (lT t c p q) (mulL (lT t c p q) (lG t c p q) (lV p q).2)
 h1:Ok (lT t c p q) (mulL (lT t c p q) (lH t c p q) (lV p q).1)
 h2:Ok (lT t c p q) (mulL (lT t c p q) (lH t c p q) (lV p q).2)
theorem ZP(a:aa G)(b:b7 δ t){c:Cr}{p q:Pt}(e:zC δ t c)(w:aeI G δ t c p q)(g:fF zZq G f315 [.ptr 0 0] (Cl (lT t c p q)) (aP (lT t c p q)) (Cl (lT t c p q))){η:Nat}(d:b7 η (lT t c p q))(k:aj_ η t c p q)(ex:Spec zZq G 207 [aP t,aA (lX t c p q)] (.aY [aP (lT t c p q),aA (eM t.length),.lit .nilIface]))(f:a7 t (lX t c p q)=1):
  Spec zZq G 203 [aP t,LW c,iX p,iX q] (.aY [yn (lT t c p q) (Lu (dR (lT t c p q) p (lG t c p q) (lV p q))++Lu (dR (lT t c p q) p (lH t c p q) (lV p q))),.lit .nilIface]):=
 Spec.y a (ax KA roM) func203 [] [.call (gg a b),.call (jZ a b e.o),.call (aM a b e.r),.call (jZ a b w.hp),.call (jZ a b w.hq),.call (d_ a b e.rs e.pos),.call (bW a b w.hq.1 w.hp.1),.call (bW a b w.hq.2 w.hp.2),.call (bW a b e.o.1 w.hp.1),.call (bW a b e.o.2 w.hp.2),.call w.sqr,.call (d_ a b w.qs w.q1),.call w.e,.call w.k,.call (cL a b w.qo e.r),.call (cL a b w.ko w.ko),.call (bW a b w.m1 w.m2),.call (d_ a b w.xs f),.call ex,.call (j4 a d k.e k.r),.call (ud a d k.a k.d k.d0),.call (cL a d k.g k.v.1),.call (j4 a d k.hp.1 k.g1),.call (cL a d k.g k.v.2),.call (j4 a d k.hp.2 k.g2),.call (bW a d k.e k.r),.call (ud a d k.b k.d k.d0),.call (cL a d k.h k.v.1),.call (j4 a d k.hp.1 k.h1),.call (cL a d k.h k.v.2),.call (j4 a d k.hp.2 k.h2),.aT func315 g]
section
variable (l:Lk) (a:As) {kd i j0 j1 dr:Nat}
theorem yz(e:aa G)(b:j1<l.js.length):fF zZq G f270 [.ptr 0 0] (iH l ⟨kd,[i],[j0,j1],dr⟩ a) (.agg (Ox (l.js.getD j1 default))) (iH l ⟨kd,[i],[j0,j1],dr⟩ a):=by
 have d:=aC br (by omega) b
 have c:=av br (by omega) b
 have f:=cg br b default;exact fF.aq e (ax []) _ (ro:=[998]) (m:=60) [.er 14 (nat j1),.prop d,.prop c,.eq 16 f]
def Vu(g:Gp)(j:Jt):Hd:=⟨nE (kE l g 0 i),jG l g a 0 i,nE (dP l i j.p)⟩
def adq:List FuncId:=[270,192,249,250,202]++opsV
theorem akt(b:aa G){j:Jt}(o:l.js.getD j1 default=j)(r:j1<l.js.length)
  (n:fF zZq G f192 [.ptr 0 0,nat 0,nat i] (iH l ⟨kd,[i],[j0,j1],dr⟩ a) (.aY [(nE (kE l ⟨kd,[i],[j0,j1],dr⟩ 0 i)).AH,iX (jG l ⟨kd,[i],[j0,j1],dr⟩ a 0 i)]) (iH l ⟨kd,[i],[j0,j1],dr⟩ a))
  (g:jL l i j.p) (f:jL l j.b j.on) (e:jL l j.b j.to) (d:j.b<a.bs.length) (k:xe G l a j.b j.on) (h:xe G l a j.b j.to):
  fF zZq G f202 [.ptr 0 0] (iH l ⟨kd,[i],[j0,j1],dr⟩ a) (.aY [Sa (Vu l a (i:=i) ⟨kd,[i],[j0,j1],dr⟩ j),iX (b9 l a j.b j.on),iX (b9 l a j.b j.to)]) (iH l ⟨kd,[i],[j0,j1],dr⟩ a):=by
 have c:=yz (G:=G) l a (kd:=kd) (i:=i) (j0:=j0) (dr:=dr) b r;rw[o]at c;exact fF.aq b (ax adq) _ (ro:=[998]) (m:=60) [.aT func270 c,.aT func192 n,.aT func249 (mK b l ⟨kd,[i],[j0,j1],dr⟩ a g.1 g.2),.aT func250 (rE b l ⟨kd,[i],[j0,j1],dr⟩ a f.1 f.2 d k),.aT func250 (rE b l ⟨kd,[i],[j0,j1],dr⟩ a e.1 e.2 d h)]
variable {A:Hd} {p q:Pt}
theorem YH(b:aa G){T:aS}{c cs:List D}{n:Nat}
  (f:fF zZq G f202 [.ptr 0 0] (iH l ⟨kd,[i],[j0,j1],dr⟩ a) (.aY [Sa A,iX p,iX q]) (iH l ⟨kd,[i],[j0,j1],dr⟩ a))
  (a1:A.c.Fit) (e:A.p.Fit) (d:A.v.wJ) (g:rW A.v.sq=1)
  (li:Spec zZq G 203 [aP a.t,LW A.cr,iX p,iX q] (.aY [yn T c,.lit .nilIface])) (pl:Spec zZq G 201 [yn T c,.row 1 false (WC A)] (.aY [.row n false cs,.lit .nilIface])):
  fF zZq G f151 [.ptr 0 0] (iH l ⟨kd,[i],[j0,j1],dr⟩ a) (.aY [.row n false cs,.lit .nilIface]) (iH l ⟨kd,[i],[j0,j1],dr⟩ a):=
 fF.aq b (ax adq) _ (ro:=[998]) (m:=60) [.aT func202 f,.call (gA b a1 e),.call (Xo b d g),.call (yc b a1 e d),.call li,.call pl]
theorem adf(b:aa G)
  (c:fF zZq G f202 [.ptr 0 0] (iH l ⟨kd,[i],[j0,j1],dr⟩ a) (.aY [Sa A,iX p,iX q]) (iH l ⟨kd,[i],[j0,j1],dr⟩ a))
  (a1:A.c.Fit) (f:A.p.Fit) (e:A.v.wJ) (d:rW A.v.sq=0):
  fF zZq G f151 [.ptr 0 0] (iH l ⟨kd,[i],[j0,j1],dr⟩ a) (.aY [QQ,e_ 15]) (iH l ⟨kd,[i],[j0,j1],dr⟩ a):=
 fF.aq b (ax adq) _ (ro:=[998]) (m:=60) [.aT func202 c,.call (gA b a1 f),.call (T1 b e d)]
end
def V2.t_(v w:V2):Rat:=v.x*w.y-v.y*w.x
theorem B3(b:aa G){v w:V2}(c:v.Fit)(hw:w.Fit)(e:Qk (v.x*w.y))(d:Qk (v.y*w.x)):Spec zZq G 276 [v.AH,w.AH] (F (v.t_ w)):=
 Spec.y b (ax MX) func276 [] [.call (R6 b c.x hw.y),.call (R6 b c.y hw.x),.call (aeC b e d)]
structure Rp where
 p:V2
 o:Pt
 v:V2
 f:V2
 q:Pt
def Rp.u(x:Rp):V2:=x.f.sub x.p
def Rp.h(x:Rp):List Rat:=iF (x.v.t_ x.u)
def Rp.n(x:Rp):List Rat:=iF x.v.sq
def Rp.qD(x:Rp):Pt:=fD x.q x.o
def Rp.d(t:aS)(x:Rp):List Rat:=ta t x.qD x.qD
def Rp.r(t:aS)(x:Rp):List Rat:=jg (mulL t x.n (x.d t)) (mulL t x.h x.h)
structure WT(G:World→Prop)(δ:Nat)(t:aS)(x:Rp)(to:V2):Prop where
 hp:x.p.Fit
 hf:x.f.Fit
 ht:to.Fit
 hv:x.v=to.sub x.f
 v:x.v.wJ
 hu:x.u.Fit
 c1:Qk (x.v.x*x.u.y)
 c2:Qk (x.v.y*x.u.x)
 c:Qk (x.v.t_ x.u)
 ho:fP t x.o
 hq:fP t x.q
 w:fP t x.qD
 dd:Spec zZq G 158 [aP t,iX x.qD,iX x.qD] (.aY [aA (x.d t),.lit .nilIface])
 h:Ok t x.h
 hs:yl δ t x.h
 n:Ok t x.n
 d:Ok t (x.d t)
 ds:yl δ t (x.d t)
 m1:Ok t (mulL t x.n (x.d t))
 m2:Ok t (mulL t x.h x.h)
 r:Ok t (x.r t)
 rs:yl δ t (x.r t)
def Rp.b(t:aS)(x:Rp):Pt:=xn t x.h (xI x.qD.2,x.qD.1)
def Rp.w(t:aS)(x:Rp)(root:List Rat):Pt:=fD (xn t root x.qD) (x.b t)
def Rp.z(t:aS)(x:Rp)(T:aS)(root:List Rat):Pt:=(wu T (x.w T root).1 (x.d t),wu T (x.w T root).2 (x.d t))
def Rp.pl(t:aS)(x:Rp)(T:aS)(root:List Rat):Pl:=rj T x.v (x.z t T root) x.p x.o
structure aey(G:World→Prop)(η:Nat)(t:aS)(T:aS)(x:Rp)(root:List Rat):Prop where
 a:Spec zZq G 210 [aP T,aA root,iX x.qD] (.aY [iX (xn T root x.qD),.lit .nilIface])
 ng:Ok T x.qD.2
 b:Spec zZq G 210 [aP T,aA x.h,iX (xI x.qD.2,x.qD.1)] (.aY [iX (x.b T),.lit .nilIface])
 ao:fP T (xn T root x.qD)
 bo:fP T (x.b T)
 w:fP T (x.w T root)
 d:Sc η T (x.d t)
 d0:a7 T (x.d t)≠0
 body:BOk G η T x.v (x.z t T root) x.p x.o
section
variable (l:Lk) (a:As) {kd i j0 j1 dr:Nat}
def Y8:List FuncId:=[276,251,86,211,158,210,207,51,23,317,312,284]++adq
def Rp.T(t:aS)(x:Rp):aS:=t++[bA (x.r t) (2^t.length)]
theorem tk(b:aa G){j:Jt}(A:l.js.getD j1 default=j)(B:j1<l.js.length)(c:b7 δ a.t){x:Rp}(s:fF zZq G f192 [.ptr 0 0,nat 0,nat i] (iH l ⟨kd,[i],[j0,j1],dr⟩ a) (.aY [x.p.AH,iX x.o]) (iH l ⟨kd,[i],[j0,j1],dr⟩ a))(z:x.f=nE (dP l i j.on))(y:x.q=b9 l a j.a j.p)(f1:jL l i j.on)(f2:jL l i j.to)(g:jL l j.a j.p)(q:j.a<a.bs.length)(p:xe G l a j.a j.p)(w:WT G δ a.t x (nE (dP l i j.to))):
  let M:=fun r:D=>fF zZq G f152 [.ptr 0 0] (iH l ⟨kd,[i],[j0,j1],dr⟩ a) r (iH l ⟨kd,[i],[j0,j1],dr⟩ a)
  (True→a7 a.t (x.d a.t)=0→a7 a.t x.h=0→M (.aY [QQ,e_ 15]))∧
  (a7 a.t (x.r a.t)= -1→a7 a.t (x.d a.t)=1→M (.aY [QQ,.lit .nilIface]))∧
  (a7 a.t (x.r a.t)= -1→a7 a.t (x.d a.t)=0→a7 a.t x.h=1∨a7 a.t x.h= -1→M (.aY [QQ,.lit .nilIface]))∧
  (Spec zZq G 195 [aP a.t] (aP a.t)→aey G δ a.t a.t x []→a7 a.t (x.r a.t)=0→a7 a.t (x.d a.t)=1→M (.aY [.row 1 false (cSd a.t [x.pl a.t a.t []] 0),.lit .nilIface]))∧
  (∀η:Nat,b7 η (x.T a.t)→Spec zZq G 195 [aP (x.T a.t)] (aP (x.T a.t))→Ok (x.T a.t) (eM a.t.length)→aey G η a.t (x.T a.t) x (eM a.t.length)→aey G η a.t (x.T a.t) x (xI (eM a.t.length))→Spec zZq G 207 [aP a.t,aA (x.r a.t)] (.aY [aP (x.T a.t),aA (eM a.t.length),.lit .nilIface])→a7 a.t (x.r a.t)=1→a7 a.t (x.d a.t)=1→M (.aY [.row 2 false (cSd (x.T a.t) [x.pl a.t (x.T a.t) (eM a.t.length)] 1++cSd (x.T a.t) [x.pl a.t (x.T a.t) (xI (eM a.t.length))] (-1)),.lit .nilIface])):=by
 have n:=yz (G:=G) l a (kd:=kd) (i:=i) (j0:=j0) (dr:=dr) b B;rw[A]at n;obtain⟨F,H,C,I,E⟩:=x;simp only at z y;have v:=w.hv;simp only at v;subst z y v;refine⟨fun k h o=>fF.aq b (ax Y8) _ (ro:=[998]) (m:=60) [.aT func270 n,.aT func192 s,.aT func249 (mK b l ⟨kd,[i],[j0,j1],dr⟩ a f1.1 f1.2),.aT func249 (mK b l ⟨kd,[i],[j0,j1],dr⟩ a f2.1 f2.2),.call (gA b w.ht w.hf),.call (gA b w.hf w.hp),.call (B3 b w.v.f w.hu w.c1 w.c2),.call (dG b w.c),.call (sD b w.v),.aT func250 (rE b l ⟨kd,[i],[j0,j1],dr⟩ a g.1 g.2 q p),.call (ua b c w.hq w.ho),.call w.dd,.call (cL b c w.n w.d),.call (cL b c w.h w.h),.call (bW b c w.m1 w.m2),.call (d_ b c w.rs rfl),.call (d_ b c w.ds h),.call (d_ b c w.hs o)],fun k h=>fF.aq b (ax Y8) _ (ro:=[998]) (m:=60) [.aT func270 n,.aT func192 s,.aT func249 (mK b l ⟨kd,[i],[j0,j1],dr⟩ a f1.1 f1.2),.aT func249 (mK b l ⟨kd,[i],[j0,j1],dr⟩ a f2.1 f2.2),.call (gA b w.ht w.hf),.call (gA b w.hf w.hp),.call (B3 b w.v.f w.hu w.c1 w.c2),.call (dG b w.c),.call (sD b w.v),.aT func250 (rE b l ⟨kd,[i],[j0,j1],dr⟩ a g.1 g.2 q p),.call (ua b c w.hq w.ho),.call w.dd,.call (cL b c w.n w.d),.call (cL b c w.h w.h),.call (bW b c w.m1 w.m2),.call (d_ b c w.rs k),.call (d_ b c w.ds h)],fun k h o=>?_,fun u e k h=>fF.aq b (ax Y8) _ (ro:=[998]) (m:=60) [.aT func270 n,.aT func192 s,.aT func249 (mK b l ⟨kd,[i],[j0,j1],dr⟩ a f1.1 f1.2),.aT func249 (mK b l ⟨kd,[i],[j0,j1],dr⟩ a f2.1 f2.2),.call (gA b w.ht w.hf),.call (gA b w.hf w.hp),.call (B3 b w.v.f w.hu w.c1 w.c2),.call (dG b w.c),.call (sD b w.v),.aT func250 (rE b l ⟨kd,[i],[j0,j1],dr⟩ a g.1 g.2 q p),.call (ua b c w.hq w.ho),.call w.dd,.call (cL b c w.n w.d),.call (cL b c w.h w.h),.call (bW b c w.m1 w.m2),.call (d_ b c w.rs k),.call (d_ b c w.ds h),.call e.a,.call (aM b c e.ng),.call e.b,.call (ua b c e.ao e.bo),.call (ud b c e.w.1 e.d e.d0),.call (ud b c e.w.2 e.d e.d0),.call u,.aT func193 (pP b c e.body)],fun _ f u rt e d ex k h=>fF.aq b (ax Y8) _ (ro:=[998]) (m:=60) [.aT func270 n,.aT func192 s,.aT func249 (mK b l ⟨kd,[i],[j0,j1],dr⟩ a f1.1 f1.2),.aT func249 (mK b l ⟨kd,[i],[j0,j1],dr⟩ a f2.1 f2.2),.call (gA b w.ht w.hf),.call (gA b w.hf w.hp),.call (B3 b w.v.f w.hu w.c1 w.c2),.call (dG b w.c),.call (sD b w.v),.aT func250 (rE b l ⟨kd,[i],[j0,j1],dr⟩ a g.1 g.2 q p),.call (ua b c w.hq w.ho),.call w.dd,.call (cL b c w.n w.d),.call (cL b c w.h w.h),.call (bW b c w.m1 w.m2),.call (d_ b c w.rs k),.call (d_ b c w.ds h),.call ex,.call (aM b f rt),.call e.a,.call (aM b f e.ng),.call e.b,.call (ua b f e.ao e.bo),.call (ud b f e.w.1 e.d e.d0),.call (ud b f e.w.2 e.d e.d0),.call u,.aT func193 (pP b f e.body),.call d.a,.call (aM b f d.ng),.call d.b,.call (ua b f d.ao d.bo),.call (ud b f d.w.1 d.d d.d0),.call (ud b f d.w.2 d.d d.d0),.call u,.aT func193 (pP b f d.body)]⟩
 rcases o with o|o<;>exact fF.aq b (ax Y8) _ (ro:=[998]) (m:=60) [.aT func270 n,.aT func192 s,.aT func249 (mK b l ⟨kd,[i],[j0,j1],dr⟩ a f1.1 f1.2),.aT func249 (mK b l ⟨kd,[i],[j0,j1],dr⟩ a f2.1 f2.2),.call (gA b w.ht w.hf),.call (gA b w.hf w.hp),.call (B3 b w.v.f w.hu w.c1 w.c2),.call (dG b w.c),.call (sD b w.v),.aT func250 (rE b l ⟨kd,[i],[j0,j1],dr⟩ a g.1 g.2 q p),.call (ua b c w.hq w.ho),.call w.dd,.call (cL b c w.n w.d),.call (cL b c w.h w.h),.call (bW b c w.m1 w.m2),.call (d_ b c w.rs k),.call (d_ b c w.ds h),.call (d_ b c w.hs o)]
end
theorem aj6(c:aa G){x y:Rat}(b:Qk x)(a:Qk y)(h:y≠0):Spec zZq G 320 [F x,F y] (.aY [F (x/y),.lit .nilIface]):=DE c b.tW a.tW (alE _) (alE _) h
def UR:List FuncId:=[42,43,28,112,70,45,320,38,222]
theorem Dw(a:aa G){x:Tn}(c:Qk x.t)(d:x.half=true→x.t=0):Spec zZq G 38 [EF x] (.lit .nilIface):=by
 obtain⟨q,b⟩:=x;cases b with
 |false=>exact Spec.y a (ax (UR.erase 38)) func38 [] [.call (HH a c)]
 |true=>
  have e:rW q=0:=by rw[show q=0 from d rfl];decide
  exact Spec.y a (ax (UR.erase 38)) func38 [] [.call (HH a c),.call (afy a c e)]
def Tn.den(x:Tn):Rat:=((1:Int):Rat)+x.t*x.t
def Tn.cos(x:Tn):Rat:=if x.half then((-1:Int):Rat)else(((1:Int):Rat)-x.t*x.t)/x.den
def Tn.sin(x:Tn):Rat:=if x.half then 0 else(x.t+x.t)/x.den
structure abR(x:Tn):Prop where
 q:Qk x.t
 hh:x.half=true→x.t=0
 q2:Qk (x.t*x.t)
 d:Qk x.den
 d0:x.den≠0
 n:Qk (((1:Int):Rat)-x.t*x.t)
 m:Qk (x.t+x.t)
theorem tJ:Qk ((1:Int):Rat):=Ke (by rw[pd];omega) (by omega) (by omega)
theorem aj2(a:aa G){x:Tn}(h:abR x):Spec zZq G 222 [EF x] (.aY [F x.cos,F x.sin]):=by
 obtain⟨q,b⟩:=x;cases b with
 |true=>exact Spec.y a (ax (UR.erase 222)) func222 [] [.call (dA a (i:= -1) (by omega) (by omega))]
 |false=>exact Spec.y a (ax (UR.erase 222)) func222 [] [.call (dA a (i:=1) (by omega) (by omega)),.call (R6 a h.q h.q),.call (aeD a tJ h.q2),.call (aeC a tJ h.q2),.call (aj6 a h.n h.d h.d0),.call (aeD a h.q h.q),.call (aj6 a h.m h.d h.d0)]
theorem aj3(a:aa G){x:Tn}(h:abR x):Spec zZq G 163 [EF x] (.aY [F x.cos,.lit .nilIface]):=
 Spec.y a (ax UR) func163 [] [.call (Dw a h.q h.hh),.call (aj2 a h)]
theorem aj1(a:aa G){x:Tn}(h:abR x):Spec zZq G 164 [EF x] (.aY [F x.sin,.lit .nilIface]):=
 Spec.y a (ax UR) func164 [] [.call (Dw a h.q h.hh),.call (aj2 a h)]
def RK(a b:List Rat):List Rat:=dJ a (fp b)
def ab_(δ:Nat)(t:aS)(a b:List Rat):Prop:=∃m n,aQ m t a∧aQ n t b∧sb δ t.length (m+n+1)≤NB
theorem ab9(d:aa G)(c:b7 δ t){a b:List Rat}(h:ab_ δ t a b){z:Int}(e:a7 t (RK a b)=z):Spec zZq G 52 [aP t,aA a,aA b] (.aY [int z,.lit .nilIface]):=by
 obtain⟨m,n,i,g,f⟩:=h;exact e▸yq d c.b i g f
theorem abY(a:aa G)(b:b7 δ t){p q:Pt}(d:fP t p)(c:fP t q)(h:ab_ δ t p.1 q.1)(g:ab_ δ t p.2 q.2)(f:a7 t (RK p.1 q.1)=0)(e:a7 t (RK p.2 q.2)=0):
  Spec zZq G 161 [aP t,iX p,iX q] (.aY [bool true,.lit .nilIface]):=
 Spec.y a (ax Er) func161 [] [.call (ox a b d c),.call (ab9 a b h f),.call (ab9 a b g e)]
def adm(t:aS)(p q r:Pt):List Rat:=kX t (fD q p) (fD r p)
theorem R7(a:aa G)(b:b7 δ t){p q r:Pt}(c:fP t p)(f:fP t q)(d:fP t r)(v:fP t (fD q p))(w:fP t (fD r p))(h:Ok t (mulL t (fD q p).1 (fD r p).2))(g:Ok t (mulL t (fD q p).2 (fD r p).1))
  (s:yl δ t (adm t p q r)) {z:Int} (e:a7 t (adm t p q r)=z):Spec zZq G 162 [aP t,iX p,iX q,iX r] (.aY [int z,.lit .nilIface]):=
 Spec.y a (ax Er) func162 [] [.call (Oo a b c f d),.call (bW a b f.1 c.1),.call (bW a b f.2 c.2),.call (bW a b d.1 c.1),.call (bW a b d.2 c.2),.call (cL a b v.1 w.2),.call (cL a b v.2 w.1),.call (bW a b h g),.call (d_ a b s e)]
def HX:List FuncId:=[159,160,93,94,97,100,157,86,52,28,158,218,161,162,163,164]
structure Is(δ:Nat)(t:aS)(a:List Rat)(q:Rat):Prop where
 hq:Qk q
 c:ab_ δ t a (iF q)
 e:a7 t (RK a (iF q))=0
theorem wj(b:aa G)(c:b7 δ t){a:List Rat}{q:Rat}(h:Is δ t a q):Spec zZq G 159 [aP t,aA a,F q] (bool true):=
 Spec.y b (ax (HX.erase 159)) func159 [] [.call (dG b h.hq),.call (ab9 b c h.c h.e)]
theorem Fe(c:aa G)(b:b7 δ t){a:List Rat}(h:Ok t a):Spec zZq G 157 [aP t,aA a] (bool true):=Hx c b.b h rl
theorem afQ(a:aa G)(c:b7 δ t){b:Pl}(f:aeG t b)(d:Spec zZq G 158 [aP t,iX (b.c,b.s),iX (b.c,b.s)] (.aY [aA (ta t (b.c,b.s) (b.c,b.s)),.lit .nilIface]))(e:Is δ t (ta t (b.c,b.s) (b.c,b.s)) ((1:Int):Rat)):
  Spec zZq G 93 [aP t,jB b] (bool true):=
 Spec.y a (ax HX) func93 [] [.call (Fe a c f.c),.call (Fe a c f.s),.call (Fe a c f.x),.call (Fe a c f.y),.call d,.call (dA a (i:=1) (by omega) (by omega)),.call (wj a c e)]
theorem acy(a:aa G)(d:b7 δ t){b:Pl}(c:Is δ t b.c ((1:Int):Rat))(s:Is δ t b.s 0)(x:Is δ t b.x 0)(y:Is δ t b.y 0):Spec zZq G 94 [aP t,jB b] (bool true):=
 Spec.y a (ax (HX.erase 94)) func94 [] [.call (dA a (i:=1) (by omega) (by omega)),.call (wj a d c),.call (wj a d s),.call (wj a d x),.call (wj a d y)]
theorem XE(a:aa G)(e:b7 δ t){b:Pl}{x:Tn}(d:abR x)(c:Is δ t b.c x.cos)(s:Is δ t b.s x.sin):Spec zZq G 100 [aP t,jB b,EF x] (bool true):=
 Spec.y a (ax (HX.erase 100)) func100 [] [.call (aj3 a d),.call (aj1 a d),.call (wj a e c),.call (wj a e s)]
def g7(l:Lk):D:=.agg (EB l)
def b8(a:As):D:=.agg (p_ a)
def JtD(j:Jt):D:=.agg (Ox j)
theorem Ov(j:aa G)(l:Lk)(a:As){body k:Nat}(h:jL l body k)(b:body<a.bs.length)(at':xe G l a body k):Spec zZq G 160 [g7 l,b8 a,nat body,nat k] (.aY [iX (b9 l a body k),.lit .nilIface]):=by
 have o:=jA zi h.1 default 1 (by omega)
 have i:=bH zi h.1 1 (by omega)
 have n:=cg zh h.2 default;have g:=aC zi (by omega) h.1
 have f:=aC zh (by omega) h.2
 have e:=av zh (by omega) h.2
 have m:=cg aG b ⟨[],[],[],[]⟩;have d:=aC aG (by omega) b
 have c:=av aG (by omega) b
 exact Spec.y j (ax [218]) func160 [] [.er 13 (nat body),.prop g,.prop i,.eq 16 o,.prop f,.prop e,.eq 19 n,.er 24 (nat body),.prop d,.prop c,.eq 26 m,.call at']
theorem Vo(b:aa G)(l:Lk)(a:As){j:Jt}(c:j.kind=0)(g:jL l j.a j.p)(f:jL l j.b j.on)(a1:j.a<a.bs.length)(h:j.b<a.bs.length)(e:xe G l a j.a j.p)(d:xe G l a j.b j.on)
  (s:Spec zZq G 161 [aP a.t,iX (b9 l a j.a j.p),iX (b9 l a j.b j.on)] (.aY [bool true,.lit .nilIface])):Spec zZq G 97 [g7 l,b8 a,JtD j] (bool true):=by
 obtain⟨i,k,p,jp,o,n,m⟩:=j;simp only at c;subst c;exact Spec.y b (ax HX) func97 [] [.call (Ov b l a g a1 e),.call (Ov b l a f h d),.call s]
theorem NN(b:aa G)(l:Lk)(a:As){j:Jt}(c:j.kind=1)(k:jL l j.a j.p)(i:jL l j.b j.on)(h:jL l j.b j.to)(a1:j.a<a.bs.length)(d:j.b<a.bs.length)(g:xe G l a j.a j.p)(f:xe G l a j.b j.on)(e:xe G l a j.b j.to)
  (s:Spec zZq G 162 [aP a.t,iX (b9 l a j.b j.on),iX (b9 l a j.b j.to),iX (b9 l a j.a j.p)] (.aY [int 0,.lit .nilIface])):Spec zZq G 97 [g7 l,b8 a,JtD j] (bool true):=by
 obtain⟨m,n,r,jp,q,p,o⟩:=j;simp only at c;subst c;exact Spec.y b (ax HX) func97 [] [.call (Ov b l a k a1 g),.call (Ov b l a i d f),.call (Ov b l a h d e),.call s]
end Tw
end Lw
namespace Lw
namespace fL
set_option synthInstance.maxSize 100000
set_option synthInstance.maxHeartbeats 2000000
open zY fw
section
variable {K:Type} [zY K]
theorem rg3(ρ:List K){a b p q l g k d:K}(c n m:K){e f:Ex}(o:p=q)(s:l=g)(r:k=d)[i:Qt ρ a e][j:Qt ρ (b+c*(p-q)+n*(l-g)+m*(k-d)) f](h:(Ex.sub e f).norm=[]:=by kernel_rfl):a=b:=by
 have:=rg ρ (a:=a) (b:=b+c*(p-q)+n*(l-g)+m*(k-d)) h;rw[this,fx.2 o,fx.2 s,fx.2 r,cO,cO,cO,add_zero',add_zero',add_zero']
end
section
variable {K:Type} [fw K]
theorem afR:(1:K)+1≠0:=uq (fY jM jM)
theorem RI{d:K}(h:d≠0):d+d≠0:=by
 have e:d+d=(1+1)*d:=rg [d];rw[e];exact KQ afR h
theorem aej{w e:K}(hw:w≠0)(h:w*e=0):e=0:=(mul_eq_zero h).resolve_left hw
theorem pN{w a b:K}(hw:w≠0)(h:w*(a-b)=0):a=b:=fx.1 (aej hw h)
theorem TJ{v1 v2 G H a b d S W r:K}(h:d=v1*v1+v2*v2)(i:S=a+d-b)(e:W=d+d)(d0:d≠0)(f:G*W=S)(j:H*W=r)(g:r*r=(1+1+1+1)*(a*d)-S*S):
  (G*v1-H*v2)*(G*v1-H*v2)+(G*v2+H*v1)*(G*v2+H*v1)=a∧(G*v1-H*v2-v1)*(G*v1-H*v2-v1)+(G*v2+H*v1-v2)*(G*v2+H*v1-v2)=b:=by
 have c:W≠0:=by rw[e];exact RI d0
 subst h i e;have k1:(G*v1-H*v2)*(G*v1-H*v2)+(G*v2+H*v1)*(G*v2+H*v1)=a:=by
  refine pN (KQ c c) ?_;exact rg3 [v1,v2,G,H,a,b,r] ((v1*v1+v2*v2)*(G*(v1*v1+v2*v2+(v1*v1+v2*v2))+(a+(v1*v1+v2*v2)-b))) ((v1*v1+v2*v2)*(H*(v1*v1+v2*v2+(v1*v1+v2*v2))+r)) (v1*v1+v2*v2) f j g
 refine⟨k1,?_⟩;exact rg2 [v1,v2,G,H,a,b,r] 1 (-1) k1 f
theorem adG{v1 v2 b a G R Q E C r:K}(d:Q=v1*v1+v2*v2)(h:Q≠0)(f:E=v1*b+v2*a)(g:C=v1*a-v2*b)(e:G*Q=E+r)(c:r*r=Q*R-C*C):
  (G*v1-b)*(G*v1-b)+(G*v2-a)*(G*v2-a)=R:=by
 subst d f g;refine pN h ?_;exact rg2 [v1,v2,b,a,G,R,r] (G*(v1*v1+v2*v2)-(v1*b+v2*a)+r) 1 e c
theorem af_{b a e d c s n:K}(i:n=b*b+a*a)(f:n≠0)(h:c*n=b*e+a*d)(g:s*n=b*d-a*e)(hw:e*e+d*d=n):
  c*c+s*s=1∧c*b-s*a=e∧s*b+c*a=d:=by
 subst i;refine⟨?_,?_,?_⟩
 ·refine pN (KQ f f) ?_
  exact rg3 [b,a,e,d,c,s] (c*(b*b+a*a)+(b*e+a*d)) (s*(b*b+a*a)+(b*d-a*e)) (b*b+a*a) h g hw
 ·refine pN f ?_
  exact rg2 [b,a,e,d,c,s] b (-a) h g
 ·refine pN f ?_
  exact rg2 [b,a,e,d,c,s] a b h g
theorem acv{v1 v2 g f b a n d h r e c:K}(l:n=v1*v1+v2*v2)(o:d=b*b+a*a)(d0:d≠0)(m:h=v1*f-v2*g)(k:r*r=n*d-h*h)(j:e*d=r*b-h* -a)(i:c*d=r*a-h*b):
  e*e+c*c=n∧e*a-c*b=h:=by
 subst l o m;refine⟨?_,?_⟩
 ·refine pN (KQ d0 d0) ?_
  exact rg3 [v1,v2,g,f,b,a,r,e,c] (e*(b*b+a*a)+(r*b-(v1*f-v2*g)* -a)) (c*(b*b+a*a)+(r*a-(v1*f-v2*g)*b)) (b*b+a*a) j i k
 ·refine pN d0 ?_
  exact rg2 [v1,v2,g,f,b,a,r,e,c] a (-b) j i
theorem DL{a b:K}(h:a*a+b*b=0):a=0∧b=0:=by
 have c:a*a=0:=S4 (qX a) (aiY (qX b) (by
  have e:b*b= -(a*a)+(a*a+b*b):=rg [a,b];rw[h,add_zero']at e;exact e.symm))
 have d:b*b=0:=by rw[c,g8]at h;exact h
 exact⟨sE c,sE d⟩
end
end fL
end Lw
namespace Lw
open Go Go.RowKit Go.Proofs
namespace Tw
open fL
def Rt(r:Nat)(q:Rat):Prop:=∃(D:Nat)(z:Int),0<D∧D≤2^r∧q*(D:Rat)=(z:Rat)∧z.natAbs≤2^r
end Tw
namespace fL
open Tw
theorem iA.rt{r:Nat}{q:Rat}(h:iA r q):Rt r q:=⟨q.den,q.num,q.den_pos,h.2,Bx q,h.1⟩
end fL
namespace Tw
open fL
theorem VS{z:Int}{D B:Nat}(c:0<D)(b:D≤B)(a:z.natAbs≤B):(Rat.divInt z D).num.natAbs≤B∧(Rat.divInt z D).den≤B:=by
 refine⟨?_,?_⟩
 ·rw[Rat.num_divInt]
  have e:(D:Int).sign=1:=an0 (by omega)
  rw[e,Int.one_mul];exact alJ (Int.natAbs_ediv_le_natAbs _ _) a
 ·rw[Rat.den_divInt,apA (by omega)]
  exact alJ (amC _ _) (by simpa using b)
theorem Rt.rtb{r:Nat}{q:Rat}(h:Rt r q):iA r q:=by
 obtain⟨D,z,d,c,b,a⟩:=h;have d0:((D:Int):Rat)≠0:=by
  intro e;have:(D:Int)=0:=aoh.1 e;omega
 have e:q=Rat.divInt z D:=by
  rw[apr,←b,aoO,aoB];rw[show((D:Nat):Rat)=((D:Int):Rat)from rfl,aok _ d0,Rat.mul_one]
 rw[e];exact VS d c a
end Tw
namespace fL
open Tw
theorem iA.mul{m n:Nat}{p q:Rat}(h:iA m p)(a:iA n q):iA (m+n) (p*q):=by
 obtain⟨D,z,a0,a1,g,f⟩:=h.rt;obtain⟨E,y,e,d,c,b⟩:=a.rt;refine Rt.rtb ⟨D*E,z*y,amK a0 e,mul_pow a1 d,?_,by rw[anz];exact mul_pow f b⟩
 push_cast
 rw[←g,←c];grind
end fL
namespace Tw
open fL
theorem adg{m:Nat}:2^(m+1)=2^m+2^m:=by rw[al5];omega
end Tw
namespace fL
open Tw
theorem iA.add{m n:Nat}{p q:Rat}(h:iA m p)(b:iA n q):iA (m+n+1) (p+q):=by
 obtain⟨D,z,a0,a1,j,i⟩:=h.rt;obtain⟨E,y,g,a,f,d⟩:=b.rt;have k1:=mul_pow a1 a;have k2:=mul_pow i a;have k3:=mul_pow d a1;have e:=adg (m:=m+n);have c:n+m=m+n:=by omega
 rw[c]at k3;refine Rt.rtb ⟨D*E,z*E+y*D,amK a0 g,by omega,?_,?_⟩
 ·push_cast
  rw[←j,←f];grind
 ·have l:(z*(E:Int)).natAbs=z.natAbs*E:=by rw[anz,amW]
  have k:(y*(D:Int)).natAbs=y.natAbs*D:=by rw[anz,amW]
  have:=Int.natAbs_add_le (z*(E:Int)) (y*D);omega
theorem iA.neg{m:Nat}{p:Rat}(h:iA m p):iA m (-p):=by
 refine⟨?_,?_⟩
 ·rw[show(-p).num= -p.num from rfl,anZ];exact h.1
 ·exact h.2
theorem iA.sub{m n:Nat}{p q:Rat}(h:iA m p)(a:iA n q):iA (m+n+1) (p-q):=by
 rw[aoj];exact h.add a.neg
theorem iA.inv{m:Nat}{p:Rat}(h:iA m p)(b:p≠0):iA m p⁻¹:=by
 have d:p.num≠0:=by
  intro e;exact b (ao8.1 e)
 have e:=Bx p;have f:=aok p b;by_cases c:0<p.num
 ·refine Rt.rtb ⟨p.num.natAbs,p.den,by omega,h.1,?_,by rw[amW];exact h.2⟩
  have a:((p.num.natAbs:Nat):Rat)=(p.num:Rat):=by
   have:((p.num.natAbs:Nat):Int)=p.num:=by omega
   rw[show((p.num.natAbs:Nat):Rat)=(((p.num.natAbs:Nat):Int):Rat)from rfl,this]
  rw[a,←e]
  push_cast
  grind
 ·refine Rt.rtb ⟨p.num.natAbs,-(p.den:Int),by omega,h.1,?_,by rw[anZ,amW];exact h.2⟩
  have a:((p.num.natAbs:Nat):Rat)= -(p.num:Rat):=by
   have:((p.num.natAbs:Nat):Int)= -p.num:=by omega
   rw[show((p.num.natAbs:Nat):Rat)=(((p.num.natAbs:Nat):Int):Rat)from rfl,this]
   push_cast;rfl
  rw[a,←e]
  push_cast
  grind
theorem iA.int{m:Nat}(z:Int)(h:z.natAbs≤2^m):iA m (z:Rat):=⟨by simpa using h,am2 (by omega)⟩
theorem iA.zero(m:Nat):iA m 0:=iA.int 0 (amd _)
theorem iA.bt{m:Nat}{q:Rat}(h:iA m q):Bt m [q]:=by
 refine⟨q.den,q.num.natAbs,q.den_pos,h.2,h.1,fun i=>?_⟩
 cases i with
 |zero=>exact⟨q.num,Bx q,alE _⟩
 |succ i=>exact⟨0,by simp,by simp⟩
theorem iA.num{m:Nat}{q:Rat}(h:iA m q)(t:aS):aQ m t (iF q):=⟨Sh.mJ _ q,h.bt.short (Sh.single 0 q)⟩
theorem iA.qk{m:Nat}{q:Rat}(h:iA m q)(a:m≤NB):gU KB q:=h.bt.fit a q (alI.2 rfl)
end fL
namespace Tw
open fL
structure V2.B(r:Nat)(v:V2):Prop where
 x:iA r v.x
 y:iA r v.y
theorem V2.B.mono{r m:Nat}{v:V2}(h:V2.B r v)(a:r≤m):V2.B m v:=⟨h.x.mono a,h.y.mono a⟩
theorem V2.B.sub{r:Nat}{v w:V2}(h:V2.B r v)(a:V2.B r w):V2.B (r+r+1) (v.sub w):=⟨h.x.sub a.x,h.y.sub a.y⟩
theorem V2.B.fit{r:Nat}{v:V2}(h:V2.B r v)(a:r≤NB):v.Fit:=⟨h.x.qk a,h.y.qk a⟩
theorem V2.B.sq{r:Nat}{v:V2}(h:V2.B r v):iA (r+r+(r+r)+1) v.sq:=(h.x.mul h.x).add (h.y.mul h.y)
theorem V2.B.XU{r:Nat}{v:V2}(h:V2.B r v)(a:r+r+(r+r)+1≤NB):v.wJ:=⟨h.fit (by omega),(h.x.mul h.x).qk (by omega),(h.y.mul h.y).qk (by omega),h.sq.qk a⟩
theorem V2.B.t_{r:Nat}{v w:V2}(h:V2.B r v)(a:V2.B r w):iA (r+r+(r+r)+1) (v.t_ w):=(h.x.mul a.y).sub (h.y.mul a.x)
variable {t T:aS} {δ η:Nat}
theorem aQ.add{m n:Nat}{a b:List Rat}(d:aQ m t a)(c:aQ n t b):aQ (m+n+1) t (o9 a b):=(d.plus c).short
theorem aQ.sub{m n:Nat}{a b:List Rat}(d:aQ m t a)(c:aQ n t b):aQ (m+n+1) t (jg a b):=(d.plus c.minus).short
theorem aQ.neg{n:Nat}{a:List Rat}(b:aQ n t a):aQ n t (xI a):=b.minus.short
theorem aQ.mul{m n:Nat}{a b:List Rat}(e:n7 δ t)(d:aQ m t a)(c:aQ n t b):aQ (m+n+tb δ t.length) t (mulL t a b):=(d.times e c).short
end Tw
namespace fL
open Tw
variable {t T:aS} {δ η:Nat}
theorem fQ.grow{n:Nat}{l:List (List Rat)}(h:fQ n t l){m:List (List Rat)}(j:∀a∈m,a∈l∨∃b c,b∈l∧c∈l∧(a=o9 b c∨a=jg b c)):fQ (n+1) t m:=by
 obtain⟨D,B,k,p,o,i⟩:=h.ms;have e:2^(n+1)=2*2^n:=by rw[al5];omega
 refine⟨fun a g=>?_,D,B+B,k,by omega,by omega,fun a g=>?_⟩
 ·obtain g|⟨b,c,f,d,rfl|rfl⟩:=j a g
  ·exact h.sh a g
  ·exact(h.sh b f).add (h.sh c d)
  ·exact(h.sh b f).sub (h.sh c d)
 ·obtain g|⟨b,c,f,d,rfl|rfl⟩:=j a g
  ·exact(i a g).mono (by omega)
  ·exact((i b f).plus (i c d)).short ((h.sh b f).plus (h.sh c d))
  ·exact((i b f).plus (i c d).minus).short ((h.sh b f).plus (h.sh c d).minus)
theorem fQ.Yv{n r:Nat}{l:List (List Rat)}(g:iU t.length t)(h:fQ n t l){x y:Rat}(f:iA r x)(e:iA r y){p:List (List Rat)}
  (j:∀a∈p,a∈l∨∃b q,b∈l∧(q=x∨q=y)∧(a=mulL t b (iF q)∨a=mulL t (iF q) b)):fQ (n+r+r) t p:=by
 obtain⟨D,B,v,u,s,k⟩:=h.ms;have i:∀q:Rat,Sh 0 (iF q)∧(iF q).getD 0 0=q:=fun q=>⟨Sh.mJ 0 q,by unfold iF;rw[j5 (Sh.single 0 q)];rfl⟩
 refine⟨fun a d=>?_,D*(x.den*y.den),B*(2^r*2^r),amK v (amK x.den_pos y.den_pos),?_,?_,fun a d=>?_⟩
 ·obtain d|⟨b,q,c,_,rfl|rfl⟩:=j a d
  ·exact h.sh a d
  ·exact(h.sh b c).mul g (Sh.mJ _ q)
  ·exact(Sh.mJ _ q).mul g (h.sh b c)
 ·rw[anl];exact mul_pow u (mul_pow f.2 e.2)
 ·rw[anl];exact mul_pow s (mul_pow (alE _) (alE _))
 ·obtain d|⟨b,q,c,o,w⟩:=j a d
  ·exact((k a d).scale (x.den*y.den)).mono (amc _ (al' f.2 e.2))
  ·have m:=(k b c).rat (t:=t) (h.sh b c) (i q).1 (i q).2
   have key:Ms (D*q.den) (B*q.num.natAbs) a:=by
    rcases w with rfl|rfl
    ·exact m.1.short (fM _ _ _ g (h.sh b c) (Sh.mJ _ q)).1
    ·exact m.2.short (fM _ _ _ g (Sh.mJ _ q) (h.sh b c)).1
   rcases o with rfl|rfl
   ·have:=key.scale y.den
    rw[alQ,alQ]at this;exact this.mono (amc _ (al' f.1 e.2))
   ·have:=key.scale x.den
    rw[alQ,alQ,alS q.den]at this;exact this.mono (amc _ (al' e.1 f.2))
theorem fQ.Mh{n r:Nat}(f:iU t.length t){c s:List Rat}{l:List (List Rat)}(h:fQ n t (c::s::l)){x y:Rat}(e:iA r x)(d:iA r y):
  fQ (n+r+r) t [mulL t c (iF x),mulL t s (iF y),mulL t s (iF x),mulL t c (iF y)]∧fQ (n+r+r+1) t ((tI t c s (xE x y)).1::(tI t c s (xE x y)).2::c::s::l):=by
 have k:=h.Yv f e d (p:=mulL t c (iF x)::mulL t s (iF y)::mulL t s (iF x)::mulL t c (iF y)::c::s::l) (by
  intro a b;simp only[List.mem_cons]at b;rcases b with rfl|rfl|rfl|rfl|b
  ·exact .inr ⟨c,x,by simp,.inl rfl,.inl rfl⟩
  ·exact .inr ⟨s,y,by simp,.inr rfl,.inl rfl⟩
  ·exact .inr ⟨s,x,by simp,.inl rfl,.inl rfl⟩
  ·exact .inr ⟨c,y,by simp,.inr rfl,.inl rfl⟩
  ·exact .inl (by simpa using b))
 refine⟨k.sub (by intro a b;simp only[List.mem_cons,List.not_mem_nil,or_false]at b⊢;rcases b with h|h|h|h<;>simp[h]),k.grow fun a b=>?_⟩
 simp only[List.mem_cons]at b;rcases b with rfl|rfl|b
 ·exact .inr ⟨mulL t c (iF x),mulL t s (iF y),by simp,by simp,.inr rfl⟩
 ·exact .inr ⟨mulL t s (iF x),mulL t c (iF y),by simp,by simp,.inl rfl⟩
 ·exact .inl (by simp only[List.mem_cons];exact .inr (.inr (.inr (.inr b))))
end fL
namespace Tw
open fL
variable {t T:aS} {δ η:Nat}
def vr(n:Nat)(t:aS)(b:Pl):Prop:=fQ n t [b.c,b.s,b.x,b.y]
def lJ(n:Nat)(t:aS)(p:Pt):Prop:=fQ n t [p.1,p.2]
theorem vr.mono{m n:Nat}{b:Pl}(h:vr m t b)(a:m≤n):vr n t b:=fQ.mono h a
theorem lJ.mono{m n:Nat}{p:Pt}(h:lJ m t p)(a:m≤n):lJ n t p:=fQ.mono h a
theorem lJ.x{n:Nat}{p:Pt}(h:lJ n t p):aQ n t p.1:=h.num (by simp)
theorem lJ.y{n:Nat}{p:Pt}(h:lJ n t p):aQ n t p.2:=h.num (by simp)
theorem lJ.ok{n:Nat}{p:Pt}(h:lJ n t p)(a:n≤MB):fP t p:=⟨h.x.mono a,h.y.mono a⟩
theorem vr.ok{n:Nat}{b:Pl}(h:vr n t b)(a:n≤MB):aeG t b:=⟨(fQ.num h (by simp)).mono a,(fQ.num h (by simp)).mono a,(fQ.num h (by simp)).mono a,(fQ.num h (by simp)).mono a⟩
end Tw
namespace fL
open Tw
variable {t T:aS} {δ η:Nat}
theorem iA.pt{r:Nat}{x y:Rat}(c:iA r x)(b:iA r y)(t:aS):lJ (r+r) t (xE x y):=by
 refine((fQ.one (c.num t)).both (fQ.one (b.num t))).sub fun a d=>?_
 simpa [xE]using d
end fL
namespace Tw
open fL
variable {t T:aS} {δ η:Nat}
theorem ahW{n r:Nat}(p:iU t.length t){b:Pl}(h:vr n t b){x y:Rat}(o:iA r x)(j:iA r y):lJ (n+r+r+2) t (JT t b x y):=by
 have k:=(fQ.Mh p (c:=b.c) (s:=b.s) (l:=[b.x,b.y]) h o j).2;refine k.grow fun a d=>?_
 simp only[List.mem_cons,List.not_mem_nil,or_false]at d;have m:∀{z a1 i g f e:List Rat},z∈[a1,i,g,f,z,e]∧z∈[a1,i,g,f,e,z]∧z∈[z,a1,i,g,f,e]∧z∈[a1,z,i,g,f,e]:=by simp
 rcases d with d|d
 ·exact .inr ⟨(tI t b.c b.s (xE x y)).1,b.x,m.2.2.1,m.1,.inl (d.trans (by simp only[JT,zz]))⟩
 ·exact .inr ⟨(tI t b.c b.s (xE x y)).2,b.y,m.2.2.2,m.2.1,.inl (d.trans (by simp only[JT,zz]))⟩
variable {G:World→Prop}
theorem Mf(f:aa G)(e:b7 δ t){n r:Nat}{c s:List Rat}(h:fQ n t [c,s]){x y:Rat}(d:iA r x)(b:iA r y)(a:n+r+r≤MB):
  Spec zZq G 253 [aP t,aA c,aA s,iX (xE x y)] (.aY [iX (tI t c s (xE x y)),.lit .nilIface]):=by
 have k:=(fQ.Mh e.b.ok.sh (l:=[]) h d b).1;exact abX f e ((h.num (by simp)).mono (by omega)) ((h.num (by simp)).mono (by omega)) ⟨(d.num t).mono (by omega),(b.num t).mono (by omega)⟩ ((k.num (by simp[xE])).mono a) ((k.num (by simp[xE])).mono a) ((k.num (by simp[xE])).mono a) ((k.num (by simp[xE])).mono a)
theorem aer(i:aa G)(f:b7 δ t){n r:Nat}{b:Pl}(h:vr n t b){x y:Rat}(e:iA r x)(d:iA r y)(j:n+r+r+2≤MB):
  Spec zZq G 218 [aP t,jB b,F x,F y] (.aY [iX (JT t b x y),.lit .nilIface]):=by
 have k:=(fQ.Mh f.b.ok.sh (c:=b.c) (s:=b.s) (l:=[b.x,b.y]) h e d).2;have m:MB≤NB:=rl;exact ah6 i f (vr.ok h (by omega)) (e.qk (by omega)) (d.qk (by omega)) (Mf i f (fQ.sub h (by intro a g;simp only[List.mem_cons,List.not_mem_nil,or_false]at g⊢;rcases g with h|h<;>simp[h])) e d (by omega)) ⟨(k.num (by simp)).mono (by omega),(k.num (by simp)).mono (by omega)⟩
theorem B0(e:aa G)(d:b7 δ t){m:Nat}{p q:Pt}(c:fP t p)(b:fP t q)(g:aQ m t (mulL t p.1 q.1))(f:aQ m t (mulL t p.2 q.2))(a:m≤MB):
  Spec zZq G 158 [aP t,iX p,iX q] (.aY [aA (ta t p q),.lit .nilIface]):=aeE e d c b (g.mono a) (f.mono a)
theorem JL(e:aa G)(d:b7 δ t){m:Nat}{p q:Pt}(c:fP t p)(b:fP t q)(g:aQ m t (mulL t p.1 q.2))(f:aQ m t (mulL t p.2 q.1))(a:m≤MB):
  Spec zZq G 252 [aP t,iX p,iX q] (.aY [aA (kX t p q),.lit .nilIface]):=WZ e d c b (g.mono a) (f.mono a)
theorem Ad{m n:Nat}(e:n7 δ t){p q:Pt}(d:lJ m t p)(c:lJ n t q):
  fQ (m+n+tb δ t.length) t [mulL t p.1 q.1,mulL t p.2 q.2,mulL t p.1 q.2,mulL t p.2 q.1]:=by
 refine fQ.F0 e d c fun a b=>?_
 simp only[List.mem_cons,List.not_mem_nil,or_false]at b;rcases b with rfl|rfl|rfl|rfl
 ·exact⟨p.1,q.1,by simp,by simp,.inl rfl⟩
 ·exact⟨p.2,q.2,by simp,by simp,.inl rfl⟩
 ·exact⟨p.1,q.2,by simp,by simp,.inl rfl⟩
 ·exact⟨p.2,q.1,by simp,by simp,.inl rfl⟩
theorem G4{m n:Nat}(e:n7 δ t){p q:Pt}(d:lJ m t p)(c:lJ n t q):fQ (m+n+tb δ t.length+1) t [ta t p q,kX t p q]:=by
 refine(Ad e d c).afV fun a b=>?_
 simp only[List.mem_cons,List.not_mem_nil,or_false]at b;rcases b with rfl|rfl
 ·exact⟨mulL t p.1 q.1,mulL t p.2 q.2,by simp,by simp,.inl rfl⟩
 ·exact⟨mulL t p.1 q.2,mulL t p.2 q.1,by simp,by simp,.inr rfl⟩
theorem tK{m n:Nat}{p q:Pt}(d:lJ m t p)(c:lJ n t q):lJ (m+n+1) t (fD p q):=by
 refine(fQ.both d c).afV fun a b=>?_
 simp only[List.mem_cons,List.not_mem_nil,or_false]at b;rcases b with rfl|rfl
 ·exact⟨p.1,q.1,by simp,by simp,.inr rfl⟩
 ·exact⟨p.2,q.2,by simp,by simp,.inr rfl⟩
theorem aea(T:aS)(a b:List Rat):wu T a b=mulL T a (iS T T.length b):=rfl
theorem Q_{n:Nat}(d:n7 δ t){b:List Rat}(c:aQ n t b)(f:a7 t b≠0)(x:List Rat):aQ (ib δ t.length n) (t++[x]) (iS (t++[x]) (t++[x]).length b):=by
 have h:=c.inv d f;have e:iS (t++[x]) (t++[x]).length b=iS t t.length b:=Te _ _ _ (by simp) (Sd.snoc t x) (fun i a=>by rw[Sd.snoc t x i a];exact d.ok.sh i a) c.sh
 rw[e];exact⟨h.sh.mono (by simp),h.bt⟩
end Tw
namespace fL
open Tw
variable {t T:aS} {δ η:Nat}
variable {G:World→Prop}
theorem fQ.quot{m i:Nat}{l:List (List Rat)}(j:n7 η T)(h:fQ m T l){b:List Rat}(f:aQ i T (iS T T.length b)){p:List (List Rat)}(d:∀a∈p,∃c,c∈l∧a=wu T c b):fQ (m+i+tb η T.length) T p:=by
 refine fQ.F0 j h (fQ.one f) fun a g=>?_
 obtain⟨c,e,rfl⟩:=d a g;exact⟨c,_,e,alI.2 rfl,.inl rfl⟩
end fL
namespace Tw
open fL
variable {t T:aS} {δ η:Nat}
variable {G:World→Prop}
theorem adN(T:aS)(k:Nat){q:Rat}(a:q≠0):iS T k (iF q)=iF q⁻¹:=by
 have e:iF q=[q]:=by unfold iF;rw[rV,apA a]
 have b:q⁻¹≠0:=fun e=>by
  have:=aok q a;rw[e,apx]at this;exact apC this (by decide)
 have c:iF q⁻¹=[q⁻¹]:=by unfold iF;rw[rV,apA b]
 rw[e,c];cases k with
 |zero=>rfl
 |succ k=>rw[iS,rV,apA a];rfl
end Tw
namespace fL
open Tw
variable {t T:aS} {δ η:Nat}
variable {G:World→Prop}
theorem fQ.aiK{n r:Nat}{l:List (List Rat)}(i:iU t.length t)(h:fQ n t l){q:Rat}(d:iA r q)(b:q≠0){p:List (List Rat)}(e:∀a∈p,∃c,c∈l∧a=wu t c (iF q)):fQ (n+r+r) t p:=by
 refine h.Yv i (d.inv b) (d.inv b) fun a g=>?_
 obtain⟨c,f,rfl⟩:=e a g;exact .inr ⟨c,q⁻¹,f,.inl rfl,.inl (by rw[aea,adN _ _ b])⟩
end fL
namespace Tw
open fL
variable {t T:aS} {δ η:Nat}
variable {G:World→Prop}
theorem SD(a:me t)(q:Rat):a7 t (iF q)=rW q:=by
 obtain⟨K,_,ι,s,b⟩:=a.model t.length (alE _);rw[lN ι s a.sh b (Sh.mJ _ q),jP,←Cy]
end Tw
end Lw
namespace Lw
open Go Go.RowKit Go.Proofs
namespace Tw
open fL
variable {G:World→Prop} {t T:aS} {δ η:Nat}
theorem uv{α:Type}{a x y:α}(h:a∈[x,y]):a=x∨a=y:=by simpa using h
theorem ai3{α:Type}{a x y z w:α}(h:a∈[x,y,z,w]):a=x∨a=y∨a=z∨a=w:=by simpa using h
theorem aiI{n r:Nat}(e:iU t.length t){w:Pt}(hw:lJ n t w){x y:Rat}(c:iA r x)(b:iA r y):
  fQ (n+r+r) t [mulL t (iF x) w.1,mulL t (iF y) w.2,mulL t (iF x) w.2,mulL t (iF y) w.1]:=by
 refine fQ.aiJ e hw c b fun a d=>?_
 rcases ai3 d with rfl|rfl|rfl|rfl
 ·exact⟨w.1,x,by simp,.inl rfl,.inr rfl⟩
 ·exact⟨w.2,y,by simp,.inr rfl,.inr rfl⟩
 ·exact⟨w.2,x,by simp,.inl rfl,.inr rfl⟩
 ·exact⟨w.1,y,by simp,.inr rfl,.inr rfl⟩
theorem LC(r:aa G)(j:b7 η T){u p:V2}{w o:Pt}{b d f n y m:Nat}(hu:V2.B b u)(i:V2.B d p)(s:u.sq≠0)(hw:lJ f T w)(C:lJ n T o)
  (K:y=f+2*b+1+2*(4*b+1)) (L:m=y+2*d+2+n) (H:m≤MB) (B:sb η T.length (4*b+1)≤NB) (F:ib η T.length (4*b+1)≤MB):
  BOk G η T u w p o∧vr m T (rj T u w p o):=by
 have I:MB≤NB:=rl;have k:=j.b.ok.sh;have g:iA (4*b+1) u.sq:=hu.sq.mono (by omega)
 have J:4*b+1≤NB:=alJ (qZ _ _ _) B;have k4:=aiI k hw hu.x hu.y;have q:fQ (f+b+b+1) T [ta T (l_ u) w,kX T (l_ u) w]:=by
  refine k4.afV fun a c=>?_
  rcases uv c with rfl|rfl
  ·exact⟨mulL T (iF u.1) w.1,mulL T (iF u.2) w.2,by simp,by simp,.inl rfl⟩
  ·exact⟨mulL T (iF u.1) w.2,mulL T (iF u.2) w.1,by simp,by simp,.inr rfl⟩
 have A:fQ (f+b+b+1+(4*b+1)+(4*b+1)) T [Cd T u w,Cc T u w]:=by
  refine q.aiK k g s fun a c=>?_
  rcases uv c with rfl|rfl
  ·exact⟨ta T (l_ u) w,by simp,rfl⟩
  ·exact⟨kX T (l_ u) w,by simp,rfl⟩
 have z:=fQ.Mh k (l:=[]) A i.x i.y;have D:fQ (f+b+b+1+(4*b+1)+(4*b+1)+d+d+1) T [(ye T u w p).1,(ye T u w p).2]:=z.2.sub fun a c=>by
  rcases uv c with h|h
  ·rw[h];exact alW
  ·rw[h];exact al_ _ alW
 have E:fQ (f+b+b+1+(4*b+1)+(4*b+1)+d+d+1+n) T [(ye T u w p).1,(ye T u w p).2,Cd T u w,Cc T u w,o.1,o.2]:=z.2.both C;have x:fP T (l_ u):=⟨(hu.x.num T).mono (by omega),(hu.y.num T).mono (by omega)⟩
 have v:fP T w:=hw.ok (by omega)
 refine⟨⟨hu.XU (by omega),i.fit (by omega),B0 r j x v (k4.num (by simp[l_,xE])) (k4.num (by simp[l_,xE])) (by omega),JL r j x v (k4.num (by simp[l_,xE])) (k4.num (by simp[l_,xE])) (by omega),
  (q.num (by simp)).mono (by omega),(q.num (by simp)).mono (by omega),⟨_,g.num T,B,F⟩,by rw[SD j.b.ok];exact fun e=>s ((A7 _).1 e),Mf r j A i.x i.y (by omega),C.ok (by omega),lJ.ok (p:=ye T u w p) D (by omega)⟩,?_⟩
 refine fQ.mono (E.grow fun a c=>?_) (by omega)
 rcases ai3 c with rfl|rfl|rfl|rfl
 ·exact .inl (by simp[rj])
 ·exact .inl (by simp[rj])
 ·exact .inr ⟨o.1,(ye T u w p).1,by simp,by simp,.inr rfl⟩
 ·exact .inr ⟨o.2,(ye T u w p).2,by simp,by simp,.inr rfl⟩
theorem C6{α:Type}(l:List α)(x d:α):(l++[x]).getD l.length d=x:=by simp[List.getD_eq_getElem?_getD]
theorem w5.snoc{n:Nat}{x:List Rat}(h:w5 δ t)(d:Bt n x):w5 (δ+n) (t++[x]):=by
 obtain⟨D,B,a1,c,l,k⟩:=h;obtain⟨E,C,i,b,g,f⟩:=d;refine⟨D*E,max (B*E) (C*D),amK a1 i,mul_pow c b,Nat.max_le.2 ⟨mul_pow l b,by rw[amR];exact mul_pow g c⟩,fun j=>?_⟩
 rcases ano j t.length with a|a|a
 ·have e:(t++[x]).getD j []=t.getD j []:=by simp only[List.getD_eq_getElem?_getD,List.getElem?_append_left a]
  rw[e];exact((k j).scale E).mono (aol _ _)
 ·rw[a,C6]
  have:=f.scale D;rw[alS E]at this;exact this.mono (aoe _ _)
 ·have e:(t++[x]).getD j []=[]:=by rw[alD,alX (by simp;omega)];rfl
  rw[e];exact .nil _ _
theorem P'{a:List Rat}(c:Sh t.length a)(d:iU t.length t)(x:List Rat):a7 (t++[x]) a=a7 t a:=
 FG _ _ _ (by simp) (Sd.snoc t x) (fun i b=>by rw[Sd.snoc t x i b];exact d i b) c
theorem Sg{k:Nat}{a:List Rat}:Sh k (bA a (2^k)):=.of (fe a _)
theorem Mx(b:me t){a:List Rat}(d:Sh t.length a):a7 t (bA a (2^t.length))=a7 t a:=by
 obtain⟨K,_,ι,s,c⟩:=b.model t.length (alE _);rw[lN ι s b.sh c Sg,lN ι s b.sh c d];unfold vl;rw[BB]
theorem aQ.wide{n:Nat}{a:List Rat}(h:aQ n t a):aQ n t (bA a (2^t.length)):=⟨Sg,h.bt.part fun i=>by
 rw[ke];split
 ·exact .inr ⟨i,rfl⟩
 ·exact .inl rfl⟩
def tN(t:aS)(d:List Rat):aS:=t++[bA d (2^t.length)]
theorem gF(d:List Rat):(tN t d).length=t.length+1:=by simp[tN]
theorem af6(b:me t){d:List Rat}(g:Sh t.length d)(f:0≤a7 t d)(i:t.length≤4):me (tN t d):=by
 refine⟨by rw[gF];omega,fun j a=>?_,fun j a=>?_⟩
 ·rw[gF]at a
  rcases alU j t.length with h|h
  ·have:=Sd.snoc t (bA d (2^t.length)) j h
   rw[show tN t d=t++[bA d (2^t.length)]from rfl,this]
   exact b.sh j h
  ·have:j=t.length:=by omega
   subst this;rw[show tN t d=t++[bA d (2^t.length)]from rfl,C6,fe]
 ·rw[gF]at a
  rcases alU j t.length with h|h
  ·have e:=Sd.snoc t (bA d (2^t.length)) j h
   have c:(tN t d).take j=t.take j:=by rw[show tN t d=t++[bA d (2^t.length)]from rfl,apc (by omega)]
   rw[c,show tN t d=t++[bA d (2^t.length)]from rfl,e]
   exact b.nn j h
  ·have:j=t.length:=by omega
   subst this;have c:(tN t d).take t.length=t:=by rw[show tN t d=t++[bA d (2^t.length)]from rfl,apc (by omega),ank]
   rw[c,show tN t d=t++[bA d (2^t.length)]from rfl,C6]
   have:=Mx b g;unfold a7 at this f;rw[this];exact f
theorem X_(b:b7 δ t){d:List Rat}{n:Nat}(a:aQ n t d)(g:0≤a7 t d)(f:t.length≤4)(e:sb (δ+n) (t.length+1) (δ+n)≤NB)(c:tb (δ+n) (t.length+1)≤MB):b7 (δ+n) (tN t d):=
 ⟨⟨af6 b.b.ok a.sh g f,w5.snoc b.b.bt (aQ.wide a).bt,by rw[gF];exact e⟩,by rw[gF];exact c⟩
theorem aQ.up{n:Nat}{a:List Rat}(h:aQ n t a)(d:List Rat):aQ n (tN t d) a:=⟨h.sh.mono (by rw[gF];omega),h.bt⟩
end Tw
namespace fL
open Tw
variable {t:aS}
theorem fQ.up{n:Nat}{l:List (List Rat)}(h:fQ n t l)(d:List Rat):fQ n (tN t d) l:=⟨fun a b=>(h.sh a b).mono (by rw[gF];omega),h.ms⟩
end fL
namespace Tw
open fL
variable {G:World→Prop} {t T:aS} {δ η:Nat}
theorem lJ.up{n:Nat}{p:Pt}(h:lJ n t p)(d:List Rat):lJ n (tN t d) p:=fQ.up h d
theorem vr.up{n:Nat}{b:Pl}(h:vr n t b)(d:List Rat):vr n (tN t d) b:=fQ.up h d
theorem UA(k:Nat):(eM k).length=2^(k+1):=by
 have:=dg k;have a:2^(k+1)=2^k+2^k:=by rw[al5];omega
 unfold eM;rw[amj,fe,amm,fe];omega
theorem Yh(k:Nat):Bt 0 (eM k):=by
 refine⟨1,1,by omega,by omega,by omega,fun i=>?_⟩
 have h:(eM k).getD i 0=0∨(eM k).getD i 0=1:=by
  unfold eM;rw[GP];split
  ·left;rw[ke];split<;>rfl
  ·generalize i-(bA [] (2^k)).length=j
   cases j with
   |zero=>right;rfl
   |succ j=>left;rw[amP,ke];split<;>rfl
 rcases h with h|h
 ·exact⟨0,by rw[h];simp,by simp⟩
 ·exact⟨1,by rw[h];simp,by simp⟩
theorem qi(d:List Rat):aQ 0 (tN t d) (eM t.length):=⟨.of (by rw[UA,gF]),Yh _⟩
theorem ajb{α:Type}{l:List α}(h:l.length≤3):l=[]∨(∃a,l=[a])∨(∃a b,l=[a,b])∨∃a b c,l=[a,b,c]:=by
 match l,h with
 |[],_=>exact .inl rfl
 |[a],_=>exact .inr (.inl ⟨a,rfl⟩)
 |[a,b],_=>exact .inr (.inr (.inl ⟨a,b,rfl⟩))
 |[a,b,c],_=>exact .inr (.inr (.inr ⟨a,b,c,rfl⟩))
theorem Lb(g:aa G)(a:b7 δ t)(c:δ≤NB){d:List Rat}{n:Nat}(f:aQ n t d)(j:n≤MB)(b:sb δ t.length n≤NB)(k:0≤a7 t d)(m:t.length≤3):
  Spec zZq G 207 [aP t,aA d] (.aY [aP (tN t d),aA (eM t.length),.lit .nilIface]):=by
 have hw:=aQ.wide f;have h:0≤a7 t (bA d (2^t.length)):=by rw[Mx a.b.ok f.sh];exact k
 have e:=f.mono j;unfold tN;clear f j k;rcases ajb m with rfl|⟨i,rfl⟩|⟨i,l,rfl⟩|⟨i,l,o,rfl⟩
 ·exact ala g a c e hw b h
 ·exact ak' g a c e hw b h
 ·exact ak_ g a c e hw b h
 ·exact N9 g a c e hw b h
theorem Tb{α:Type}{l:List α}(h:l.length=1):∃a,l=[a]:=ams.1 h
theorem ZO{α:Type}{l:List α}(h:l.length=2):∃a b,l=[a,b]:=by
 match l,h with
 |[a,b],_=>exact⟨a,b,rfl⟩
theorem afa{α:Type}{l:List α}(h:l.length=4):∃a b c d,l=[a,b,c,d]:=by
 match l,h with
 |[a,b,c,d],_=>exact⟨a,b,c,d,rfl⟩
theorem aja{α:Type}{l:List α}(h:l.length=8):∃a b c d e f g k,l=[a,b,c,d,e,f,g,k]:=by
 match l,h with
 |[a,b,c,d,e,f,g,k],_=>exact⟨a,b,c,d,e,f,g,k,rfl⟩
theorem sf(f:aa G)(u:n7 δ t)(y:δ≤NB)(A:t.length≤4):
  fF zZq G f315 [.ptr 0 0] (Cl t) (aP t) (Cl t)∧Spec zZq G 195 [aP t] (aP t):=by
 have d:∀j q,q∈t.getD j []→gU KB q:=fun j q z=>(u.bt.root j).fit y q z
 have e:=u.ok.sh
 match t,A with
 |[],_=>exact⟨akA f,alo f⟩
 |[g],_=>
  obtain⟨a0,rfl⟩:=Tb (e 0 (by simp))
  have c:=d 0;simp only[List.getD_cons_zero,List.mem_cons,List.not_mem_nil,or_false,forall_eq]at c;exact⟨akz f c,aln f c⟩
 |[g,s],_=>
  obtain⟨a0,rfl⟩:=Tb (e 0 (by simp))
  obtain⟨w,v,rfl⟩:=ZO (e 1 (by simp))
  have c:=d 0;have b:=d 1;simp only[List.getD_cons_zero,List.getD_cons_succ,List.mem_cons,List.not_mem_nil,or_false,forall_eq_or_imp,forall_eq]at c b;exact⟨aky f c b.1 b.2,alk f c b.1 b.2⟩
 |[g,s,x],_=>
  obtain⟨a0,rfl⟩:=Tb (e 0 (by simp))
  obtain⟨w,v,rfl⟩:=ZO (e 1 (by simp))
  obtain⟨c0,D,C,B,rfl⟩:=afa (e 2 (by simp))
  have c:=d 0;have b:=d 1;have a:=d 2;simp only[List.getD_cons_zero,List.getD_cons_succ,List.mem_cons,List.not_mem_nil,or_false,forall_eq_or_imp,forall_eq]at c b a;exact⟨akx f c b.1 b.2 a.1 a.2.1 a.2.2.1 a.2.2.2,alj f c b.1 b.2 a.1 a.2.1 a.2.2.1 a.2.2.2⟩
 |[g,s,x,E],_=>
  obtain⟨a0,rfl⟩:=Tb (e 0 (by simp))
  obtain⟨w,v,rfl⟩:=ZO (e 1 (by simp))
  obtain⟨c0,D,C,B,rfl⟩:=afa (e 2 (by simp))
  obtain⟨d0,d1,d2,d3,d4,d5,d6,d7,rfl⟩:=aja (e 3 (by simp))
  have c:=d 0;have b:=d 1;have a:=d 2;have h:=d 3;simp only[List.getD_cons_zero,List.getD_cons_succ,List.mem_cons,List.not_mem_nil,or_false,forall_eq_or_imp,forall_eq]at c b a h;obtain⟨r,p,o,n,m,l,k,i⟩:=h;exact⟨akw f c b.1 b.2 a.1 a.2.1 a.2.2.1 a.2.2.2 r p o n m l k i,ali f c b.1 b.2 a.1 a.2.1 a.2.2.1 a.2.2.2 r p o n m l k i⟩
end Tw
end Lw
namespace Lw
open Go Go.RowKit Go.Proofs
namespace Tw
open fL
variable {G:World→Prop} {t T:aS} {δ η:Nat}
theorem V2.sq_pos{v:V2}(h:v.sq≠0):rW v.sq=1:=by
 have a:fw.nn v.sq:=fw.QP (fw.qX v.x) (fw.qX v.y);rw[Cy (r7.id Rat)];rcases a with a|a
 ·exact fw.sG a
 ·exact apC a h
structure LV(r n:Nat)(t:aS)(h:Hd):Prop where
 p:V2.B r h.p
 c:V2.B r h.c
 o:lJ n t h.o
theorem LV.v{r n:Nat}{h:Hd}(H:LV r n t h):V2.B (2*r+1) h.v:=(H.c.sub H.p).mono (by omega)
theorem LV.rho{r n:Nat}{h:Hd}(H:LV r n t h):iA (8*r+5) h.v.sq:=H.v.sq.mono (by omega)
theorem LV.up{r n:Nat}{h:Hd}(H:LV r n t h)(d:List Rat):LV r n (tN t d) h:=⟨H.p,H.c,H.o.up d⟩
theorem yl.of{n m:Nat}{a:List Rat}(h:aQ n t a)(c:n≤m)(b:sb δ t.length m≤NB):yl δ t a:=⟨n,h,alJ (mj _ _ c) b⟩
theorem LV.cr{r n m:Nat}{h:Hd}(d:me t)(H:LV r n t h)(a:h.v.sq≠0)(e:n≤m)(c:8*r+5≤m)(f:m≤MB)(b:sb δ t.length m≤NB):zC δ t h.cr:=
 ⟨H.o.ok (by omega),(H.rho.num t).mono (by omega),.of (H.rho.num t) c b,by show a7 t (iF h.v.sq)=1;rw[SD d];exact V2.sq_pos a⟩
structure CSz(t:aS)(a b:Cr)(n1 nd nS nX:Nat):Prop where
 v:lJ (2*n1+1) t (cV a b)
 d:aQ nd t (cD t a b)
 s:aQ nS t (cS t a b)
 x:aQ nX t (cX t a b)
theorem abm(j:b7 δ t){A B:Hd}{r d b nS c:Nat}(q:LV r d t A)(p:LV r d t B)
  (v:b=4*d+3+tb δ t.length) (eS:nS=b+2*(8*r+5)+2) (w:c=(8*r+5+b+2*tb δ t.length+3)+(2*nS+tb δ t.length)+1) (x:c≤MB) (n:sb δ t.length c≤NB):
  W_ δ t A.cr B.cr∧CSz t A.cr B.cr d b nS c:=by
 have a:lJ (2*d+1) t (cV A.cr B.cr):=(tK p.o q.o).mono (by omega)
 have s:=Ad j.b a a;have h:aQ b t (cD t A.cr B.cr):=(fQ.num (G4 j.b a a) (by simp[cD])).mono (by omega)
 have o:=q.rho.num t;have u:=p.rho.num t;have i:=aQ.add o h;have k:aQ nS t (cS t A.cr B.cr):=(aQ.sub i u).mono (by omega)
 have f4:aQ 3 t (iF 4):=iA.num (iA.int (m:=3) 4 (by decide)) t
 have e:=aQ.mul j.b o h;have g:=aQ.mul j.b f4 e;have f:=aQ.mul j.b k k;have l:aQ c t (cX t A.cr B.cr):=(aQ.sub g f).mono (by omega)
 refine⟨⟨a.ok (by omega),(s.num (by simp)).mono (by omega),(s.num (by simp)).mono (by omega),h.mono (by omega),.of h (by omega) n,i.mono (by omega),k.mono (by omega),f4.mono (by omega),e.mono (by omega),g.mono (by omega),f.mono (by omega),l.mono (by omega),.of l (alE _) n⟩,⟨a,h,k,l⟩⟩
theorem afK(b:n7 δ t){a:List Rat}(c:Sh t.length a)(f:a7 t a≠0):a7 t (mulL t (iF 2) a)≠0:=by
 obtain⟨K,_,ι,s,d⟩:=b.ok.model t.length (alE _);rw[lN ι s b.ok.sh d c]at f;rw[lN ι s b.ok.sh d (Sh.mul b.ok.sh (Sh.mJ _ _) c),dW ι s b.ok.sh d (Sh.mJ _ _) c,jP,fw.Ki];intro e;rcases Int.mul_eq_zero.1 e with e|e
 ·rw[←Cy]at e
  exact apC e (by decide)
 ·exact f e
theorem Wx(e:b7 δ t){A B:Hd}{d j nS p b I f g:Nat}(r:lJ d t A.o)(c:CSz t A.cr B.cr d j nS p)(d0:a7 t (cD t A.cr B.cr)≠0)
  (u:b=j+2+tb δ t.length) (s:I=ib δ t.length b) (v:f=nS+I+tb δ t.length) (w:g=f+(2*d+1)+tb δ t.length+d+1) (o:sb δ t.length b≤NB) (x:g≤MB):
  ab' δ t A.cr B.cr∧lJ g t (HN t A.cr B.cr)∧aQ b t (Ec t A.cr B.cr)∧a7 t (Ec t A.cr B.cr)≠0∧aQ I t (iS t t.length (Ec t A.cr B.cr)):=by
 have f2:aQ 2 t (iF 2):=iA.num (iA.int (m:=2) 2 (by decide)) t
 have hw:aQ b t (Ec t A.cr B.cr):=(aQ.mul e.b f2 c.d).mono (by omega)
 have h:a7 t (Ec t A.cr B.cr)≠0:=afK e.b c.d.sh d0;have n:aQ I t (iS t t.length (Ec t A.cr B.cr)):=by rw[s];exact hw.inv e.b h
 have l:aQ f t (cG t A.cr B.cr):=(aQ.mul e.b c.s n).mono (by omega)
 have k:fQ (f+(2*d+1)+tb δ t.length) t [mulL t (cG t A.cr B.cr) (cV A.cr B.cr).1,mulL t (cG t A.cr B.cr) (cV A.cr B.cr).2]:=by
  refine fQ.F0 e.b (fQ.one l) c.v fun a i=>?_
  rcases uv i with rfl|rfl
  ·exact⟨_,(cV A.cr B.cr).1,alI.2 rfl,by simp,.inl rfl⟩
  ·exact⟨_,(cV A.cr B.cr).2,alI.2 rfl,by simp,.inl rfl⟩
 have q:lJ g t (HN t A.cr B.cr):=by
  refine fQ.mono ((fQ.both k r).grow fun a i=>?_) (by omega)
  rcases uv i with rfl|rfl
  ·exact .inr ⟨A.o.1,mulL t (cG t A.cr B.cr) (cV A.cr B.cr).1,by simp,by simp,.inl rfl⟩
  ·exact .inr ⟨A.o.2,mulL t (cG t A.cr B.cr) (cV A.cr B.cr).2,by simp,by simp,.inl rfl⟩
 exact⟨⟨f2.mono (by omega),⟨b,hw,o,by omega⟩,h,l.mono (by omega),(k.num (by simp)).mono (by omega),(k.num (by simp)).mono (by omega)⟩,q,hw,h,n⟩
theorem Om(E:b7 δ t){A B:Hd}{i H nS J e I q f d:Nat}(c:CSz t A.cr B.cr i H nS J)(r:b7 η (cT t A.cr B.cr))(M:lJ q t (HN t A.cr B.cr))(hw:aQ e t (Ec t A.cr B.cr))(w:a7 t (Ec t A.cr B.cr)≠0)
  (P:I=ib δ t.length e) (S:f=I+tb η (t.length+1)) (R:d=f+(2*i+1)+tb η (t.length+1)+q+1) (F:sb η (t.length+1) e≤NB) (K:ib η (t.length+1) e≤MB) (o:d≤MB):
  akb η t A.cr B.cr∧lJ d (cT t A.cr B.cr) (cP1 t A.cr B.cr)∧lJ d (cT t A.cr B.cr) (cP2 t A.cr B.cr):=by
 have Q:cT t A.cr B.cr=tN t (cX t A.cr B.cr):=rfl;have n:(cT t A.cr B.cr).length=t.length+1:=gF _;have y:=r.b.ok.sh;have C:aQ 0 (cT t A.cr B.cr) (eM t.length):=qi _;have N:aQ I (cT t A.cr B.cr) (iS (cT t A.cr B.cr) (cT t A.cr B.cr).length (Ec t A.cr B.cr)):=by rw[P];exact Q_ E.b hw w _
 have v:aQ f (cT t A.cr B.cr) (cH t A.cr B.cr):=(aQ.mul r.b C N).mono (by rw[n];omega)
 have g:iA 0 (-1:Rat):=(iA.int (m:=0) 1 (by decide)).neg
 have O:aQ 0 (cT t A.cr B.cr) (iF (-1)):=g.num _;have z:lJ (2*i+1) (cT t A.cr B.cr) (cV A.cr B.cr):=c.v.up _;have D:lJ (2*i+1) (cT t A.cr B.cr) (cN t A.cr B.cr):=by
  refine fQ.Yv y z g g fun a b=>?_
  rcases uv b with rfl|rfl
  ·exact .inr ⟨(cV A.cr B.cr).2,-1,by simp,.inl rfl,.inr rfl⟩
  ·exact .inl (by simp[cN])
 have j:aQ f (cT t A.cr B.cr) (cH' t A.cr B.cr):=by
  refine fQ.num (fQ.aiJ y (fQ.one v) g g (p:=[cH' t A.cr B.cr]) fun a b=>?_) (alI.2 rfl)
  rw[alI]at b;exact⟨cH t A.cr B.cr,-1,alI.2 rfl,.inl rfl,.inr (b.trans (by simp only[cH']))⟩
 have l:lJ q (cT t A.cr B.cr) (HN t A.cr B.cr):=M.up (cX t A.cr B.cr);have s:aQ e (cT t A.cr B.cr) (Ec t A.cr B.cr):=hw.up (cX t A.cr B.cr);have u:a7 (cT t A.cr B.cr) (Ec t A.cr B.cr)≠0:=by
  show a7 (t++[bA (cX t A.cr B.cr) (2^t.length)]) (Ec t A.cr B.cr)≠0;rw[P' hw.sh E.b.ok.sh];exact w
 have step:∀{x:List Rat},aQ f (cT t A.cr B.cr) x→aQ (d) (cT t A.cr B.cr) (mulL (cT t A.cr B.cr) x (cN t A.cr B.cr).1)∧aQ d (cT t A.cr B.cr) (mulL (cT t A.cr B.cr) x (cN t A.cr B.cr).2)∧lJ d (cT t A.cr B.cr) (dR (cT t A.cr B.cr) (HN t A.cr B.cr) x (cN t A.cr B.cr)):=by
  intro x L;have k:fQ (f+(2*i+1)+tb η (cT t A.cr B.cr).length) (cT t A.cr B.cr) [mulL (cT t A.cr B.cr) x (cN t A.cr B.cr).1,mulL (cT t A.cr B.cr) x (cN t A.cr B.cr).2]:=by
   refine fQ.F0 r.b (fQ.one L) D fun a b=>?_
   rcases uv b with rfl|rfl
   ·exact⟨_,(cN t A.cr B.cr).1,alI.2 rfl,by simp,.inl rfl⟩
   ·exact⟨_,(cN t A.cr B.cr).2,alI.2 rfl,by simp,.inl rfl⟩
  rw[n]at k;refine⟨(k.num (by simp)).mono (by omega),(k.num (by simp)).mono (by omega),fQ.mono ((fQ.both k l).grow fun a b=>?_) (by omega)⟩
  rcases uv b with h|h
  ·exact .inr ⟨(HN t A.cr B.cr).1,mulL (cT t A.cr B.cr) x (cN t A.cr B.cr).1,by simp,by simp,.inl (h.trans (by simp only[dR]))⟩
  ·exact .inr ⟨(HN t A.cr B.cr).2,mulL (cT t A.cr B.cr) x (cN t A.cr B.cr).2,by simp,by simp,.inl (h.trans (by simp only[dR]))⟩
 have s1:=step v;have s2:=step j;exact⟨⟨C.mono (by omega),⟨e,s,by rw[n];exact F,by rw[n];exact K⟩,u,O.mono (by omega),z.ok (by omega),l.ok (by omega),v.mono (by omega),(D.x.mono (by omega)),s1.1.mono o,s1.2.1.mono o,j.mono (by omega),s2.1.mono o,s2.2.1.mono o⟩,s1.2.2,s2.2.2⟩
end Tw
end Lw
