/- Part 12. -/
import Derived.Test.YtmcpfihkambgnaaGreatLw11
import Derived.RangeFuncNested
import Derived.RangeFuncLeaves
open Int renaming ofNat→zNq
open Go.Proofs.Tryz renaming prog→zZq
open Go.Proofs.Tryz
open Option renaming some.injEq→zIq
open Prod renaming mk.injEq→zJq
namespace Lw
open Go Go.RowKit Go.Proofs
namespace Tw
open fL
variable {G:World→Prop} {t T:aS} {δ η:Nat}
theorem Ht{m n i:Nat}(f:n7 δ t){p v:Pt}{k:List Rat}(d:lJ m t p)(e:aQ i t k)(c:lJ n t v):
  aQ (i+n+tb δ t.length) t (mulL t k v.1)∧aQ (i+n+tb δ t.length) t (mulL t k v.2)∧lJ (i+n+tb δ t.length+m+1) t (dR t p k v):=by
 have h:fQ (i+n+tb δ t.length) t [mulL t k v.1,mulL t k v.2]:=by
  refine fQ.F0 f (fQ.one e) c fun a b=>?_
  rcases uv b with rfl|rfl
  ·exact⟨_,v.1,alI.2 rfl,by simp,.inl rfl⟩
  ·exact⟨_,v.2,alI.2 rfl,by simp,.inl rfl⟩
 refine⟨h.num (by simp),h.num (by simp),(fQ.both h d).grow fun a b=>?_⟩
 rcases uv b with h|h
 ·exact .inr ⟨p.1,mulL t k v.1,by simp,by simp,.inl (h.trans (by simp only[dR]))⟩
 ·exact .inr ⟨p.2,mulL t k v.2,by simp,by simp,.inl (h.trans (by simp only[dR]))⟩
structure LSz(t:aS)(c:Cr)(p q:Pt)(n1 nQ nX:Nat):Prop where
 bv:lJ (2*n1+1) t (lV p q)
 bq:aQ nQ t (lQ t p q)
 be:aQ nQ t (lE t c p q)
 bx:aQ nX t (lX t c p q)
theorem ZQ(l:aa G)(a:b7 δ t){A:Hd}{p q:Pt}{r c b f:Nat}(w:LV r c t A)(j:lJ c t p)(u:lJ c t q)(x:a7 t (lQ t p q)=1)
  (C:b=4*c+3+tb δ t.length) (B:f=(b+(8*r+5)+tb δ t.length)+(2*b+tb δ t.length)+1) (D:f≤MB) (i:sb δ t.length f≤NB) (y:ib δ t.length b≤MB):
  aeI G δ t A.cr p q∧LSz t A.cr p q c b f:=by
 have d:lJ (2*c+1) t (lV p q):=(tK u j).mono (by omega)
 have hw:lJ (2*c+1) t (lW A.cr p):=(tK w.o j).mono (by omega)
 have v4:=Ad a.b d d;have h:=Ad a.b d hw;have g:aQ b t (lQ t p q):=(fQ.num (G4 a.b d d) (by simp[lQ])).mono (by omega)
 have v:aQ b t (lE t A.cr p q):=(fQ.num (G4 a.b d hw) (by simp[lE])).mono (by omega)
 have m:aQ b t (lC t A.cr p q):=(fQ.num (G4 a.b d hw) (by simp[lC])).mono (by omega)
 have z:aQ (8*r+5) t A.cr.r:=w.rho.num t;have s:=aQ.mul a.b g z;have o:=aQ.mul a.b m m;have k:aQ f t (lX t A.cr p q):=(aQ.sub s o).mono (by omega)
 have e:=d.ok (show 2*c+1≤MB by omega)
 have n:=hw.ok (show 2*c+1≤MB by omega)
 exact⟨⟨j.ok (by omega),u.ok (by omega),e,B0 l a e e (v4.num (by simp)) (v4.num (by simp)) (by omega),g.mono (by omega),.of g (by omega) i,x,B0 l a e n (h.num (by simp)) (h.num (by simp)) (by omega),JL l a e n (h.num (by simp)) (h.num (by simp)) (by omega),
  v.mono (by omega),m.mono (by omega),s.mono (by omega),o.mono (by omega),k.mono (by omega),.of k (alE _) i,⟨b,g,alJ (mj _ _ (by omega)) i,y⟩⟩,⟨d,g,v,k⟩⟩
theorem Va(e:b7 δ t){A:Hd}{p q:Pt}{b a h I d:Nat}(i:lJ b t p)(c:LSz t A.cr p q b a h)(g:a7 t (lQ t p q)=1)(l:I=ib δ t.length a)(m:d=a+I+tb δ t.length+(2*b+1)+tb δ t.length+b+1)(n:d≤MB):
  afB t A.cr p q∧lJ d t (dR t p (lF t A.cr p q) (lV p q)):=by
 have j:aQ I t (iS t t.length (lQ t p q)):=by rw[l];exact c.bq.inv e.b (by rw[g];decide)
 have f:aQ (a+I+tb δ t.length) t (lF t A.cr p q):=aQ.mul e.b c.be j;have k:=Ht e.b i f c.bv;exact⟨⟨f.mono (by omega),k.1.mono (by omega),k.2.1.mono (by omega)⟩,k.2.2.mono (by omega)⟩
theorem Nt(r:b7 δ t){A:Hd}{p q:Pt}{d a v I f:Nat}(x:lJ d t p)(c:LSz t A.cr p q d a v)(k:a7 t (lQ t p q)=1)(g:b7 η (lT t A.cr p q))
  (z:I=ib δ t.length a) (B:f=a+1+I+tb η (t.length+1)+(2*d+1)+tb η (t.length+1)+d+1) (u:sb η (t.length+1) a≤NB) (w:ib η (t.length+1) a≤MB) (C:f≤MB):
  aj_ η t A.cr p q∧lJ f (lT t A.cr p q) (dR (lT t A.cr p q) p (lG t A.cr p q) (lV p q))∧lJ f (lT t A.cr p q) (dR (lT t A.cr p q) p (lH t A.cr p q) (lV p q)):=by
 have e:(lT t A.cr p q).length=t.length+1:=gF _;have i:aQ 0 (lT t A.cr p q) (eM t.length):=qi _;have s:aQ I (lT t A.cr p q) (iS (lT t A.cr p q) (lT t A.cr p q).length (lQ t p q)):=by rw[z];exact Q_ r.b c.bq (by rw[k];decide) _
 have j:aQ a (lT t A.cr p q) (lE t A.cr p q):=c.be.up (lX t A.cr p q);have y:aQ a (lT t A.cr p q) (lQ t p q):=c.bq.up (lX t A.cr p q);have h:lJ (2*d+1) (lT t A.cr p q) (lV p q):=c.bv.up (lX t A.cr p q);have b:lJ d (lT t A.cr p q) p:=x.up (lX t A.cr p q);have o:aQ (a+1) (lT t A.cr p q) (lA t A.cr p q):=aQ.add j i;have n:aQ (a+1) (lT t A.cr p q) (lB t A.cr p q):=aQ.sub j i;have m:aQ (a+1+I+tb η (t.length+1)) (lT t A.cr p q) (lG t A.cr p q):=(aQ.mul g.b o s).mono (by rw[e];omega)
 have l:aQ (a+1+I+tb η (t.length+1)) (lT t A.cr p q) (lH t A.cr p q):=(aQ.mul g.b n s).mono (by rw[e];omega)
 have k1:=Ht g.b b m h;have k2:=Ht g.b b l h;rw[e]at k1 k2;have d0:a7 (lT t A.cr p q) (lQ t p q)≠0:=by
  show a7 (t++[bA (lX t A.cr p q) (2^t.length)]) (lQ t p q)≠0;rw[P' c.bq.sh r.b.ok.sh,k];decide
 exact⟨⟨i.mono (by omega),j.mono (by omega),o.mono (by omega),n.mono (by omega),⟨a,y,by rw[e];exact u,by rw[e];exact w⟩,d0,h.ok (by omega),b.ok (by omega),m.mono (by omega),l.mono (by omega),k1.1.mono (by omega),k1.2.1.mono (by omega),k2.1.mono (by omega),k2.2.1.mono (by omega)⟩,k1.2.2.mono (by omega),k2.2.2.mono (by omega)⟩
structure RpB(r n1:Nat)(t:aS)(x:Rp)(to:V2):Prop where
 bp:V2.B r x.p
 bf:V2.B r x.f
 bt:V2.B r to
 hv:x.v=to.sub x.f
 bo:lJ n1 t x.o
 bq:lJ n1 t x.q
theorem RpB.v{r a:Nat}{x:Rp}{to:V2}(h:RpB r a t x to):V2.B (2*r+1) x.v:=by rw[h.hv];exact(h.bt.sub h.bf).mono (by omega)
theorem RpB.u{r a:Nat}{x:Rp}{to:V2}(h:RpB r a t x to):V2.B (2*r+1) x.u:=(h.bf.sub h.bp).mono (by omega)
structure RSz(t:aS)(x:Rp)(r n1 nd nX:Nat):Prop where
 bw:lJ (2*n1+1) t x.qD
 bd:aQ nd t (x.d t)
 bh:aQ (8*r+5) t x.h
 bx:aQ nX t (x.r t)
theorem af8(o:aa G)(d:b7 δ t){x:Rp}{to:V2}{r b e a:Nat}(H:RpB r b t x to)(q:e=4*b+3+tb δ t.length)
  (s:a=(8*r+5+e+tb δ t.length)+(2*(8*r+5)+tb δ t.length)+1) (u:a≤MB) (g:sb δ t.length a≤NB):WT G δ t x to∧RSz t x r b e a:=by
 have p:MB≤NB:=rl;have hw:lJ (2*b+1) t x.qD:=(tK H.bq H.bo).mono (by omega)
 have j:=Ad d.b hw hw;have h:=hw.ok (show 2*b+1≤MB by omega)
 have f:aQ e t (x.d t):=(fQ.num (G4 d.b hw hw) (by simp[Rp.d])).mono (by omega)
 have n:iA (8*r+5) (x.v.t_ x.u):=(H.v.t_ H.u).mono (by omega)
 have c:aQ (8*r+5) t x.h:=n.num t;have m:aQ (8*r+5) t x.n:=(show iA (8*r+5) x.v.sq from H.v.sq.mono (by omega)).num t
 have l:=aQ.mul d.b m f;have k:=aQ.mul d.b c c;have i:aQ a t (x.r t):=(aQ.sub l k).mono (by omega)
 exact⟨⟨H.bp.fit (by omega),H.bf.fit (by omega),H.bt.fit (by omega),H.hv,H.v.XU (by omega),H.u.fit (by omega),(H.v.x.mul H.u.y).qk (by omega),(H.v.y.mul H.u.x).qk (by omega),n.qk (by omega),H.bo.ok (by omega),H.bq.ok (by omega),h,B0 o d h h (j.num (by simp)) (j.num (by simp)) (by omega),
  c.mono (by omega),.of c (by omega) g,m.mono (by omega),f.mono (by omega),.of f (by omega) g,l.mono (by omega),k.mono (by omega),i.mono (by omega),.of i (alE _) g⟩,⟨hw,f,c,i⟩⟩
theorem Ye(i:aa G)(d:b7 η T){x:Rp}{to:V2}{r b e I g j h:Nat}{root:List Rat}(H:RpB r b T x to)(f:x.v.sq≠0)(hw:lJ (2*b+1) T x.qD)(z:aQ e T (x.d t))(o:aQ (8*r+5) T x.h)(m:aQ 0 T root)(C:aQ I T (iS T T.length (x.d t)))(d0:a7 T (x.d t)≠0)
  (s:sb η T.length e≤NB) (id:ib η T.length e≤MB) (N:g=(2*b+1+tb η T.length)+(8*r+5+(2*b+1)+tb η T.length)+1+I+tb η T.length)
  (K:j=g+2*(2*r+1)+1+2*(4*(2*r+1)+1)) (L:h=j+2*r+2+b) (A:h≤MB) (w:sb η T.length (4*(2*r+1)+1)≤NB) (y:ib η T.length (4*(2*r+1)+1)≤MB):
  aey G η t T x root∧vr h T (x.pl t T root):=by
 have u:=hw.ok (show 2*b+1≤MB by omega)
 have l:lJ (2*b+1+tb η T.length) T (xn T root x.qD):=by
  refine fQ.mono (fQ.F0 d.b (fQ.one m) hw (p:=[(xn T root x.qD).1,(xn T root x.qD).2]) fun a c=>?_) (by omega)
  rcases uv c with rfl|rfl
  ·exact⟨root,x.qD.1,alI.2 rfl,by simp,.inl rfl⟩
  ·exact⟨root,x.qD.2,alI.2 rfl,by simp,.inl rfl⟩
 have n:lJ (2*b+1) T (xI x.qD.2,x.qD.1):=by
  obtain⟨D,B,J,F,E,q⟩:=hw.ms;refine⟨fun a c=>?_,D,B,J,F,E,fun a c=>?_⟩
  ·rcases uv c with rfl|rfl
   ·exact(hw.sh _ (by simp)).neg
   ·exact hw.sh _ (by simp)
  ·rcases uv c with rfl|rfl
   ·exact(q _ (by simp)).minus.short (hw.sh _ (by simp)).minus
   ·exact q _ (by simp)
 have on:=n.ok (show 2*b+1≤MB by omega)
 have k:lJ (8*r+5+(2*b+1)+tb η T.length) T (x.b T):=by
  refine fQ.F0 d.b (fQ.one o) n (p:=[(x.b T).1,(x.b T).2]) fun a c=>?_
  rcases uv c with rfl|rfl
  ·exact⟨x.h,xI x.qD.2,alI.2 rfl,by simp,.inl rfl⟩
  ·exact⟨x.h,x.qD.1,alI.2 rfl,by simp,.inl rfl⟩
 have kw:lJ ((2*b+1+tb η T.length)+(8*r+5+(2*b+1)+tb η T.length)+1) T (x.w T root):=tK l k;have v:lJ g T (x.z t T root):=by
  refine fQ.mono (fQ.quot d.b kw C (p:=[(x.z t T root).1,(x.z t T root).2]) fun a c=>?_) (by omega)
  rcases uv c with rfl|rfl
  ·exact⟨(x.w T root).1,by simp,rfl⟩
  ·exact⟨(x.w T root).2,by simp,rfl⟩
 obtain⟨M,bl⟩:=LC i d H.v H.bp f v H.bo K L A w y;exact⟨⟨J0 i d (m.mono (by omega)) u,hw.y.mono (by omega),J0 i d (o.mono (by omega)) on,l.ok (by omega),k.ok (by omega),kw.ok (by omega),⟨e,z,s,id⟩,d0,M⟩,bl⟩
end Tw
end Lw
namespace Lw
open Go Go.RowKit Go.Proofs
namespace Tw
open fL
variable {G:World→Prop} {t:aS} {δ:Nat}
def fiP(g:D)(l:List Pl)(i:Nat):St:=lay 20 [(1,g),(7,aU dw l),(8,nat l.length),(9,nat i)] []
theorem ajO(b:aa G){x:List D}{l:List Pl}(d:Pl)(f:l.length≤1000000)
  (h:∀i,i<l.length→Spec zZq G 92 ([nat i,.agg (dw (l.getD i d))]++[.aV x]) (bool false)):Spec zZq G 91 [aU dw l,.fn 92 [] [.aV x]] (int (-1)):=by
 have rd:∀i,i<l.length→ak zZq G 0 (ah f91 0) (fiP (.fn 92 [] [.aV x]) l i) .normal (fiP (.fn 92 [] [.aV x]) l (i+1)):=fun i a=>by
  have e:=cg aG a d;exact ak.r b [.eb 10 (ay a),.prop (aC aG (by omega) a),.prop (av aG (by omega) a),.eq 13 e,.call (h i a),.eq 19 (bQ (aI a (by omega)))]
 have c:=bT.z zZq G (ah f91 0) (.exit 0) (fiP (.fn 92 [] [.aV x]) l l.length) (fun i=>fiP (.fn 92 [] [.aV x]) l i) l.length rd
  (ak.r b [.eb 10 (aH (alE l.length))])
 exact Spec.r b func91 [] [.code c]
def fiJ(g:D)(l:List Jt)(i:Nat):St:=lay 20 [(1,g),(7,aU Ox l),(8,nat l.length),(9,nat i)] []
theorem ajP(b:aa G){x y:List D}{l:List Jt}(d:Jt)(f:l.length≤1000000)
  (h:∀i,i<l.length→Spec zZq G 96 ([nat i,.agg (Ox (l.getD i d))]++[.aV x,.aV y]) (bool false)):Spec zZq G 95 [aU Ox l,.fn 96 [] [.aV x,.aV y]] (int (-1)):=by
 have rd:∀i,i<l.length→ak zZq G 0 (ah f95 0) (fiJ (.fn 96 [] [.aV x,.aV y]) l i) .normal (fiJ (.fn 96 [] [.aV x,.aV y]) l (i+1)):=fun i a=>by
  have e:=cg br a d;exact ak.r b [.eb 10 (ay a),.prop (aC br (by omega) a),.prop (av br (by omega) a),.eq 13 e,.call (h i a),.eq 19 (bQ (aI a (by omega)))]
 have c:=bT.z zZq G (ah f95 0) (.exit 0) (fiJ (.fn 96 [] [.aV x,.aV y]) l l.length) (fun i=>fiJ (.fn 96 [] [.aV x,.aV y]) l i) l.length rd
  (ak.r b [.eb 10 (aH (alE l.length))])
 exact Spec.r b func95 [] [.code c]
def fiD(g:D)(l:List Dr)(i:Nat):St:=lay 20 [(1,g),(7,aU PJ l),(8,nat l.length),(9,nat i)] []
theorem ajQ(b:aa G){x y:List D}{l:List Dr}(d:Dr)(f:l.length≤1000000)
  (h:∀i,i<l.length→Spec zZq G 99 ([nat i,.agg (PJ (l.getD i d))]++[.aV x,.aV y]) (bool false)):Spec zZq G 98 [aU PJ l,.fn 99 [] [.aV x,.aV y]] (int (-1)):=by
 have rd:∀i,i<l.length→ak zZq G 0 (ah f98 0) (fiD (.fn 99 [] [.aV x,.aV y]) l i) .normal (fiD (.fn 99 [] [.aV x,.aV y]) l (i+1)):=fun i a=>by
  have e:=cg fC a d;exact ak.r b [.eb 10 (ay a),.prop (aC fC (by omega) a),.prop (av fC (by omega) a),.eq 13 e,.call (h i a),.eq 19 (bQ (aI a (by omega)))]
 have c:=bT.z zZq G (ah f98 0) (.exit 0) (fiD (.fn 99 [] [.aV x,.aV y]) l l.length) (fun i=>fiD (.fn 99 [] [.aV x,.aV y]) l i) l.length rd
  (ak.r b [.eb 10 (aH (alE l.length))])
 exact Spec.r b func98 [] [.code c]
theorem ahR(c:aa G)(a:As){i:Nat}{b:Pl}(u:Spec zZq G 93 [aP a.t,jB b] (bool true))(st:i=0→Spec zZq G 94 [aP a.t,jB b] (bool true)):
  Spec zZq G 92 [nat i,jB b,.aV (p_ a)] (bool false):=by
 cases i with
 |zero=>exact Spec.y c (ax HX) func92 [] [.call u,.call (st rfl)]
 |succ i=>exact Spec.y c (ax HX) func92 [] [.call u,.eb 13 (eJ (i:=i+1) (j:=0) (by omega))]
theorem ahS(b:aa G)(l:Lk)(a:As){i:Nat}{j:Jt}(h:Spec zZq G 97 [g7 l,b8 a,JtD j] (bool true)):
  Spec zZq G 96 [nat i,JtD j,.aV (EB l),.aV (p_ a)] (bool false):=
 Spec.y b (ax HX) func96 [] [.call h]
def uI(x:Tn):List D:=cF x.t++[bool x.half]
theorem zg(x:Tn):(uI x).length=4:=rfl
theorem ahT(k:aa G)(a:As)(xs:List Tn){i:Nat}{d:Dr}(b:i<xs.length)(c:d.body<a.bs.length)(h:Spec zZq G 100 [aP a.t,jB (dC a d.body),EF (xs.getD i ⟨0,false⟩)] (bool true)):
  Spec zZq G 99 [nat i,.agg (PJ d),.aV (p_ a),.aV [aU uI xs]] (bool false):=by
 have m:=cg aG c ⟨[],[],[],[]⟩;have j:=aC aG (by omega) c
 have g:=av aG (by omega) c
 have l:=cg zg b ⟨0,false⟩;have f:=aC zg (by omega) b
 have e:=av zg (by omega) b
 exact Spec.y k (ax HX) func99 [] [.er 12 (nat d.body),.prop j,.prop g,.eq 14 m,.er 16 (nat i),.prop f,.prop e,.eq 18 l,.call h]
def adp:List FuncId:=[50,91,95,98,39,37,38]
def Bs:D:=.agg [nat 0,nat 0]
theorem ad5(c:aa G)(l:Lk)(a:As)(xs:List Tn)(d:b7 δ a.t)(b:a.bs.length=l.bs.length)
  (h:Spec zZq G 91 [aU dw a.bs,.fn 92 [] [.aV (p_ a)]] (int (-1)))
  (g:Spec zZq G 95 [aU Ox l.js,.fn 96 [] [.aV (EB l),.aV (p_ a)]] (int (-1)))
  (f:Spec zZq G 98 [aU PJ l.ds,.fn 99 [] [.aV (p_ a),.aV [aU uI xs]]] (int (-1))):
  Spec zZq G 39 [g7 l,aU uI xs,b8 a] Bs:=by
 have e:(zNq a.bs.length !=zNq l.bs.length)=false:=by rw[b];simp
 exact Spec.y c (ax (adp.erase 39)) func39 [3,4,5] [.call (gg c d),.eb 21 e,.call h,.call g,.call f]
def L9:D:=.aY [bool true,Bs,.lit .nilIface]
theorem T8(c:aa G)(l:Lk)(a:As)(b:l.ds.length=0)(c0:Spec zZq G 37 [g7 l] (.lit .nilIface))(f:Spec zZq G 39 [g7 l,aU uI [],b8 a] Bs):
  Spec zZq G 11 [g7 l,aU uI [],b8 a] L9:=by
 have e:(zNq 0 !=zNq l.ds.length)=false:=by rw[b];decide
 exact Spec.y c (ax adp) func11 [] [.call c0,.eb 25 e,.call f]
theorem T7(b:aa G)(l:Lk)(a:As){x:Tn}(c:Qk x.t)(g:x.half=true→x.t=0)(d:l.ds.length=1)(c0:Spec zZq G 37 [g7 l] (.lit .nilIface))(f:Spec zZq G 39 [g7 l,aU uI [x],b8 a] Bs):
  Spec zZq G 11 [g7 l,aU uI [x],b8 a] L9:=by
 have e:(zNq 1 !=zNq l.ds.length)=false:=by rw[d];decide
 exact Spec.y b (ax adp) func11 [] [.call c0,.eb 25 e,.call (Dw b c g),.call f]
theorem T6(b:aa G)(l:Lk)(a:As){x y:Tn}(d:Qk x.t)(i:x.half=true→x.t=0)(c:Qk y.t)(h:y.half=true→y.t=0)(g:l.ds.length=2)(c0:Spec zZq G 37 [g7 l] (.lit .nilIface))(f:Spec zZq G 39 [g7 l,aU uI [x,y],b8 a] Bs):
  Spec zZq G 11 [g7 l,aU uI [x,y],b8 a] L9:=by
 have e:(zNq 2 !=zNq l.ds.length)=false:=by rw[g];decide
 exact Spec.y b (ax adp) func11 [] [.call c0,.eb 25 e,.call (Dw b d i),.call (Dw b c h),.call f]
def B6(l:List Rat):Nat→St
 |0=>lay 20 [(3,.row 0 true []),(6,aA l),(7,nat l.length),(8,nat 0)] []
 |i+1=>lay 20 [(3,.cR 1 (i+1) 3),(6,aA l),(7,nat l.length),(8,nat (i+1))] [(1,(l.take (i+1)).flatMap cF)]
theorem abi(d:aa G){l:List Rat}{i:Nat}(a:i<l.length)(j:l.length≤1073741824)(g:xd KB l):
  ak zZq G 0 (ah f147 0) (B6 l i) .normal (B6 l (i+1)):=by
 have e:=cg bZ a 0;have c:=gZ (G:=G) d (g _ (aN a 0));have h:=apN;have k:=apM;have b:=FA a;generalize l.getD i 0=q at e b c;cases i with
 |zero=>
  rw[am',aoU]at b;simp only[B6];rw[b];exact ak.r d [.eb 9 (ay a),.prop (aC bZ (by omega) a),.prop (av bZ (by omega) a),.eq 11 e,.call c,.eq 18 (bQ (aI a (by omega)))]
 |succ i=>
  have f:(cF q).all D.iq=true∧0<1∧((l.take (i+1)).flatMap cF).length=(i+1)*3∧(cF q).length=1*3∧i+1+1≤2^62∧(i+1+1)*56≤2^47:=by
   rw[fJ bZ,alO];exact⟨rfl,by omega,by omega,rfl,by omega,by omega⟩
  simp only[B6];rw[b];exact ak.r d [.eb 9 (ay a),.prop (aC bZ (by omega) a),.prop (av bZ (by omega) a),.eq 11 e,.call c,.prop f,.eq 18 (bQ (aI a (by omega)))]
theorem G6(a:aa G){l:List Rat}(d:l.length≤1073741824)(f:xd KB l):Spec zZq G 147 [aA l] (aA l):=by
 have c:=bT.count (P:=zZq) (Good:=G) (gb:=0) (body:=ah f147 0) (e:=.exit 0) (s':=B6 l l.length) (fun i=>B6 l i) l.length (fun i=>by cases i<;>exact ar ..) (by intro h;cases h)
  (fun i g=>abi a g d f) (by
   rcases alT l.length with h|h
   ·have:l=[]:=amu h
    subst this;exact ak.r a []
   ·obtain⟨m,hm⟩:∃m,l.length=m+1:=⟨l.length-1,by omega⟩
    have b:=au (aH (alE l.length));rw[hm];rw[hm]at b;simp only[B6];rw[hm];exact ak.r a [.eq 9 b])
 rcases alT l.length with h|h
 ·have:l=[]:=amu h
  subst this;exact Spec.r a func147 [] [.code c]
 ·obtain⟨m,hm⟩:∃m,l.length=m+1:=⟨l.length-1,by omega⟩
  have b:B6 l l.length=lay 20 [(3,.cR 1 l.length 3),(6,aA l),(7,nat l.length),(8,nat l.length)] [(1,l.flatMap cF)]:=by
   rw[hm];simp only[B6];rw[hm,←hm,ank]
  rw[b]at c;have j:aA l=.row l.length false ((l.flatMap cF).take (l.length*3)):=by
   rw[al4 (by rw[fJ bZ];omega)];rfl
  have key:Spec zZq G 147 [aA l] (.row l.length false ((l.flatMap cF).take (l.length*3))):=
   Spec.r a func147 [] [.code c]
  rwa [←j]at key
end Tw
end Lw
namespace Lw
open Go Go.RowKit Go.Proofs
namespace Tw
open fL
variable {G:World→Prop}
def sK(j:Jt)(b:Nat):Option Nat:=if b=j.a then some j.b else if b=j.b then some j.a else none
def akB:Option Nat→Int
 |some n=>zNq n
 |none=> -1
theorem adl(d:aa G)(j:Jt)(b:Nat):Spec zZq G 325 [JtD j,nat b] (int (akB (sK j b))):=by
 unfold sK;by_cases a:b=j.a
 ·rw[apB a]
  exact Spec.y d (ax []) func325 [] [.eb 9 (gd a)]
 ·rw[apA a]
  by_cases c:b=j.b
  ·rw[apB c]
   exact Spec.y d (ax []) func325 [] [.eb 9 (eJ a),.eb 15 (gd c)]
  ·rw[apA c]
   exact Spec.y d (ax []) func325 [] [.eb 9 (eJ a),.eb 15 (eJ c)]
def gC(l:List Bool):D:=.row l.length false (l.map bool)
structure Fn where
 known:List Bool
 mM:List Bool
 used:List Bool
 gs:List Gp
def gsD:List Gp→D
 |[]=>.row 0 true []
 |l=>aU iV l
def cFn(l:Lk)(s:Fn):List D:=EB l++[gC s.known,gC s.mM,gC s.used,gsD s.gs]
def uD(l:Lk)(s:Fn):D:=.aV (cFn l s)
theorem gp{l:List Bool}{i:Nat}(h:i<l.length):((0:Int)≤zNq i∧zNq i<(l.length:Int))∧(zNq i).toNat*1<(l.map bool).length:=by
 have e:(zNq i).toNat=i:=rfl;rw[alR,e,amH];exact⟨⟨by simp,by simpa using h⟩,h⟩
theorem gw{l:List Bool}{i:Nat}(h:i<l.length):0<1∧1≤((l.map bool).drop ((zNq i).toNat*1)).length:=by
 have e:(zNq i).toNat=i:=rfl;rw[alP,alR,e];omega
theorem iK{l:List Bool}{i:Nat}(h:i<l.length):((l.map bool).drop ((zNq i).toNat*1)).headD .any=bool (l.getD i false):=by
 have e:(zNq i).toNat=i:=rfl;rw[e,amH,←List.map_drop,am1 h,amt,ao9,alD,alK h];rfl
theorem Vh(c:aa G)(l:Lk)(s:Fn){i:Nat}(h:i<s.known.length):Spec zZq G 321 [uD l s,nat i] (bool (s.known.getD i false)):=by
 have b:=gp h;have a:=gw h;have e:=iK h;generalize s.known.getD i false=z at e;cases z<;>exact Spec.y c (ax []) func321 [] [.er 9 (nat i),.prop b,.prop a,.eq 11 e]
def qz(s:Fn)(i:Nat):Bool:= !s.known.getD i false&& !s.mM.getD i false
theorem aaz(d:aa G)(l:Lk)(s:Fn){i:Nat}(h:i<s.known.length)(a:i<s.mM.length):Spec zZq G 297 [uD l s,nat i] (bool (qz s i)):=by
 have c:=gp h;have b:=gw h;have e:=iK h;have k:=gp a;have j:=gw a;have f:=iK a;unfold qz;generalize s.known.getD i false=z at e;generalize s.mM.getD i false=g at f;cases z
 ·cases g<;>exact Spec.y d (ax []) func297 [] [.er 9 (nat i),.prop c,.prop b,.eq 11 e,.er 18 (nat i),.prop k,.prop j,.eq 20 f]
 ·exact Spec.y d (ax []) func297 [] [.er 9 (nat i),.prop c,.prop b,.eq 11 e]
def tF(kind body:Nat)(pass:Nat→Bool)(j:Jt):Bool:=decide (j.kind=kind)&&match sK j body with
 |some o=>pass o
 |none=>false
inductive Ask where
 |known
 |only(k:Nat)
def abK(l:Lk)(s:Fn):Ask→D
 |.known=>.fn 321 [uD l s] []
 |.only k=>.fn 296 [] [.aV [nat k]]
def tH(s:Fn):Ask→Nat→Bool
 |.known,o=>s.known.getD o false
 |.only k,o=>decide (o=k)
theorem agq(a:aa G)(o k:Nat):Spec zZq G 296 ([nat o]++[.aV [nat k]]) (bool (decide (o=k))):=by
 by_cases h:o=k
 ·rw[apD h]
  exact Spec.y a (ax []) func296 [] [.eb 6 (gd h)]
 ·rw[apE h]
  exact Spec.y a (ax []) func296 [] [.eb 6 (eJ h)]
theorem l8(o:Nat):decide (zNq o≥0)=true:=by simp
theorem ajv(a:aa G)(l:Lk)(s:Fn)(kind body:Nat)(q:Ask)(j:Jt)(d:∀o,sK j body=some o→o<s.known.length):
  Spec zZq G 324 ([JtD j]++[.aV [nat body],.aV [nat kind],.aV [abK l s q]]) (bool (tF kind body (tH s q) j)):=by
 have co:=adl a j body;unfold tF;by_cases b:j.kind=kind
 ·rw[apD b,aoP]
  cases c:sK j body with
  |none=>
   rw[c]at co;exact Spec.y a (ax [325]) func324 [] [.call co,.eb 13 (gd b)]
  |some o=>
   rw[c]at co;cases q with
   |known=>
    have ck:=Vh a l s (d o c);unfold tH;simp only;generalize s.known.getD o false=z at ck;cases z<;>exact Spec.y a (ax [325,321]) func324 [] [.call co,.eb 13 (gd b),.eb 16 (l8 o),.call ck]
   |only k=>
    have ck:=agq a o k;unfold tH;simp only;generalize decide (o=k)=z at ck;cases z<;>exact Spec.y a (ax [325,296]) func324 [] [.call co,.eb 13 (gd b),.eb 16 (l8 o),.call ck]
 ·rw[apE b,Bool.false_and]
  exact Spec.y a (ax [325]) func324 [] [.call co,.eb 13 (eJ b)]
def C2{α:Type}(p:α→Bool)(l:List α):Int:=if l.findIdx p<l.length then zNq (l.findIdx p)else -1
def TN(l:Lk)(s:Fn)(kind body:Nat)(q:Ask):D:=.fn 324 [] [.aV [nat body],.aV [nat kind],.aV [abK l s q]]
def ixA(g:D)(l:List Jt)(i:Nat):St:=lay 19 [(0,aU Ox l),(1,g),(7,nat l.length),(8,nat i)] []
theorem adP(d:aa G)(l:Lk)(s:Fn)(kind body:Nat)(q:Ask)(t:l.js.length≤1000000)(p:∀j∈l.js,∀o,sK j body=some o→o<s.known.length):
  Spec zZq G 323 [aU Ox l.js,TN l s kind body q] (int (C2 (tF kind body (tH s q)) l.js)):=by
 have k:∀i,i<l.js.length→Spec zZq G 324 ([.agg (Ox (l.js.getD i default))]++[.aV [nat body],.aV [nat kind],.aV [abK l s q]]) (bool (tF kind body (tH s q) (l.js.getD i default))):=fun i b=>by
  refine ajv d l s kind body q _ (p _ ?_);rw[alD,alK b];exact al2 b
 have key:∀i,i<l.js.findIdx (tF kind body (tH s q))→i<l.js.length∧tF kind body (tH s q) (l.js.getD i default)=false:=fun i b=>by
  have a:i<l.js.length:=ami b amV;refine⟨a,?_⟩;have:=List.not_of_lt_findIdx b;rw[alD,alK a];simpa using this
 generalize he:TN l s kind body q=g;have rd:∀i,i<l.js.findIdx (tF kind body (tH s q))→ak zZq G 0 (ah f323 0) (ixA g l.js i) .normal (ixA g l.js (i+1)):=fun i b=>by
  obtain⟨a,r⟩:=key i b;have c:=k i a;rw[r]at c;have e:=cg br a default;subst he;exact ak.r d [.eb 9 (ay a),.prop (aC br (by omega) a),.prop (av br (by omega) a),.eq 15 e,.call c,.eq 18 (bQ (aI a (by omega)))]
 unfold C2;split
 ·rename_i h
  have c:=k _ h;have e:=cg br h default;have m:tF kind body (tH s q) (l.js.getD (l.js.findIdx (tF kind body (tH s q))) default)=true:=by
   have:=List.findIdx_getElem (w:=h);rw[alD,alK h];simpa using this
  rw[m]at c;subst he;have f:=bT.z zZq G (ah f323 0) .ret (lay 19 [(4,nat (l.js.findIdx (tF kind body (tH s q))))] []) (fun i=>ixA (TN l s kind body q) l.js i) _ rd
   (ak.r d [.eb 9 (ay h),.prop (aC br (by omega) h),.prop (av br (by omega) h),.eq 15 e,.call c])
  exact Spec.r d func323 [] [.code f]
 ·rename_i h
  have n:l.js.findIdx (tF kind body (tH s q))=l.js.length:=anS amV (by omega)
  rw[n]at rd;subst he;have f:=bT.z zZq G (ah f323 0) (.exit 0) (lay 19 [] []) (fun i=>ixA (TN l s kind body q) l.js i) _ rd
   (ak.r d [.eb 9 (aH (alE l.js.length))])
  exact Spec.r d func323 [] [.code f]
def Ao(l:Lk)(s:Fn)(kind body:Nat)(q:Ask):Int:=C2 (tF kind body (tH s q)) l.js
theorem Td(a:aa G)(l:Lk)(s:Fn)(kind body:Nat)(q:Ask)(b:l.js.length≤1000000)(d:∀j∈l.js,∀o,sK j body=some o→o<s.known.length):
  Spec zZq G 295 [uD l s,nat kind,nat body,abK l s q] (int (Ao l s kind body q)):=by
 have c:=adP a l s kind body q b d;cases q<;>exact Spec.y a (ax [323]) func295 [5,6,7] [.call c]
theorem AL(a:aa G)(l:Lk)(s:Fn)(kind body:Nat)(b:l.js.length≤1000000)(c:∀j∈l.js,∀o,sK j body=some o→o<s.known.length):
  Spec zZq G 293 [uD l s,nat kind,nat body] (int (Ao l s kind body .known)):=
 Spec.y a (ax [295]) func293 [] [.call (Td a l s kind body .known b c)]
end Tw
end Lw
namespace Lw
open Go Go.RowKit Go.Proofs
def kL:Code→Code
 |.seq x _=>x
 |.cond _ x _=>x
 |.block _ x=>x
 |.loop x=>x
 |.rangeFunc _ _ x _=>x
 |_=>.skip
def kR:Code→Code
 |.seq _ y=>y
 |.cond _ _ y=>y
 |.rangeFunc _ _ _ y=>y
 |_=>.skip
def xb:Code→List Oper
 |.region _ ops _=>ops.toList
 |_=>[]
def bV(f:Func):Code:=f.body.getD .skip
theorem PM{F:Fence}{n m:Nat}{P:Program}{k:Code}{Q:Exit→Act→World→Prop}{a:Act}{w:World}(f:F.depth=none)(h:k.wpIn F n P Q a w):k.wpIn F m P Q a w:=
 fun b e cs i g _=>h b e cs i g (fun d c=>by rw[f]at c;cases c)
theorem oJ{F:Fence}{n:Nat}{P:Program}{k x y:Code}{Q:Exit→Act→World→Prop}{a:Act}{w:World}(b:k=.seq x y)(h:x.wpIn F n P (Exit.then (y.wpIn F n P Q) Q) a w):k.wpIn F n P Q a w:=by
 subst b;exact wpIn_seq h
theorem yf{F:Fence}{n:Nat}{P:Program}{k x:Code}{id:Nat}{Q:Exit→Act→World→Prop}{a:Act}{w:World}(b:k=.block id x)(h:x.wpIn F n P (Exit.inBlock id Q) a w):k.wpIn F n P Q a w:=by
 subst b;exact wpIn_block h
theorem S_{F:Fence}{b:Nat}{P:Program}{k c:Code}{Q:Exit→Act→World→Prop}{a:Act}{w:World}(g:k=.loop c)(I:Nat→Act→World→Prop)(d:Nat)(f:I d a w)
  (round:∀n a w,I n a w→c.wpIn F b P (Exit.then (fun h w'=>∃e,e<n∧I e h w') Q) a w):k.wpIn F b P Q a w:=by
 subst g;exact wpIn_loop_ghost I d f round
structure iI(W W':World):Prop where
 size:W.heap.size≤W'.heap.size
 same:∀(k:Nat) us e fr,W.heap[k]? =some (.cells us e fr)→W'.heap[k]? =some (.cells us e fr)
theorem iI.trans{A B C:World}(h:iI A B)(k:iI B C):iI A C:=⟨alJ h.size k.size,fun i a e b c=>k.same i a e b (h.same i a e b c)⟩
theorem iI.xD{W b:World}(h:Below W.heap.size W b):iI W b:=⟨h.size,fun k c e d a=>by rw[h.block k (amE.1 a).1];exact a⟩
theorem iI.cell{W d:World}(h:iI W d){a:Addr}{u:Value}(c:W.cell? a=some u):d.cell? a=some u:=by
 have i:=zf c;cases b:W.heap[a.block]?with
 |none=>simp[World.cell?,b]at c
 |some o=>
  cases o with
  |cells us e f=>
   have g:d.heap[a.block]? =W.heap[a.block]? :=by rw[h.same _ us e f b,b]
   rw[World.cell?_of_block g];exact c
  |_=>simp[World.cell?,b]at c
theorem iI.FI{W a:World}(h:iI W a):Dx W a:=fun k c d=>by
 obtain⟨e,m⟩:=c;obtain⟨b,g,f,rfl⟩:=jW d;exact cY (h.same k b e g f)
theorem dk.lD{c:Ctx}{n:Nat}{s:FSt}{a:Act}{w w':World}{β:Nat→Nat}{X:Nat→Prop}(h:dk c n s a w β X)(d:iI w w')(r:HJ c w')(q:∀k,c.kp k=none:=by intro k;rfl):dk c n s a w' β X:=by
 have hm:∀a u,w.cell? a=some u→¬X a.block→w'.cell? a=some u∧¬X a.block:=fun a u h f=>⟨d.cell h,f⟩
 exact⟨h.defers,h.size,fun t=>(h.tmp t).mono hm d.FI,h.nd,fun b cs j=>by
  obtain⟨B,A,i,e,z,y,v⟩:=h.blk b cs j;exact⟨B,A,i,e,d.same _ _ _ _ z,y,v.mono fun u x _ l=>l.mono hm d.FI⟩,h.tB,h.inj,h.F,h.vt,fun k f=>ami (h.oE k f) d.size,r,
  fun p m=>(h.gh p m).mono hm d.FI,h.iY,⟨fun k o g=>(by rw[q]at g;cases g),h.kp.x,fun k f=>ami (h.kp.lt k f) d.size,h.kp.off⟩⟩
def cx(P:Program)(G:World→Prop)(r:Option Nat)(w:World):Ctx:=⟨P,G,fun _=>False,w,[],0,r,[],fun _=>none,0,fun _=>none,fun _=>False⟩
variable {P:Program} {G:World→Prop}
theorem Rel.Yr{r r':Option Nat}{g w:World}{n:Nat}{s:FSt}{a:Act}(h:Rel (cx P G r g) n s a w)(f:∀b,s.blk b=none):Rel (cx P G r' w) n s a w:=by
 obtain⟨β,X,h⟩:=h;exact⟨β,X,h.defers,h.size,h.tmp,h.nd,(fun b cs c=>by rw[f b]at c;cases c),(fun b cs c=>by rw[f b]at c;cases c),h.inj,h.F,fun k e=>e.elim,h.oE,⟨Below.refl _ _,fun _ _ e=>(by cases e),amd _⟩,(fun p d=>by cases d),(fun p d=>by cases d),n9.none rfl rfl⟩
theorem Rel.keeps{r:Option Nat}{w w':World}{n:Nat}{s:FSt}{a:Act}(h:Rel (cx P G r w) n s a w)(g:∀b,s.blk b=none)(c:iI w w'):Rel (cx P G r w') n s a w':=by
 obtain⟨β,X,h⟩:=h;have hm:∀a u,w.cell? a=some u→¬X a.block→w'.cell? a=some u∧¬X a.block:=fun a u h e=>⟨c.cell h,e⟩
 exact⟨β,X,h.defers,h.size,(fun t=>(h.tmp t).mono hm c.FI),h.nd,(fun b cs d=>by rw[g b]at d;cases d),(fun b cs d=>by rw[g b]at d;cases d),h.inj,h.F,fun k c=>c.elim,(fun k e=>ami (h.oE k e) c.size),⟨Below.refl _ _,fun _ _ c=>(by cases c),amd _⟩,(fun p f=>by cases f),(fun p f=>by cases f),n9.none rfl rfl⟩
theorem oW(n:Nat)(l:List (Nat×D))(b:Nat):(lay n l []).fs.blk b=none:=rfl
theorem mh{s:St}{n m:Nat}{l:List (Nat×D)}{e:o_}{k:Code}{r:Option Nat}{Q:Exit→Act→World→Prop}{a:Act}{W:World}(h:s.tmps.length=n)(u:ak P G 0 k s e (lay n l []))(q:Rel (cx P G r W) n s.fs a W)(w:aa G)(g:G W)
  (v:∀d c,Rel (cx P G r c) n (lay n l []).fs d c→G c→Below W.heap.size W c→Q e.Cw d c):k.wpIn (Fw r) m P Q a W:=by
 obtain⟨s1,x,z,y,o,p,t⟩:=u;refine PM (n:=0) rfl (o.2 (cx P G r W) Q a W rfl rfl g (alE 0) (by rw[h];exact q) fun d c j=>?_)
 rw[h]at j;have i:=j.mask (alE _) p;rw[t]at i;obtain⟨β,X,f⟩:=i;exact v d c (Rel.Yr ⟨β,X,f⟩ fun b=>oW n l b) (f.l7 w g) f.below.uJ
theorem FM{c:Ctx}{Q:Exit→Act→World→Prop}{inl:Inline P G}(n:yo P G inl)(p:c.P=P)(v:c.Good=G)(q:aa G)(r:c.Good c.w0){gb:Nat}(i:c.gb≤gb){ops:Array Oper}{ro:List Nat}(l2:List Oper):
  ∀(l:List Oper)(s s':St)(g tr':List (Item P G))(eqs:List (de×de))(m:List (Rec×Option Nat))(a:Act)(w:World),
   kU P inl false ops ro gb l s g=some (s',tr',eqs,m)→jI eqs→Rel c s.tmps.length s.fs a w→(∀f w',Rel c s.tmps.length s'.fs f w'→wpListIn (Fw c.rd) 0 P ops Q l2 f w')→wpListIn (Fw c.rd) 0 P ops Q (l++l2) a w
 |[],s,s',g,tr',eqs,m,a,w,e,he,h,j=>by
  simp only[kU,zIq,zJq]at e;obtain⟨rfl,rfl,rfl,rfl⟩:=e;exact j a w h
 |o::rest,s,s',g,tr',eqs,m,a,w,e,he,h,j=>by
  simp only[kU]at e;split at e
  ·rename_i R E F k
   split at e
   ·rename_i s2 I H J A
    simp only[zIq,zJq]at e;obtain⟨rfl,rfl,rfl,rfl⟩:=e;obtain⟨C,D⟩:=he.append;obtain⟨B,u⟩:=uW k;refine wpListIn_step fun K z=>?_
    refine gR n p v q r i h k C (fun b cs d x y=>by rw[(pI k).1 b cs d x y];exact mA s) (fun _=>⟨fun b=>rfl,fun b=>rfl,vE s,CV _ s i⟩) fun f w' t=>z _ _ ?_
    rw[←B,←u]at t;exact FM n p v q r i l2 rest _ _ _ _ _ _ f w' A D t (by rw[u];exact j)
   ·cases e
  ·cases e
def BG(P:Program){G:World→Prop}(ops:Array Oper)(l:List Oper)(s:St)(c:List (Item P G))(b:List Nat):Option (List D×List (Item P G)×List (de×de)):=
 match kU P (wT P (oA P 60)) false ops [] 0 l s c with
 |some (a,tr',eqs,_)=>if vS 0 b [] [] a&&a.tmps.length==s.tmps.length then some (b.map fun t=>a.tmps.getD t .any,tr',eqs)else none
 |none=>none
theorem QC{s:St}{n:Nat}{l:List (Nat×D)}{r:Option Nat}{ops:Array Oper}{l1 l2:List Oper}{Q:Exit→Act→World→Prop}{a:Act}{W:World}(p:s.tmps.length=n)(f:List (Item P G))(q:aa G)
  (h:BG P ops l1 s f (l.map (·.1))=some (l.map (·.2),[],said f)) (z:Rel (cx P G r W) n s.fs a W) (u:G W)
  (C:∀j d,Rel (cx P G r d) n (lay n l []).fs j d→G d→Below W.heap.size W d→wpListIn (Fw r) 0 P ops Q l2 j d):wpListIn (Fw r) 0 P ops Q (l1++l2) a W:=by
 unfold BG at h;split at h
 ·rename_i i tr' g H F
  split at h
  ·rename_i o
   simp only[Bool.and_eq_true,beq_iff_eq]at o;simp only[zIq,zJq]at h;obtain⟨w,rfl,rfl⟩:=h;have y:yo P G (wT P (oA P 60)):=oX fun ro E k s f e i tr' g A B=>iO q 60 ro E k s f e i tr' g A B
   refine FM (c:=cx P G r W) y rfl rfl q u (alE 0) l2 l1 s i f [] _ H a W F (nZ f) (by rw[p];exact z) fun j d x=>?_
   rw[p]at x;have v:=x.mask (alE _) o.1;have e:=qu (s:=i) (n:=n) (l:=l) (bl:=[]) (ns:=[]) (o.2.trans p) (by rw[anD]at w;exact w) rfl
   simp only[List.map_nil]at e;rw[e]at v;obtain⟨β,X,t⟩:=v;exact C j d (Rel.Yr ⟨β,X,t⟩ fun b=>oW n l b) (t.l7 q u) t.below.uJ
  ·cases h
 ·cases h
theorem Uz{F:Fence}{n m:Nat}{P:Program}{l:Nat}{f:FuncId}{tmps:Array Value}{assign body:Code}{w:World}{R:Ending→World→Prop}(b:F.depth=none)(h:RoundIn F n P l f tmps assign body w R):RoundIn F m P l f tmps assign body w R:=
 ⟨h.1,fun c cs _=>h.2 c cs (fun d a=>by rw[b]at a;cases a)⟩
theorem adI(n:Nat)(l:List (Nat×D))(t:Nat)(d:D)(a:t<n):(lay n l []).fs.put n (some t) d=(lay n ((t,d)::l) []).fs:=by
 have key:∀u,(if some t=some u∧u<n then d else(lay n l []).fs.tmp u)=(lay n ((t,d)::l) []).fs.tmp u:=fun u=>by
  rw[dN,dN];by_cases hu:t=u
  ·subst hu
   rw[apB ⟨rfl,a⟩,apB a,aoM (by simp)];rfl
  ·rw[apA (by rintro⟨h,_⟩;exact hu (amq h)),List.find?_cons_of_neg (by simpa using hu)]
 show(⟨fun u=>if some t=some u∧u<n then d else(lay n l []).fs.tmp u,_,_⟩:FSt)=_
 rw[funext key];rfl
theorem Rel.YA{r:Option Nat}{w:World}{n:Nat}{l:List (Nat×D)}{a:Act}{t:Nat}{v:Value}(h:Rel (cx P G r w) n (lay n l []).fs a w)(c:t<n):Rel (cx P G r w) n (lay n ((t,.lit v)::l) []).fs (a.put (some t) v) w:=by
 obtain⟨β,X,f⟩:=h;have:=f.put (dst:=some t) (v:=v) (d:=.lit v) (.c (.p (.lit v))) (fun b e=>by simp[D.refs]at e)
 rw[adI n l t _ c]at this;exact⟨β,X,this⟩
theorem Rel.lits{G':World→Prop}{r r':Option Nat}{w w':World}{n:Nat}{s:FSt}{l:List (Nat×D)}{a:Act}(h:Rel (cx P G r w) n s a w)(j:∀p∈l,∃v,p.2=.lit v∧s.tmp p.1=.lit v):Rel (cx P G' r' w') n (lay n l []).fs a w':=by
 obtain⟨β,X,g⟩:=h;refine⟨fun _=>0,fun _=>False,g.defers,g.size,fun t=>?_,fun t b c=>?_,(fun b cs c=>by rw[oW]at c;cases c),(fun b cs c=>by rw[oW]at c;cases c),(fun b x c=>by rw[oW]at c;cases c),fun k d=>d.elim,fun k d=>d.elim,fun k d=>d.elim,⟨Below.refl _ _,fun _ _ d=>(by cases d),amd _⟩,(fun p f=>by cases f),(fun p f=>by cases f),n9.none rfl rfl⟩
 ·rw[dN]
  split
  ·cases e:l.find? fun p=>p.1==t with
   |none=>exact .c (.p (.any _))
   |some p=>
    have f:=anN e;have q:p.1=t:=by have:=aon e;simpa using this
    obtain⟨v,i,o⟩:=j p f;have m:=g.tmp p.1;rw[o,q]at m;have u:=sA (m.pure rfl) (v:=v) rfl;rw[u];show cW _ _ _ v p.2;rw[i];exact .c (.p (.lit v))
  ·exact .c (.p (.any _))
 ·exfalso
  rw[dN]at c;split at c
  ·cases e:l.find? fun p=>p.1==t with
   |none=>rw[e]at c;simp[D.refs]at c
   |some p=>
    obtain⟨v,i,o⟩:=j p (anN e);rw[e]at c;simp only[Option.map_some,Option.getD_some]at c;rw[i]at c;simp[D.refs]at c
  ·simp[D.refs]at c
theorem Rel.start{r:Option Nat}{w:World}{n:Nat}{vals:List Value}{args:List D}(j:args.length≤n)(h:a9 w (fun _=>False) vals args):
  Rel (cx P G r w) n (fN n args []).fs {tmps:=vals.toArray++Array.replicate (n-vals.toArray.size) undef,defers:=[]} w:=by
 have e:∀b,(fN n args []).fs.blk b=none:=fun b=>by simp[fN,St.fs]
 refine⟨fun _=>0,fun _=>False,rfl,?_,fun t=>?_,?_,(fun b cs a=>by rw[e]at a;cases a),(fun b cs a=>by rw[e]at a;cases a),(fun b q a=>by rw[e]at a;cases a),fun k c=>c.elim,fun k c=>c.elim,fun k c=>c.elim,⟨Below.refl _ _,fun _ _ c=>(by cases c),amd _⟩,(fun p f=>by cases f),(fun p f=>by cases f),n9.none rfl rfl⟩
 ·have:=h.1;simp;omega
 ·exact rR (Q':=fun v d=>cW (fun _=>0) w (fun _=>False) v d) h.1 j (fun i o m=>.c (.p (h.2 i o m))) (.c (.p (.lit _))) (.c (.p (.any _))) t
 ·refine rS fun d l b a=>?_
  obtain⟨i,g,rfl⟩:=alZ.1 l;rw[ff (h.2 i (by rw[h.1];exact g) g)]at a;cases a
end Lw
namespace Lw
namespace Gr
open Go Go.RowKit Go.Proofs
variable {G:World→Prop}
def CI(_:Nat)(free:Nat→Bool)(i j:Nat):List (Nat×Nat):=((List.range j).filter fun k=>decide (i<k)&&(free i&&free k)).map fun k=>(i,k)
def Lp(N:Nat)(free:Nat→Bool)(i j:Nat):List (Nat×Nat):=((List.range i).flatMap fun h=>CI N free h N)++CI N free i j
theorem Qv(N:Nat)(free:Nat→Bool)(i:Nat):CI N free i (i+1)=[]:=by
 unfold CI;rw[List.filter_eq_nil_iff.2,List.map_nil];intro k a;have:=ann.1 a;simp;omega
theorem Kt(N:Nat)(free:Nat→Bool)(i:Nat){j:Nat}(h:j≤i+1):CI N free i j=[]:=by
 unfold CI;rw[List.filter_eq_nil_iff.2,List.map_nil];intro k a;have:=ann.1 a;simp;omega
theorem UJ(N:Nat)(free:Nat→Bool){i j:Nat}:CI N free i (j+1)=CI N free i j++if i<j∧free i=true∧free j=true then [(i,j)]else []:=by
 unfold CI;rw[ang,List.filter_append,an_];congr 1;by_cases h:i<j∧free i=true∧free j=true
 ·rw[apB h,List.filter_cons_of_pos (by simp[h])];rfl
 ·rw[apA h,List.filter_cons_of_neg (by simpa using h)];rfl
theorem Ff(N:Nat)(free:Nat→Bool){i j:Nat}:Lp N free i (j+1)=Lp N free i j++if i<j∧free i=true∧free j=true then [(i,j)]else []:=by
 unfold Lp;rw[UJ,am7]
theorem R9(N:Nat)(free:Nat→Bool)(i:Nat):Lp N free i N=Lp N free (i+1) 0:=by
 unfold Lp;rw[ang,anC,Kt N free (i+1) (j:=0) (by omega),amX]
 simp
theorem aj8(N:Nat)(free:Nat→Bool)(i:Nat):Lp N free i 0=Lp N free i (i+1):=by
 unfold Lp;rw[Qv,Kt N free i (j:=0) (by omega)]
theorem ah'(N:Nat)(free:Nat→Bool){i j:Nat}(b:i<N)(f:j≤N):(Lp N free i j).length<N*N+1:=by
 have a:∀h k,(CI N free h k).length≤k:=fun h k=>by
  unfold CI;rw[alR];exact alJ (List.length_filter_le _ _) (by simp)
 have c:∀m,((List.range m).flatMap fun h=>CI N free h N).length≤m*N:=by
  intro m;induction m with
  |zero=>simp
  |succ m e=>
   rw[ang,anC,amj,amL];have:=a m N;simp only[List.flatMap_cons,List.flatMap_nil,List.append_nil];omega
 unfold Lp;rw[amj];have l:=c i;have g:=a i j;have d:(i+1)*N≤N*N:=alV _ b;rw[amL]at d;omega
def Lg(x:Nat×Nat):Array Value:= #[.int .i64 (zNq x.1),.int .i64 (zNq x.2)]
def Kp(b:Nat)(W a:World):Prop:=iI W a∧Below b W a
def BI(K:Code):Code:=kL (kL (kR K))
def kIn(K:Code):Code:=kR (kR (BI K))
def Q8(K:Code):Code:=kL (kL (kIn K))
def xT(K:Code):Code:=kL (kL (kR (kR (Q8 K))))
def D1(K:Code):Code:=kL (kL (kR (xT K)))
def jv(nm:D)(N:Nat)(bs rest:List D):D:=.aV (nm:: .row N false bs::rest)
section
variable (nm:D) (N:Nat) (bs rest:List D) (yv:Value)
def PI(i:Nat):List (Nat×D):=[(0,.lit yv),(1,.aV [jv nm N bs rest]),(10,nat N),(11,nat i)]
def KV(i j:Nat):List (Nat×D):=[(0,.lit yv),(1,.aV [jv nm N bs rest]),(3,nat i),(4,nat j),(10,nat N),(11,nat i)]
end
variable {nm:D} {N:Nat} {bs rest:List D} {yv:Value}
theorem Z2:(bV f322)=.seq (kL (bV f322)) (.block 0 (.loop (BI (bV f322)))):=by kernel_rfl
theorem Z1:(BI (bV f322))=.seq (kL (BI (bV f322))) (.seq (kL (kR (BI (bV f322)))) (.seq (.block 1 (Q8 (bV f322))) (kR (kIn (bV f322))))):=by kernel_rfl
theorem ag8:(Q8 (bV f322))=.seq (kL (Q8 (bV f322))) (.seq (kL (kR (Q8 (bV f322)))) (.block 2 (.loop (xT (bV f322))))):=by kernel_rfl
theorem Z3:(xT (bV f322))=.seq (kL (xT (bV f322))) (.seq (.block 3 (D1 (bV f322))) (kR (kR (xT (bV f322))))):=by kernel_rfl
theorem aje:(D1 (bV f322))=.seq (.region 6 (xb (kL (D1 (bV f322)))).toArray false) (kR (D1 (bV f322))):=by kernel_rfl
theorem ako(a:aa G):ak zZq G 0 (kL (bV f322)) (fN 42 [.lit yv,.aV [jv nm N bs rest]] []) .normal (lay 42 (PI nm N bs rest yv 0) []):=
 ak.ae a (ro:=[]) (m:=60) rfl []
theorem aiv(b:aa G){i:Nat}(a:i<N):ak zZq G 0 (kL (BI (bV f322))) (lay 42 (PI nm N bs rest yv i) []) .normal (lay 42 ((12,bool true)::PI nm N bs rest yv i) []):=
 ak.r b [.eb 12 (ay a)]
theorem aiw(b:aa G){i:Nat}(a:N≤i):ak zZq G 0 (kL (BI (bV f322))) (lay 42 (PI nm N bs rest yv i) []) .normal (lay 42 ((12,bool false)::PI nm N bs rest yv i) []):=
 ak.r b [.eb 12 (aH a)]
theorem ait(a:aa G){i:Nat}:ak zZq G 0 (kL (kR (BI (bV f322)))) (lay 42 ((12,bool true)::PI nm N bs rest yv i) []) .normal (lay 42 (PI nm N bs rest yv i) []):=
 ak.r a []
theorem aiu(a:aa G){i:Nat}:ak zZq G 0 (kL (kR (BI (bV f322)))) (lay 42 ((12,bool false)::PI nm N bs rest yv i) []) (.exit 0) (lay 42 (PI nm N bs rest yv i) []):=
 ak.r a []
theorem akn(a:aa G){i:Nat}:ak zZq G 0 (kL (Q8 (bV f322))) (lay 42 (PI nm N bs rest yv i) []) .normal (lay 42 ((3,nat i)::PI nm N bs rest yv i) []):=
 ak.r a []
theorem akm(a:aa G){i:Nat}(b:i<100):ak zZq G 0 (kL (kR (Q8 (bV f322)))) (lay 42 ((3,nat i)::PI nm N bs rest yv i) []) .normal (lay 42 (KV nm N bs rest yv i (i+1)) []):=
 ak.r a [.eq 15 (bQ (cw (i:=i) (by omega)))]
theorem air(b:aa G){i j:Nat}(a:j<N):ak zZq G 0 (kL (xT (bV f322))) (lay 42 (KV nm N bs rest yv i j) []) .normal (lay 42 (KV nm N bs rest yv i j) []):=
 ak.r b [.eb 23 (ay a)]
theorem ais(b:aa G){i j:Nat}(a:N≤j):ak zZq G 0 (kL (xT (bV f322))) (lay 42 (KV nm N bs rest yv i j) []) (.exit 2) (lay 42 (PI nm N bs rest yv i) []):=
 ak.r b [.eb 23 (aH a)]
theorem akl(a:aa G){i:Nat}(b:i<100):ak zZq G 0 (kR (kIn (bV f322))) (lay 42 (PI nm N bs rest yv i) []) .normal (lay 42 (PI nm N bs rest yv (i+1)) []):=
 ak.r a [.eq 41 (bQ (cw (i:=i) (by omega)))]
theorem aiq(a:aa G){i j:Nat}(b:j<100):ak zZq G 0 (kR (kR (xT (bV f322)))) (lay 42 (KV nm N bs rest yv i j) []) .normal (lay 42 (KV nm N bs rest yv i (j+1)) []):=
 ak.r a [.eq 25 (bQ (cw (i:=j) (by omega)))]
theorem akk(c:aa G){i j:Nat}{b a:Bool}(h:(b&&a)=false)(d:Spec zZq G 297 [jv nm N bs rest,nat i] (bool b))(e:Spec zZq G 297 [jv nm N bs rest,nat j] (bool a)):
  ak zZq G 0 (D1 (bV f322)) (lay 42 (KV nm N bs rest yv i j) []) .normal (lay 42 (KV nm N bs rest yv i j) []):=by
 cases b with
 |false=>exact ak.r c [.call d]
 |true=>
  cases a with
  |false=>exact ak.r c [.call d,.call e]
  |true=>cases h
def itM(nm:D)(N:Nat)(bs rest:List D)(yv:Value)(i j:Nat):List (Nat×D):=(34,bool true)::(35,.lit yv)::(36,nat i)::(37,nat j)::KV nm N bs rest yv i j
theorem akj(_:aa G){i j:Nat}(b:Spec zZq G 297 [jv nm N bs rest,nat i] (bool true))(a:Spec zZq G 297 [jv nm N bs rest,nat j] (bool true)):
  BG zZq (xb (kL (D1 (bV f322)))).toArray ((xb (kL (D1 (bV f322)))).take 12) (lay 42 (KV nm N bs rest yv i j) []) [Item.call b,Item.call a] ((itM nm N bs rest yv i j).map (·.1))=some ((itM nm N bs rest yv i j).map (·.2),[],said [Item.call b,Item.call a]):=by
 kernel_rfl
end Gr
end Lw
namespace Lw
open Go Go.RowKit Go.Proofs
variable {P:Program} {G:World→Prop}
theorem Cg{β:Type}{B:Nat}{J:β→World→Prop}(h:AbidesFrom B J){s:β}{W b:World}(c:J s W)(a:Below W.heap.size W b):J s b:=
 h s W b none c ⟨a.os,a.tape,a.output,a.size,fun k d _=>a.block k d⟩ (fun r e=>by cases e)
def wF(o:Oper):Option (Operand×Array Operand):=match o.op with
 |.call c=>match c.callee with
  |.value f=>some (f,c.args)
  |_=>none
 |_=>none
theorem RU{o:Oper}{f:Operand}{args:Array Operand}(h:wF o=some (f,args)):∃c,o.op=.call c∧c.callee=.value f∧c.args=args:=by
 unfold wF at h;split at h
 ·rename_i c b
  split at h
  ·rename_i g a
   simp only[Option.some.injEq,Prod.mk.injEq]at h;exact⟨c,b,by rw[a,h.1],h.2⟩
  ·cases h
 ·cases h
theorem Mz{o:Oper}{ρ:Operand→Value}{W:World}{c:Call}{l:Nat}{vs:Array Value}{f:Operand}{r:Result Next}(g:o.op=.call c)(d:c.callee=.value f)(b:ρ f=.func (.yield l) #[] #[])(e:c.args.map ρ=vs)(a:(Instr.yield l vs).run P W=r):(execOp ρ o).run P W=r:=by
 simp[execOp,g,resolve,d,b,invoke,e,a,Deferred.ofValue,go_sem]
theorem Qa{o:Oper}{c:Call}{r:Option Nat}{ρ:Operand→Value}(a:o.op=.call c):o.semAt r ρ=execOp ρ o:=by
 unfold Oper.semAt;rw[a];cases r<;>rfl
theorem Xp{n m:Nat}{l:List (Nat×D)}{ops:Array Oper}{o:Oper}{rest:List Oper}{Q:Exit→Act→World→Prop}{a:Act}{W:World}{f:Operand}{args:Array Operand}{g:Nat}{vs:Array Value}{t:Nat}
  (s:wF o=some (f,args)) (y:o.dst=some t) (i:kS ops o (lay n l []).fs.tmp=some true)
  (r:Rel (cx P G none W) n (lay n l []).fs a W) (w:a.eval f=.func (.yield g) #[] #[]) (A:args.map a.eval=vs)
  {R:Ending→World→Prop} (p:YieldAt Fence.wide m P g vs W R) (B:∀e d,R e d→∃v,e=.returned v∧wpListIn (Fw none) 0 P ops Q rest (a.put (some t) v) d):
  wpListIn (Fw none) 0 P ops Q (o::rest) a W:=by
 obtain⟨c,k,z,F⟩:=RU s;obtain⟨β,X,E⟩:=r;have hw:=GL E ops o true i;obtain⟨fn,tmps,assign,b,H,j⟩:=p;have q:(execOp a.eval o).run P W=.ok (.round g fn tmps assign b) W:=Mz k z w (by rw[F];exact A) H
 refine wpListIn_step fun K C=>?_
 rw[apB hw];refine⟨fun _ _=>trivial,?_⟩
 rw[Qa k,q,Oper.uponIn_round];refine⟨(fun h=>by cases h),(Uz (m:=0-1) rfl j).mono ?_⟩
 intro e d x;obtain⟨v,rfl,u⟩:=B e d x;rw[y];exact C _ _ u
theorem Rel.z9{r:Option Nat}{w:World}{n:Nat}{s:FSt}{a:Act}(h:Rel (cx P G r w) n s a w){t:Nat}{v:Value}(e:s.tmp t=.lit v):a.tmps.getD t undef=v:=by
 obtain⟨β,X,c⟩:=h;have b:=c.tmp t;rw[e]at b;exact sA (b.pure rfl) (v:=v) rfl
namespace Gr
variable {nm:D} {N:Nat} {bs rest:List D} {yv:Value}
theorem aiT:((xb (kL (D1 (bV f322)))).drop 12).length=3:=by kernel_rfl
theorem aiU:((xb (kL (D1 (bV f322)))).drop 12).head?.map (fun o=>(wF o,o.dst,o.guard))=some (some (.tmp 35,#[.tmp 36,.tmp 37]),some 38,some (8,true)):=by kernel_rfl
theorem three{L:List Oper}(h:(L.drop 12).length=3)(a:(L.drop 12).head?.map (fun o=>(wF o,o.dst,o.guard))=some (some (.tmp 35,#[.tmp 36,.tmp 37]),some 38,some (8,true))):
  ∃o,L.drop 12=o::L.drop 13∧wF o=some (.tmp 35,#[.tmp 36,.tmp 37])∧o.dst=some 38∧o.guard=some (8,true):=by
 have e:L.drop 13=(L.drop 12).drop 1:=by rw[List.drop_drop]
 rw[e];generalize L.drop 12=M at h a;cases M with
 |nil=>cases a
 |cons o M=>
  simp only[List.head?_cons,Option.map_some,Option.some.injEq,Prod.mk.injEq]at a;exact⟨o,rfl,a.1,a.2.1,a.2.2⟩
theorem akC:∃o,(xb (kL (D1 (bV f322)))).drop 12=o::(xb (kL (D1 (bV f322)))).drop 13∧wF o=some (.tmp 35,#[.tmp 36,.tmp 37])∧o.dst=some 38∧o.guard=some (8,true):=by
 have b:=aiT;have a:=aiU;generalize(xb (kL (D1 (bV f322))))=L at b a⊢;exact three b a
theorem op8:(((xb (kL (D1 (bV f322)))).toArray)[8]?.bind (·.dst))=some 34:=by kernel_rfl
theorem abI:kR (D1 (bV f322))=.cond (.tmp 40) .ret .skip:=by kernel_rfl
theorem aiy{i j:Nat}:
  BG zZq (G:=G) (xb (kL (D1 (bV f322)))).toArray ((xb (kL (D1 (bV f322)))).drop 13) (lay 42 ((38,bool true)::itM nm N bs rest yv i j) []) [] (((40,bool false)::KV nm N bs rest yv i j).map (·.1))=some (((40,bool false)::KV nm N bs rest yv i j).map (·.2),[],said ([]:List (Item zZq G))):=by
 kernel_rfl
def itE(i j:Nat):List (Nat×D):=[(38,bool false),(34,bool true),(36,nat i),(37,nat j)]
theorem aix{i j:Nat}:
  BG zZq (G:=G) (xb (kL (D1 (bV f322)))).toArray ((xb (kL (D1 (bV f322)))).drop 13) (lay 42 (itE i j) []) [] [40]=some ([bool true],[],said ([]:List (Item zZq G))):=by
 kernel_rfl
end Gr
end Lw
namespace Lw
open Go Go.RowKit Go.Proofs
namespace Gr
variable {G:World→Prop} {nm:D} {N:Nat} {bs rest:List D} {yv:Value}
theorem aeq(F:aa G){i j l m m':Nat}{W:World}{a:Act}{Q:Exit→Act→World→Prop}(w:yv=.func (.yield l) #[] #[])
  (X:Spec zZq G 297 [jv nm N bs rest,nat i] (bool true)) (V:Spec zZq G 297 [jv nm N bs rest,nat j] (bool true))
  (O:Rel (cx zZq G none W) 42 (lay 42 (KV nm N bs rest yv i j) []).fs a W) (T:G W) {Jt Je:World→Prop}
  (M:∀g,G g→Below W.heap.size W g→YieldAt Fence.wide m' zZq l (Lg (i,j)) g fun e c=>(e=.returned (.bool true)∧iI g c∧G c∧Jt c)∨(e=.returned (.bool false)∧Je c))
  (C:∀W c,Jt W→Below W.heap.size W c→Jt c) (E:∀W c,Je W→Below W.heap.size W c→Je c)
  (B:∀q c,Rel (cx zZq G none c) 42 (lay 42 (KV nm N bs rest yv i j) []).fs q c→G c→Jt c→Q .normal q c)
  (A:∀q c,Rel (cx zZq (fun _=>True) none c) 42 (lay 42 [(40,bool true)] []).fs q c→Je c→Q .ret q c):
  (D1 (bV f322)).wpIn Fence.wide m zZq Q a W:=by
 subst w;obtain⟨o,R,H,Z,K3⟩:=akC;refine oJ aje (PM (n:=0) rfl (wpIn_region_list ?_));have el:(xb (kL (D1 (bV f322)))).toArray.toList=(xb (kL (D1 (bV f322)))).take 12++(xb (kL (D1 (bV f322)))).drop 12:=by
  rw[List.take_append_drop]
 rw[el,R];refine QC (r:=none) (ar ..) _ F (akj F X V) O T fun a1 g d z L=>?_
 have v0:a1.eval (.tmp 35)=.func (.yield l) #[] #[]:=d.z9 (t:=35) (by rw[dN];rfl)
 have v1:a1.eval (.tmp 36)=.int .i64 (zNq i):=d.z9 (t:=36) (by rw[dN];rfl)
 have v2:a1.eval (.tmp 37)=.int .i64 (zNq j):=d.z9 (t:=37) (by rw[dN];rfl)
 refine Xp (m:=m') (vs:=Lg (i,j)) H Z ?_ d v0 (by rw[List.map_toArray];show [a1.eval (.tmp 36),a1.eval (.tmp 37)].toArray=Lg (i,j);rw[v1,v2];rfl) (M g z L) ?_
 ·unfold kS
  rw[K3];simp only[op8];rw[dN];rfl
 ·intro e Y U
  rcases U with⟨rfl,S,y,x⟩|⟨rfl,x⟩
  ·refine⟨_,rfl,?_⟩
   have J:=(d.keeps (fun b=>oW 42 _ b) S).YA (t:=38) (v:=.bool true) (by omega)
   have:=QC (r:=none) (P:=zZq) (l2:=[]) (l1:=(xb (kL (D1 (bV f322)))).drop 13) (ar ..) [] F aiy J y (Q:=Exit.then ((kR (D1 (bV f322))).wpIn Fence.wide m zZq Q) Q) fun k u f h I=>by
    show Code.wpIn Fence.wide m zZq _ Q k u;rw[abI];refine wpIn_cond_false (f.z9 (t:=40) (by rw[dN];rfl)) (wpIn_skip ?_)
    refine B k u ?_ h (C _ _ x I);have hm:=f.mask (s:=lay 42 ((40,bool false)::KV nm N bs rest (.func (.yield l) #[] #[]) i j) []) (gb:=0) (keepT:=(KV nm N bs rest (.func (.yield l) #[] #[]) i j).map (·.1)) (keepB:=[]) (ns:=[]) (alE _) (by kernel_rfl)
    have e:=qu (s:=lay 42 ((40,bool false)::KV nm N bs rest (.func (.yield l) #[] #[]) i j) []) (n:=42) (l:=KV nm N bs rest (.func (.yield l) #[] #[]) i j) (bl:=[]) (ns:=[]) (ar ..) (by kernel_rfl) rfl
    simp only[List.map_nil]at e;rw[e]at hm;exact hm
   rwa [amX]at this
  ·refine⟨_,rfl,?_⟩
   have J:=(d.YA (t:=38) (v:=.bool false) (by omega)).lits (G':=fun _=>True) (r':=none) (w':=Y) (l:=itE i j) (by
    intro p K;simp only[itE,List.mem_cons,List.not_mem_nil,or_false]at K;rcases K with rfl|rfl|rfl|rfl
    ·exact⟨_,rfl,by rw[dN];rfl⟩
    ·exact⟨_,rfl,by rw[dN];rfl⟩
    ·exact⟨_,rfl,by rw[dN];rfl⟩
    ·exact⟨_,rfl,by rw[dN];rfl⟩)
   have:=QC (r:=none) (P:=zZq) (G:=fun _=>True) (l:=[(40,bool true)]) (l2:=[]) (l1:=(xb (kL (D1 (bV f322)))).drop 13) (ar ..) [] (fun _ _ _ _=>trivial) aix J trivial (Q:=Exit.then ((kR (D1 (bV f322))).wpIn Fence.wide m zZq Q) Q) fun k u f h I=>by
    show Code.wpIn Fence.wide m zZq _ Q k u;rw[abI];exact wpIn_cond_true (f.z9 (t:=40) (by rw[dN];rfl)) (wpIn_ret (A k u f (E _ _ x I)))
   rwa [amX]at this
theorem Z4{G':World→Prop}{l:List (Nat×D)}{a:Act}{W:World}{R:Ending→World→Prop}(c:Rel (cx zZq G' none W) 42 (lay 42 l []).fs a W)(h:∀v,R (.returned v) W):a.defers=[]∧∃v,(results f322 a.tmps).run zZq W=.ok v W∧R (.returned v) W:=by
 obtain⟨β,X,b⟩:=c;refine⟨b.defers,?_⟩;obtain⟨e,d,-⟩:=lY (s:=lay 42 l []) b (fn:=f322) (ds:=[]) (by kernel_rfl)
 exact⟨_,d,h _⟩
theorem Qz{free:Nat→Bool}(g:aa G)(hN:N<100){O:Value}{w S:World}{l m:Nat}(Y:cU w (fun _=>False) O (.aV [jv nm N bs rest]))(hw:G w)
  (cf:∀i,i<N→Spec zZq G 297 [jv nm N bs rest,nat i] (bool (free i))) (J H:List (Nat×Nat)→World→Prop) (E:Below w.heap.size w S)
  (s:∀pre W p,J pre W→Below W.heap.size W p→J pre p) (Z:∀pre W p,H pre W→Below W.heap.size W p→H pre p)
  (hY:∀pre i j t,i<j→j<N→free i=true→free j=true→J pre t→pre.length<N*N+1→YieldAt Fence.wide (m-1) zZq l (Lg (i,j)) t fun e p=>
   (e=.returned (.bool true)∧J (pre++[(i,j)]) p∧Kp w.heap.size t p)∨(e=.returned (.bool false)∧H (pre++[(i,j)]) p)) (h0:J [] S):
  CallsIn Fence.wide m zZq 322 (#[.func (.yield l) #[] #[]]++ #[O]) S fun e p=>(∃v,e=.returned v)∧((∃xs,xs=Lp N free N 0∧J xs p)∨
   ∃pre,(∃i j,i<j∧j<N∧free i=true∧free j=true∧pre=Lp N free i j++[(i,j)])∧H pre p):=by
 have I:∀W,Below w.heap.size w W→G W:=fun W h=>g _ _ h hw
 have more:∀{W p:World},Below w.heap.size w W→Below W.heap.size W p→Below w.heap.size w p:=fun h k=>h.trans (k.mono h.size)
 have aaa:Rel (cx zZq G none S) 42 (fN 42 [.lit (.func (.yield l) #[] #[]),.aV [jv nm N bs rest]] []).fs {tmps:= #[.func (.yield l) #[] #[]]++ #[O]++Array.replicate (42-(#[.func (.yield l) #[] #[]]++ #[O]:Array Value).size) undef,defers:=[]} S:=
  Rel.start (vals:=[.func (.yield l) #[] #[],O]) (by simp) ⟨rfl,fun i A M=>by
   match i,A with
   |0,_=>exact .lit _
   |1,_=>exact Y.mono (fun a u h hx=>⟨(iI.xD E).cell h,hx⟩)⟩
 refine callsIn_of_wp (fn:=f322) (c:=bV f322) (by kernel_rfl) (by kernel_rfl) trivial ?_
 refine oJ Z2 (mh (r:=none) (pD (by simp)) (ako g) aaa g (I _ E) fun a W d q b=>?_)
 show Code.wpIn Fence.wide m zZq _ _ a W;refine yf rfl (S_ rfl (fun n a W=>∃i,n+i=N∧Rel (cx zZq G none W) 42 (lay 42 (PI nm N bs rest (.func (.yield l) #[] #[]) i) []).fs a W∧Below w.heap.size w W∧J (Lp N free i 0) W) N ⟨0,rfl,d,more E b,s _ _ _ h0 b⟩ ?_)
 rintro n0 a W ⟨i,hi,d,o,f⟩
 refine oJ Z1 ?_;by_cases cM:i<N
 ·refine mh (r:=none) (ar ..) (aiv g cM) d g (I _ o) fun a t d q b=>?_
  replace o:=more o b;replace f:=s _ _ _ f b
  show Code.wpIn Fence.wide m zZq _ _ a t;refine oJ rfl (mh (r:=none) (ar ..) (ait g) d g q fun a x d q b=>?_)
  replace o:=more o b;replace f:=s _ _ _ f b
  show Code.wpIn Fence.wide m zZq _ _ a x;refine oJ rfl (yf rfl ?_);refine oJ ag8 (mh (r:=none) (ar ..) (akn g) d g q fun a W3 d q b=>?_)
  replace o:=more o b;replace f:=s _ _ _ f b
  show Code.wpIn Fence.wide m zZq _ _ a W3;refine oJ rfl (mh (r:=none) (ar ..) (akm g (by omega)) d g q fun a W4 d q b=>?_)
  replace o:=more o b;replace f:=s _ _ _ f b
  show Code.wpIn Fence.wide m zZq _ _ a W4;rw[aj8]at f;refine yf rfl (S_ rfl (fun n a W=>∃j,n+j=N∧i<j∧Rel (cx zZq G none W) 42 (lay 42 (KV nm N bs rest (.func (.yield l) #[] #[]) i j) []).fs a W∧Below w.heap.size w W∧J (Lp N free i j) W) (N-(i+1)) ⟨i+1,by omega,by omega,d,o,f⟩ ?_)
  clear d o f q b;rintro n a W ⟨j,hnj,T,d,o,f⟩;refine oJ Z3 ?_;by_cases z:j<N
  ·refine mh (r:=none) (ar ..) (air g z) d g (I _ o) fun a t d q b=>?_
   replace o:=more o b;replace f:=s _ _ _ f b
   show Code.wpIn Fence.wide m zZq _ _ a t;refine oJ rfl (yf rfl ?_);have C:=cf i cM;have B:=cf j z;by_cases y:free i=true∧free j=true
   ·have K:Lp N free i (j+1)=Lp N free i j++[(i,j)]:=by rw[Ff,apB ⟨T,y.1,y.2⟩]
    rw[y.1]at C;rw[y.2]at B;refine aeq (l:=l) (Jt:=fun p=>Below w.heap.size w p∧J (Lp N free i (j+1)) p) (Je:=H (Lp N free i (j+1))) g rfl C B d q (m':=m-1) ?_ ?_ ?_ ?_ ?_
    ·intro x hg2 xX
     have Q:=more o xX;obtain⟨fn,tmps,assign,P,A,M⟩:=hY _ i j x T z y.1 y.2 (s _ _ _ f xX) (ah' N free cM (by omega))
     refine⟨fn,tmps,assign,P,A,M.mono ?_⟩;rintro e p (⟨he,F,U⟩|⟨he,F⟩)
     ·exact .inl ⟨he,U.1,I _ (Q.trans U.2),Q.trans U.2,by rw[K];exact F⟩
     ·exact .inr ⟨he,by rw[K];exact F⟩
    ·rintro W p ⟨A,M⟩ b;exact⟨more A b,s _ _ _ M b⟩
    ·intro W p A b;exact Z _ _ _ A b
    ·rintro a x d q ⟨o,f⟩
     show Code.wpIn Fence.wide m zZq _ _ a x;refine mh (r:=none) (ar ..) (aiq g (by omega)) d g q fun a W3 d q b=>?_
     show∃L,L<n∧_;exact⟨n-1,by omega,j+1,by omega,by omega,d,more o b,s _ _ _ f b⟩
    ·intro a x d V
     exact Z4 (R:=fun e p=>(∃v,e=.returned v)∧((∃xs,xs=Lp N free N 0∧J xs p)∨∃pre,(∃i j,i<j∧j<N∧free i=true∧free j=true∧pre=Lp N free i j++[(i,j)])∧H pre p)) d fun v=>⟨⟨v,rfl⟩,.inr ⟨_,⟨i,j,T,z,y.1,y.2,K⟩,V⟩⟩
   ·have K:Lp N free i (j+1)=Lp N free i j:=by rw[Ff,apA (by rintro⟨-,h⟩;exact y h),amX]
    have X:(free i&&free j)=false:=by
     cases A:free i<;>cases M:free j<;>simp_all
    refine mh (r:=none) (ar ..) (akk g X C B) d g q fun a x d q b=>?_
    replace o:=more o b;replace f:=s _ _ _ f b
    show Code.wpIn Fence.wide m zZq _ _ a x;refine mh (r:=none) (ar ..) (aiq g (by omega)) d g q fun a W3 d q b=>?_
    show∃L,L<n∧_;exact⟨n-1,by omega,j+1,by omega,by omega,d,more o b,by rw[K];exact s _ _ _ f b⟩
  ·refine mh (r:=none) (ar ..) (ais g (by omega)) d g (I _ o) fun a t d q b=>?_
   replace o:=more o b;replace f:=s _ _ _ f b
   rw[show j=N by omega,R9]at f
   show Code.wpIn Fence.wide m zZq _ _ a t;refine mh (r:=none) (ar ..) (akl g (by omega)) d g q fun a x d q b=>?_
   show∃L,L<n0∧_;exact⟨n0-1,by omega,i+1,by omega,d,more o b,s _ _ _ f b⟩
 ·refine mh (r:=none) (ar ..) (aiw g (by omega)) d g (I _ o) fun a t d q b=>?_
  replace o:=more o b;replace f:=s _ _ _ f b
  show Code.wpIn Fence.wide m zZq _ _ a t;refine oJ rfl (mh (r:=none) (ar ..) (aiu g) d g q fun a x d q b=>?_)
  replace f:=s _ _ _ f b
  rw[show i=N by omega]at f
  exact Z4 (R:=fun e p=>(∃v,e=.returned v)∧((∃xs,xs=Lp N free N 0∧J xs p)∨∃pre,(∃i j,i<j∧j<N∧free i=true∧free j=true∧pre=Lp N free i j++[(i,j)])∧H pre p)) d fun v=>⟨⟨v,rfl⟩,.inl ⟨_,rfl,f⟩⟩
abbrev Pr(N:Nat)(free:Nat→Bool):={x:Nat×Nat//x.1<x.2∧x.2<N∧free x.1=true∧free x.2=true}
theorem UP{free:Nat→Bool}(C:aa G)(A:N<100){t:Value}{w:World}{m:Nat}(d:cU w (fun _=>False) t (.aV [jv nm N bs rest]))(hw:G w)
  (I:∀i,i<N→Spec zZq G 297 [jv nm N bs rest,nat i] (bool (free i))):
  SeqStopsK Fence.wide m zZq 322 #[t] (fun x:Pr N free=>Lg x.1) (Kp w.heap.size) (fun xs=>xs.map (·.1)=Lp N free N 0)
   (fun pre=>∃i j,i<j∧j<N∧free i=true∧free j=true∧pre.map (·.1)=Lp N free i j++[(i,j)]) (N*N+1) w:=by
 intro l J L O g B k z H;refine(Qz (nm:=nm) (bs:=bs) (rest:=rest) C A d hw I (fun p W=>∃xs:List (Pr N free),xs.map (·.1)=p∧J xs W) (fun p W=>∃xs:List (Pr N free),xs.map (·.1)=p∧L xs W) g
  (fun pre W r ⟨xs,e,h⟩ f=>⟨xs,e,Cg B h f⟩) (fun pre W r ⟨xs,e,h⟩ f=>⟨xs,e,Cg k h f⟩) ?_ ⟨[],rfl,H⟩).mono ?_
 ·rintro pre i j K u y f1 f2 ⟨xs,e,h⟩ hlen
  obtain⟨fn,tmps,assign,b,o,n⟩:=z xs ⟨(i,j),u,y,f1,f2⟩ K h (by rw[←e,alR]at hlen;exact hlen)
  refine⟨fn,tmps,assign,b,o,n.mono ?_⟩;rintro M r (⟨he,a,v⟩|⟨he,a⟩)
  ·exact .inl ⟨he,⟨_,by rw[an_,e];rfl,a⟩,v⟩
  ·exact .inr ⟨he,⟨_,by rw[an_,e];rfl,a⟩⟩
 ·rintro e r ⟨s,(⟨xs,rfl,c,q,h⟩|⟨pre,⟨i,j,o,n,F,E,rfl⟩,c,q,h⟩)⟩
  ·exact⟨s,.inl ⟨c,q,h⟩⟩
  ·exact⟨s,.inr ⟨c,⟨i,j,o,n,F,E,q⟩,h⟩⟩
end Gr
end Lw

namespace Lw
namespace Tw
open Go Go.RowKit Go.Proofs fL
variable {G:World→Prop}
def Raw.ajS(r:Raw):Prop:=fS r.n∧fS r.d
end Tw
end Lw
namespace Lw
namespace fL
open zY fw
theorem w5.nil(δ:Nat):w5 δ []:=⟨1,0,by omega,am2 (by omega),amd _,fun j=>by simp only[List.getD_nil];exact .nil _ _⟩
theorem w5.snoc{δ n:Nat}{t:aS}{d:List Rat}(h:w5 δ t)(i:Bt n d):w5 (δ+n) (t++[d]):=by
 obtain⟨Δ,Β,m,b,l,k⟩:=h;obtain⟨D,B,q,c,p,o⟩:=i;have q0:Δ*D≤2^δ*2^n:=al' b c;have g:Β*D≤2^δ*2^n:=al' l c;have a:B*Δ≤2^n*2^δ:=al' p b;rw[alS (2^n)]at a;refine⟨Δ*D,2^δ*2^n,amK m q,by rw[amr];exact q0,by rw[amr];exact alE _,fun j=>?_⟩
 have e:(t++[d]).getD j []=if j<t.length then t.getD j []else if j=t.length then d else []:=by
  simp only[List.getD_eq_getElem?_getD,List.getElem?_append];split
  ·rfl
  ·rename_i r
   by_cases f:j=t.length
   ·subst f;simp
   ·rw[apA f,alX (by simp;omega)];rfl
 rw[e];split
 ·exact((k j).scale D).mono g
 ·split
  ·have:=o.scale Δ
   rw[alS D]at this;exact this.mono a
  ·exact .nil _ _
end fL
end Lw
namespace Lw
namespace Tw
open Go Go.RowKit Go.Proofs fL
variable {G:World→Prop}
theorem PG{m n:Nat}{t u:aS}(h:w5 m t)(e:m=n)(a:t=u):w5 n u:=e▸a▸h
theorem aeM{t:aS}(h:t.length≤2)(e:∀d∈t,d.length≤2)(b:∀d∈t,xd 2 d):w5 512 t:=by
 have one:∀d∈t,Bt 256 d:=fun d a=>(Bt.Zj (b d a)).mono (by have:=e d a;omega)
 match t,h,one with
 |[],_,_=>exact w5.nil 512
 |[d],_,one=>exact PG ((w5.nil 256).snoc (one d (by simp))) (by omega) rfl
 |[d,c],_,one=>exact PG (((w5.nil 0).snoc (one d (by simp))).snoc (one c (by simp))) (by omega) rfl
 |_::_::_::_,h,_=>exact apC h (by simp)
end Tw
end Lw
