/- Part 6. -/
import Derived.Test.YtmcpfihkambgnaaGreatLw05
open Int renaming ofNat→zNq
open Int renaming ofNat_eq_natCast→zKq
open Go.Proofs.Tryz renaming prog→zZq
open Go.Proofs.Tryz
namespace Lw
open Go Go.RowKit Go.Proofs
variable {G:World→Prop}
theorem ahU(a:aa G)(l:List Nat)(i:Nat)(h:l.length≤i):Spec zZq G 291 [az l,nat i] (u64 0):=
 Spec.r a func291 [] [.eb 8 (x:=decide (zNq i<zNq l.length)) (y:=false) (by simp;omega)]
theorem ajX(b:aa G)(l:List Nat)(a:fS l)(i:Nat)(h:i<l.length):Spec zZq G 291 [az l,nat i] (u64 (l.getD i 0)):=
  Spec.r b func291 [] [.eb 8 (x:=decide (zNq i<zNq l.length)) (y:=true) (by simp;omega),.prop (c9 h),.prop (bu h),.eq 12 (a8 h),
     .eq 13 (bO (x:=IntKind.wrap .u64 (zNq (l.getD i 0))) (y:=zNq (l.getD i 0)) (wrap64 (by have:=a.getD i;omega)))]
theorem gK(a:aa G)(l:List Nat)(b:fS l)(i:Nat):Spec zZq G 291 [az l,nat i] (u64 (l.getD i 0)):=by
 rcases alU i l.length with h|h
 ·exact ajX a l b i h
 ·have:=ahU a l i h
  rwa [show l.getD i 0=0 by simp[List.getD_eq_getElem?_getD,List.getElem?_eq_none h]]
theorem IA:∀l:List Nat,val (l++[0])=val l
 |[]=>rfl
 |x::l=>by show x+4294967296*val (l++[0])=_;rw[IA l];rfl
theorem J9{m:List Nat}(h:m≠[])(a:m.getD (m.length-1) 0=0):val m.dropLast=val m:=by
 have b:=List.dropLast_concat_getLast h;have d:m.getLast h=0:=by
  rw[List.getLast_eq_getElem];have c:m.length-1<m.length:=by have:=amJ.2 h;omega
  rw[alD,alK c]at a;exact a
 rw[d]at b
 conv=>rhs;rw[←b]
 rw[IA]
theorem Ll{m:List Nat}(h:fS m):fS m.dropLast:=by rw[List.dropLast_eq_take];exact h.take _
def uQ(m:List Nat):St:=lay 25 [(3,az m)] []
theorem MA(c:aa G){m:List Nat}(d:m.length<2^60)(h:m≠[])(b:m.getD (m.length-1) 0=0):
    ak zZq G 0 (ah f225 0) (uQ m) .normal (uQ m.dropLast):=by
  have a:0<m.length:=amJ.2 h;have e:D.row ((zNq (m.length-1)).toNat-(0:Int).toNat) (false&&false) (((m.map u32).drop ((0:Int).toNat*1)).take (((zNq (m.length-1)).toNat-(0:Int).toNat)*1))=az m.dropLast:=by
    simp only[zKq,Int.toNat_natCast,Int.toNat_zero,Nat.mul_one,Nat.sub_zero,List.drop_zero,Bool.false_and];rw[←aoi,←List.dropLast_eq_take];unfold az;rw[ao7]
  exact ak.r c [.eb 9 (x:=decide (zNq m.length>0)) (y:=true) (by simp;omega),.eq 14 (bQ (kG (i:=m.length) (by omega) a)),.prop (c9 (l:=m) (i:=m.length-1) (by omega)),.prop (bu (l:=m) (i:=m.length-1) (by omega)),
     .eq 16 (a8 (l:=m) (i:=m.length-1) (by omega)),.eb 17 (x:=zNq (m.getD (m.length-1) 0)==0) (y:=true) (by rw[b];rfl),.eq 22 (bQ (kG (i:=m.length) (by omega) a)),
     .prop (p:=(0:Int)≤0∧0≤zNq (m.length-1)∧zNq (m.length-1)≤(m.length:Int)) (by simp only[zKq];omega),.eq 23 e]
theorem Qe(b:aa G){m:List Nat}(f:m.length<2^60)(e:fS m)(a:m≠[]→m.getD (m.length-1) 0≠0):
    ak zZq G 0 (ah f225 0) (uQ m) (.exit 0) (uQ (words (val m))):=by
  rw[DH e a];by_cases h:m=[]
  · subst h
    exact ak.r b []
  · have d:0<m.length:=amJ.2 h
    have c:(zNq (m.getD (m.length-1) 0)==0)=false:=by rw[beq_eq_false_iff_ne];have:=a h;simp only[zKq];omega
    exact ak.r b [.eb 9 (x:=decide (zNq m.length>0)) (y:=true) (by simp;omega),.eq 14 (bQ (kG (i:=m.length) (by omega) d)),.prop (c9 (l:=m) (i:=m.length-1) (by omega)),.prop (bu (l:=m) (i:=m.length-1) (by omega)),
       .eq 16 (a8 (l:=m) (i:=m.length-1) (by omega)),.eb 17 c]
theorem Qd(b:aa G){l:List Nat}(i:fS l)(j:l.length<2^60):
  bT zZq G 25 0 (.loop (ah f225 0)) (lay 25 [(3,az l)] []) (.exit 0) (uQ (words (val l))):=by
 refine bT.rounds (fun m:List Nat=>fS m∧val m=val l∧m.length<2^60) uQ (fun m=>m.length) (fun m=>ar _ _ _) (by simp) (fun m h=>?_) l ⟨i,rfl,j⟩
 obtain⟨e,d,c⟩:=h;by_cases a:m≠[]∧m.getD (m.length-1) 0=0
 ·left
  have k:0<m.length:=amJ.2 a.1;exact⟨m.dropLast,⟨Ll e,by rw[J9 a.1 a.2,d],by rw[ao7];omega⟩,by rw[ao7];omega,MA b c a.1 a.2⟩
 ·right
  rw[←d];exact Qe b c e (fun g f=>a ⟨g,f⟩)
theorem iP(a:aa G){l:List Nat}(b:fS l)(e:l.length≤2^45):Spec zZq G 225 [az l] (az (words (val l))):=by
  have c:=apI;exact Spec.r a func225 [6] [.prop (p:=([]:List D).length=0*1∧(l.map u32).length=l.length*1∧0+l.length≤2^62∧(0+l.length)*4≤2^47) (by simp;omega),
     .eq 6 (d:=.row (0+l.length) false ([]++l.map u32)) (d':=az l) (by simp[az]),.code (Qd a b (by omega))]
theorem DP(a:aa G){s:Bool}{n:Nat}(b:s=true→0<n)(f:(words n).length≤2^44):Spec zZq G 231 [wv s n] (bool true):=by
  have d:=apJ;rcases alT n with h|h
  · subst h
    cases s with
    |true=>have:=b rfl;omega
    |false=>exact Spec.r a func231 [1] []
  · have c:=ef (n:=n) (by omega)
    have e:=nk (n:=n) (by omega)
    exact Spec.r a func231 [1] [.eb 6 (lL h),.eq 15 (bQ (kG (i:=(words n).length) (by omega) c)),.prop (c9 (l:=words n) (i:=(words n).length-1) (by omega)),.prop (bu (l:=words n) (i:=(words n).length-1) (by omega)),
       .eq 17 (a8 (l:=words n) (i:=(words n).length-1) (by omega)),.eb 18 (x:=(zNq ((words n).getD ((words n).length-1) 0) !=0)) (y:=true) (by rw[bne_iff_ne];simp only[zKq];omega)]
theorem et(a:aa G){s:Bool}{n:Nat}(b:s=true→0<n)(c:(words n).length≤2^44):Spec zZq G 168 [wv s n] (az (words n)):=
 Spec.r a func168 [1] [.call (DP a b c)]
theorem dH(a:aa G){s:Bool}{n:Nat}(b:s=true→0<n)(c:(words n).length≤2^44):Spec zZq G 170 [wv s n] (bool s):=
 Spec.r a func170 [1] [.call (DP a b c)]
theorem CD(a:aa G)(s:Bool){l:List Nat}(d:fS l)(c:l.length≤2^45):Spec zZq G 166 [bool s,az l] (wv (s&&decide (0<val l)) (val l)):=by
 rcases alT (val l)with h|h
 ·have b:=iP (G:=G) a d c
  rw[h]at b⊢;have e:(s&&decide (0<0))=false:=by simp
  rw[e];exact Spec.r a func166 [] [.call b,.eb 9 (x:=(zNq (words 0).length==0)) (y:=true) rfl]
 ·have e:(s&&decide (0<val l))=s:=by rw[apD h,aoD]
  rw[e];exact Spec.r a func166 [] [.call (iP a d c),.eb 9 (lL h)]
theorem kh(a:aa G)(s:Bool){n:Nat}(d:(words n).length≤2^44):Spec zZq G 166 [bool s,az (words n)] (wv (s&&decide (0<n)) n):=by
 have c:=apJ;have b:=apI;have:=CD (G:=G) a s (bb n) (by omega)
 rwa [aX]at this
theorem VU(N n:Nat):fc (N+1) n=fc N n++[n/BP N%4294967296]:=by simp[fc,List.range_succ]
theorem p8(N n:Nat):(fc N n).map u32++[u32 (n/BP N%4294967296)]=(fc (N+1) n).map u32:=by rw[VU];simp
theorem NX{n:Nat}{cs:List D}(h:cs.length=n)(c:n<2^45){x:D}:0<1∧cs.length=n*1∧[x].length=1*1∧n+1≤2^62∧(n+1)*4≤2^47:=by
 have b:=apI;have a:=apN;have d:=apM;exact⟨by omega,by omega,rfl,by omega,by omega⟩
theorem mu{n:Nat}{cs:List D}(h:cs.length=n)(d:n<2^45){x:D}(a:x.iq=true:=by rfl):[x].all D.iq=true∧0<1∧cs.length=n*1∧[x].length=1*1∧n+1≤2^62∧(n+1)*4≤2^47:=by
 have c:=apI;have b:=apN;have e:=apM;exact⟨by simp[a],by omega,by omega,rfl,by omega,by omega⟩
def qh(l m:List Nat):Nat→St
 |0=>lay 37 [(0,az l),(1,az m),(5,.row 0 true []),(6,u64 0),(14,nat (dI l m)),(15,nat 0)] []
 |i+1=>lay 37 [(0,az l),(1,az m),(5,.cR 0 (i+1) 1),(6,u64 (mz (val l) (val m) (i+1))),(14,nat (dI l m)),(15,nat (i+1))] [(0,(fc (i+1) (val l+val m)).map u32)]
theorem ME(a:aa G){l m:List Nat}(d:fS l)(c:fS m){i:Nat}(g:i<dI l m)(k:dI l m<2^45):
    ak zZq G 0 (ah f230 0) (qh l m i) .normal (qh l m (i+1)):=by
  have h:=apI;have j:=apH;have b:=Dt (val l) (val m) i;have f:=Hi (val l) (val m) i;rw[←dh d,←dh c]at b f;have q:=d.getD i;have p:=c.getD i;have o:=Lv (val l) (val m) i;cases i with
  |zero=>
    rw[Ds]at b f;have e:qh l m (0+1)=lay 37 [(0,az l),(1,az m),(5,.cR 0 (0+1) 1),(6,u64 (mz (val l) (val m) (0+1))),(14,nat (dI l m)),(15,nat (0+1))] [(0,[]++[u32 ((val l+val m)/BP 0%4294967296)])]:=by
      show lay 37 _ _=_;rw[←p8];rfl
    rw[e];clear e;exact ak.r a [.eb 16 (ay g),.call (gK a l d 0),.call (gK a m c 0),
       .eq 24 (bO (x:=IntKind.wrap .u64 (zNq (l.getD 0 0)+zNq (m.getD 0 0))) (y:=zNq (l.getD 0 0+m.getD 0 0)) (wrap64 (n:=l.getD 0 0+m.getD 0 0) (by omega))),
       .eq 26 (bO (x:=IntKind.wrap .u64 (zNq (l.getD 0 0+m.getD 0 0)+zNq 0)) (y:=zNq (0+(l.getD 0 0+m.getD 0 0))) (by rw[amv];exact wrap64 (n:=l.getD 0 0+m.getD 0 0) (by omega))),
       .eq 29 (gB (x:=IntKind.wrap .u32 (zNq (0+(l.getD 0 0+m.getD 0 0)))) (y:=zNq ((val l+val m)/BP 0%4294967296)) (by rw[←f];exact wrap32)),
       .prop (NX (n:=0) (cs:=[]) (x:=u32 ((val l+val m)/BP 0%4294967296)) rfl (by omega)),
       .eq 33 (bO (x:=(zNq (0+(l.getD 0 0+m.getD 0 0))).fdiv (2^min (Int.toNat 32) (IntKind.bits .u64))) (y:=zNq (mz (val l) (val m) (0+1))) (by rw[qY,←b])),
       .eq 34 (bQ (cw (i:=0) (by omega)))]
  |succ i=>
    have e:qh l m (i+1+1)=lay 37 [(0,az l),(1,az m),(5,.cR 0 (i+1+1) 1),(6,u64 (mz (val l) (val m) (i+1+1))),(14,nat (dI l m)),(15,nat (i+1+1))] [(0,(fc (i+1) (val l+val m)).map u32++[u32 ((val l+val m)/BP (i+1)%4294967296)])]:=by
      show lay 37 _ _=_;rw[p8]
    rw[e];clear e;exact ak.r a [.eb 16 (ay g),.call (gK a l d (i+1)),.call (gK a m c (i+1)),
       .eq 24 (bO (x:=IntKind.wrap .u64 (zNq (l.getD (i+1) 0)+zNq (m.getD (i+1) 0))) (y:=zNq (l.getD (i+1) 0+m.getD (i+1) 0)) (wrap64 (n:=l.getD (i+1) 0+m.getD (i+1) 0) (by omega))),
       .eq 26 (bO (x:=IntKind.wrap .u64 (zNq (l.getD (i+1) 0+m.getD (i+1) 0)+zNq (mz (val l) (val m) (i+1)))) (y:=zNq (mz (val l) (val m) (i+1)+(l.getD (i+1) 0+m.getD (i+1) 0)))
         (by rw[amR (mz (val l) (val m) (i+1))];exact wrap64 (n:=l.getD (i+1) 0+m.getD (i+1) 0+mz (val l) (val m) (i+1)) (by omega))),
       .eq 29 (gB (x:=IntKind.wrap .u32 (zNq (mz (val l) (val m) (i+1)+(l.getD (i+1) 0+m.getD (i+1) 0)))) (y:=zNq ((val l+val m)/BP (i+1)%4294967296)) (by rw[←f];exact wrap32)),
       .prop (mu (n:=i+1) (cs:=(fc (i+1) (val l+val m)).map u32) (x:=u32 ((val l+val m)/BP (i+1)%4294967296)) (by rw[alR,dz]) (by omega)),
       .eq 33 (bO (x:=(zNq (mz (val l) (val m) (i+1)+(l.getD (i+1) 0+m.getD (i+1) 0))).fdiv (2^min (Int.toNat 32) (IntKind.bits .u64))) (y:=zNq (mz (val l) (val m) (i+1+1))) (by rw[qY,←b])),
       .eq 34 (bQ (cw (i:=i+1) (by omega)))]
theorem Qj(a:aa G){l m:List Nat}:ak zZq G 0 (ah f230 0) (qh l m (max l.length m.length+1)) (.exit 0) (qh l m (max l.length m.length+1)):=
 ak.r a [.eb 16 (aH (alE (dI l m)))]
theorem Qi(a:aa G){l m:List Nat}(c:fS l)(b:fS m)(e:dI l m<2^45):
  bT zZq G 37 0 (.loop (ah f230 0)) (lay 37 [(0,az l),(1,az m),(5,.row 0 true []),(6,u64 0),(14,nat (dI l m)),(15,nat 0)] []) (.exit 0)
   (qh l m (max l.length m.length+1)):=
 bT.count (qh l m) (dI l m) (fun i=>by cases i<;>exact ar _ _ _) (by simp) (fun i d=>ME a c b d e) (Qj a)
theorem Qh(a:aa G){l m:List Nat}(e:fS l)(c:fS m)(n:l.length≤2^44)(k:m.length≤2^44):
    Spec zZq G 230 [az l,az m] (az (words (val l+val m))):=by
  have j:=apJ;have h:=apI;have g:dI l m<2^45:=by unfold dI;omega
  have f:=I2 e c;have b:=iP (G:=G) a (l:=fc (dI l m) (val l+val m)) (jx _ _) (by rw[dz];omega)
  rw[iN f]at b;refine Spec.r a func230 [] (args:=[az l,az m])
    [.eq 13 (bQ (EU l m)),.eq 14 (bQ (cw (i:=max l.length m.length) (by omega))),.code (Qi a e c g),.freeze 0,
     .eq 35 (d:=D.row (max l.length m.length+1) false (((fc (max l.length m.length+1) (val l+val m)).map u32).take ((max l.length m.length+1)*1))) (d':=az (fc (dI l m) (val l+val m))) ?_,.call b]
  unfold az dI;rw[al4 (by simp[dz]),dz]
end Lw
namespace Lw
open Go Go.RowKit Go.Proofs
variable {G:World→Prop}
theorem rN{x y:Nat}(h:y≤x)(a:x<18446744073709551616):IntKind.wrap .u64 (zNq x-zNq y)=zNq (x-y):=by
 rw[pU];simp only[zKq];omega
def Lz(x y c:Nat):Nat:=4294967296+x-y-c
theorem Ly{a b i:Nat}(h:b≤a):Lz (a/BP i%4294967296) (b/BP i%4294967296) (fB a b i)%4294967296=(a-b)/BP i%4294967296:=by
 have j:=Hb h i;have g:a/BP i%4294967296<4294967296:=al8 _ (by omega)
 have f:b/BP i%4294967296<4294967296:=al8 _ (by omega)
 have e:=wD a b i;have d:(a-b)/BP i%4294967296<4294967296:=al8 _ (by omega)
 unfold Lz;generalize a/BP i%4294967296=x at*;generalize b/BP i%4294967296=y at*;generalize(a-b)/BP i%4294967296=z at*;generalize fB a b i=c at*;omega
theorem Hl{a b i:Nat}:1-Lz (a/BP i%4294967296) (b/BP i%4294967296) (fB a b i)/4294967296=fB a b (i+1):=by
 rw[Dm];have f:a/BP i%4294967296<4294967296:=al8 _ (by omega)
 have e:b/BP i%4294967296<4294967296:=al8 _ (by omega)
 have d:=wD a b i;unfold Lz;generalize a/BP i%4294967296=x at*;generalize b/BP i%4294967296=y at*;generalize fB a b i=c at*;split<;>omega
theorem TT{x:Nat}(h:x<4294967296):IntKind.wrap .u64 (4294967296+zNq x)=zNq (4294967296+x):=by
 rw[pU];simp only[zKq];omega
theorem Ga{q:Nat}(h:q≤1):IntKind.wrap .u64 (1-zNq q)=zNq (1-q):=by
 rw[pU];simp only[zKq];omega
theorem Lx{x y c:Nat}(h:x<4294967296):Lz x y c/4294967296≤1:=by unfold Lz;omega
def oa(l m:List Nat):Nat→St
 |0=>lay 35 [(0,az l),(1,az m),(5,.row 0 true []),(6,u64 0),(10,nat l.length),(11,nat 0)] []
 |i+1=>lay 35 [(0,az l),(1,az m),(5,.cR 0 (i+1) 1),(6,u64 (fB (val l) (val m) (i+1))),(10,nat l.length),(11,nat (i+1))] [(0,(fc (i+1) (val l-val m)).map u32)]
theorem Kn(g:aa G){l m:List Nat}(k:fS l)(j:fS m)(hle:val m≤val l){i:Nat}(q:i<l.length)(v:l.length<2^45):
    ak zZq G 0 (ah f290 0) (oa l m i) .normal (oa l m (i+1)):=by
  have t:=apI;have u:=apH;have r:=Ly (i:=i) hle;have p:=Hl (a:=val l) (b:=val m) (i:=i);rw[←dh k,←dh j]at r p;have o:=k.getD i;have z:=j.getD i;have w:=wD (val l) (val m) i;have s:=Lx (x:=l.getD i 0) (y:=m.getD i 0) (c:=fB (val l) (val m) i) o;have d:IntKind.wrap .u32 (zNq (Lz (l.getD i 0) (m.getD i 0) (fB (val l) (val m) i)))=zNq ((val l-val m)/BP i%4294967296):=by rw[il,r]
  have eb:IntKind.wrap .u64 (1-zNq (Lz (l.getD i 0) (m.getD i 0) (fB (val l) (val m) i)/4294967296))=zNq (fB (val l) (val m) (i+1)):=by rw[Ga s,p]
  have f:IntKind.wrap .u64 (zNq (4294967296+l.getD i 0-m.getD i 0)-zNq (fB (val l) (val m) i))=zNq (Lz (l.getD i 0) (m.getD i 0) (fB (val l) (val m) i)):=rN (by omega) (by omega)
  have h:IntKind.wrap .u64 (zNq (4294967296+l.getD i 0)-zNq (m.getD i 0))=zNq (4294967296+l.getD i 0-m.getD i 0):=rN (by omega) (by omega)
  cases i with
  |zero=>
    rw[vj]at d eb f;have e:oa l m (0+1)=lay 35 [(0,az l),(1,az m),(5,.cR 0 (0+1) 1),(6,u64 (fB (val l) (val m) (0+1))),(10,nat l.length),(11,nat (0+1))] [(0,[]++[u32 ((val l-val m)/BP 0%4294967296)])]:=by
      show lay 35 _ _=_;rw[←p8];rfl
    rw[e];clear e;exact ak.r g [.eb 12 (ay q),.call (gK g l k 0),.eq 17 (bO (TT o)),.call (gK g m j 0),.eq 21 (bO h),.eq 23 (bO f),.eq 26 (gB d),
       .prop (NX (n:=0) (cs:=[]) (x:=u32 ((val l-val m)/BP 0%4294967296)) rfl (by omega)),.eq 30 (bO (qY (Lz (l.getD 0 0) (m.getD 0 0) 0))),.eq 31 (bO eb),.eq 32 (bQ (cw (i:=0) (by omega)))]
  |succ i=>
    have e:oa l m (i+1+1)=lay 35 [(0,az l),(1,az m),(5,.cR 0 (i+1+1) 1),(6,u64 (fB (val l) (val m) (i+1+1))),(10,nat l.length),(11,nat (i+1+1))] [(0,(fc (i+1) (val l-val m)).map u32++[u32 ((val l-val m)/BP (i+1)%4294967296)])]:=by
      show lay 35 _ _=_;rw[p8]
    rw[e];clear e;exact ak.r g [.eb 12 (ay q),.call (gK g l k (i+1)),.eq 17 (bO (TT o)),.call (gK g m j (i+1)),.eq 21 (bO h),.eq 23 (bO f),.eq 26 (gB d),
       .prop (mu (n:=i+1) (cs:=(fc (i+1) (val l-val m)).map u32) (x:=u32 ((val l-val m)/BP (i+1)%4294967296)) (by rw[alR,dz]) (by omega)),
       .eq 30 (bO (qY (Lz (l.getD (i+1) 0) (m.getD (i+1) 0) (fB (val l) (val m) (i+1))))),.eq 31 (bO eb),.eq 32 (bQ (cw (i:=i+1) (by omega)))]
theorem MK(a:aa G){l m:List Nat}{k:Nat}(b:l.length=k+1):ak zZq G 0 (ah f290 0) (oa l m (k+1)) (.exit 0) (oa l m (k+1)):=
 ak.r a [.eb 12 (aH (i:=k+1) (N:=l.length) (by omega))]
theorem MJ(a:aa G){l m:List Nat}(c:fS l)(b:fS m)(hle:val m≤val l)(e:l.length<2^45){k:Nat}(d:l.length=k+1):
  bT zZq G 35 0 (.loop (ah f290 0)) (lay 35 [(0,az l),(1,az m),(5,.row 0 true []),(6,u64 0),(10,nat l.length),(11,nat 0)] []) (.exit 0)
   (oa l m (k+1)):=
 bT.count (oa l m) (k+1) (fun i=>by cases i<;>exact ar _ _ _) (by simp) (fun i f=>Kn a c b hle (by omega) e) (MK a d)
theorem MI(b:aa G){l m:List Nat}(e:fS l)(g:fS m)(hle:val m≤val l)(j:l.length≤2^44):
    Spec zZq G 290 [az l,az m] (az (words (val l-val m))):=by
  have i:=apJ;have h:=apI;have f:val l-val m<BP l.length:=amD (anF _ _) (mG e);have a:=iP (G:=G) b (l:=fc l.length (val l-val m)) (jx _ _) (by rw[dz];omega)
  rw[iN f]at a;cases c:l.length with
  |zero=>
    have:l=[]:=amu c;subst this;have a:Spec zZq G 225 [az []] (az (words (val []-val m))):=a;exact Spec.r b func290 [] [.call a]
  |succ k=>
    rw[c]at a;refine Spec.r b func290 [] (args:=[az l,az m])
      [.code (MJ b e g hle (by omega) c),.freeze 0,
       .eq 33 (d:=D.row (k+1) false (((fc (k+1) (val l-val m)).map u32).take ((k+1)*1))) (d':=az (fc (k+1) (val l-val m))) ?_,.call a]
    unfold az;rw[al4 (by simp[dz]),dz]
def rD(l m:List Nat)(c:Nat):St:=lay 30 [(0,az l),(1,az m),(5,int (JO c))] []
theorem I1(a:aa G){l m:List Nat}(c:fS l)(b:fS m){i:Nat}(e:l.getD i 0=m.getD i 0)(d:i<2^60):
    ak zZq G 0 (ah f227 0) (rD l m (i+1)) .normal (rD l m i):=
  ak.r a [.eb 13 (x:=decide (zNq i≥0)) (y:=true) (by simp),.call (gK a l c i),.call (gK a m b i),.eb 22 (x:=(zNq (l.getD i 0) !=zNq (m.getD i 0))) (y:=false) (by rw[e];simp),
     .eq 15 (bQ (lh d))]
theorem ac9(a:aa G){l m:List Nat}(c:fS l)(b:fS m){i:Nat}(d:l.getD i 0<m.getD i 0):
    ak zZq G 0 (ah f227 0) (rD l m (i+1)) .ret (lay 30 [(4,int (-1))] []):=
  ak.r a [.eb 13 (x:=decide (zNq i≥0)) (y:=true) (by simp),.call (gK a l c i),.call (gK a m b i),.eb 22 (x:=(zNq (l.getD i 0) !=zNq (m.getD i 0))) (y:=true) (by rw[bne_iff_ne];simp only[zKq];omega),
     .call (gK a l c i),.call (gK a m b i),.eb 29 (x:=decide (zNq (l.getD i 0)<zNq (m.getD i 0))) (y:=true) (by simp only[zKq,decide_eq_true_eq];omega)]
theorem ac_(a:aa G){l m:List Nat}(c:fS l)(b:fS m){i:Nat}(d:m.getD i 0<l.getD i 0):
    ak zZq G 0 (ah f227 0) (rD l m (i+1)) .ret (lay 30 [(4,int 1)] []):=
  ak.r a [.eb 13 (x:=decide (zNq i≥0)) (y:=true) (by simp),.call (gK a l c i),.call (gK a m b i),.eb 22 (x:=(zNq (l.getD i 0) !=zNq (m.getD i 0))) (y:=true) (by rw[bne_iff_ne];simp only[zKq];omega),
     .call (gK a l c i),.call (gK a m b i),.eb 29 (x:=decide (zNq (l.getD i 0)<zNq (m.getD i 0))) (y:=false) (by simp only[zKq,decide_eq_false_iff_not];omega)]
theorem Ys(a:aa G){l m:List Nat}:ak zZq G 0 (ah f227 0) (rD l m 0) (.exit 0) (rD l m 0):=
 ak.r a []
theorem Kq(c:aa G){l m:List Nat}(b:fS l)(a:fS m)(d:val l=val m){N:Nat}(f:N<2^60):
  bT zZq G 30 0 (.loop (ah f227 0)) (lay 30 [(0,az l),(1,az m),(5,int (JO N))] []) (.exit 0) (rD l m 0):=
 bT.down (rD l m) N (fun i=>ar _ _ _) (by simp) (fun i e=>I1 c b a (by rw[dh b,dh a,d]) (by omega)) (Ys c)
theorem Ko(f:aa G){l m:List Nat}(b:fS l)(a:fS m)(p:val l≠val m){N:Nat}(o:N<2^60)(k:val l/BP N=val m/BP N):
  bT zZq G 30 0 (.loop (ah f227 0)) (lay 30 [(0,az l),(1,az m),(5,int (JO N))] []) .ret (lay 30 [(4,int (jK (val l) (val m)))] []):=by
 refine bT.rounds (fun c:Nat=>c<2^60∧val l/BP c=val m/BP c) (rD l m) (fun c=>c) (fun m=>ar _ _ _) (by simp) (fun c n=>?_) N ⟨o,k⟩
 obtain⟨q,d⟩:=n;cases c with
 |zero=>rw[ig,amN,amN]at d;exact apC d p
 |succ i=>
  obtain⟨d1,d2⟩:=y8 d;obtain⟨-,d3⟩:=y8 d.symm;have j:i<2^60:=by omega
  rcases ano (l.getD i 0) (m.getD i 0)with h|h|h
  ·right
   have g:=d2 (by rw[←dh b,←dh a];exact h)
   have e:jK (val l) (val m)= -1:=by unfold jK;rw[apB g]
   rw[e];exact ac9 f b a h
  ·left
   exact⟨i,⟨j,d1 (by rw[←dh b,←dh a];exact h)⟩,by omega,I1 f b a h j⟩
  ·right
   have g:=d3 (by rw[←dh b,←dh a];exact h)
   have e:jK (val l) (val m)=1:=by unfold jK;rw[apA (by omega),apB g]
   rw[e];exact ac_ f b a h
theorem V4(a:Nat):jK a a=0:=by unfold jK;rw[apA (by omega),apA (by omega)]
theorem uh(d:aa G){l m:List Nat}(f:fS l)(e:fS m)(o:l.length≤2^45)(n:m.length≤2^45):
  Spec zZq G 227 [az l,az m] (int (jK (val l) (val m))):=by
 have h:=apI;have i:=apH;have c:max l.length m.length<2^60:=by omega
 by_cases he:val l=val m
 ·rw[he,V4]
  exact Spec.r d func227 [] [.eq 10 (bQ (EU l m)),.eq 11 (bQ (lh c)),.code (Kq d f e he c)]
 ·have g:val l/BP (max l.length m.length)=val m/BP (max l.length m.length):=by
   have a:=mG f;have b:=mG e;have k:BP l.length≤BP (max l.length m.length):=ni (aol _ _);have j:BP m.length≤BP (max l.length m.length):=ni (aoe _ _);rw[amn (by omega),amn (by omega)]
  exact Spec.r d func227 [] [.eq 10 (bQ (EU l m)),.eq 11 (bQ (lh c)),.code (Ko d f e he c g)]
end Lw
namespace Lw
open Go Go.RowKit Go.Proofs
variable {G:World→Prop}
def ug(l m:List Nat)(i k:Nat):St:=
 lay 68 [(0,az l),(1,az m),(5,.bz 0 0 (da l m) (da l m)),(6,nat i),(7,u64 (mH l m i k)),(17,nat l.length),(18,nat i),(22,nat m.length),(23,nat k)]
  [(0,cK (da l m) (rn l m i k))]
theorem Qg(v:aa G){l m:List Nat}(u:fS l)(o:fS m){i k:Nat}(f:i<l.length)(a:k<m.length)(B:da l m<2^60):
    ak zZq G 0 (ah f327 1) (ug l m i k) .normal (ug l m i (k+1)):=by
  have z:=apH;have b:i+k<da l m:=by unfold da;omega
  have c:=u.getD i;have h:=o.getD k;have n:=Dq (ir l m i/BP i) (l.getD i 0) (val m) k;have g:=Hf (ir l m i/BP i) (l.getD i 0) (val m) k;rw[←dh o,←Ml]at n g;rw[←A1]at g;have A:=Ca (ir l m i/BP i) (val m) k c;have s:=xK c h;have t:ir l m i/BP (i+k)%4294967296<4294967296:=al8 _ (by omega)
  have w:rn l m i k (i+k)=ir l m i/BP (i+k)%4294967296:=by unfold rn;rw[apA (by omega)]
  have e:ug l m i (k+1)=lay 68 [(0,az l),(1,az m),(5,.bz 0 0 (da l m) (da l m)),(6,nat i),(7,u64 (mH l m i (k+1))),(17,nat l.length),(18,nat i),(22,nat m.length),(23,nat (k+1))]
      [(0,aF (cK (da l m) (rn l m i k)) (i+k) [u32 (z_ l m i/BP (i+k)%4294967296)])]:=by
    rw[fE _ _ b];unfold ug;congr 3;refine a_ fun j _=>?_
    unfold rn;by_cases q:j=i+k
    · subst q;rw[apB (by omega),apB rfl]
    · rw[apA q]
      by_cases r:j<i+k
      · rw[apB r,apB (by omega)]
      · rw[apA r,apA (by omega)]
  rw[e];clear e;exact ak.r v [.eb 24 (ay a),.prop (c9 f),.prop (bu f),.eq 29 (a8 f),.eq 30 (bO (iZ c)),.prop (c9 a),.prop (bu a),.eq 34 (a8 a),.eq 35 (bO (iZ h)),
     .eq 36 (bO (wrap_mul (x:=l.getD i 0) (y:=m.getD k 0) (by omega))),
     .eq 40 (bQ (oR (i:=i) (k:=k) (by omega))),.prop (dp b),.eq 41 (jC 0 (i+k)),.prop (p:=0<1∧i+k+1≤(cK (da l m) (rn l m i k)).length) (by rw[du];omega),
     .eq 42 (d:=((cK (da l m) (rn l m i k)).drop (i+k)).headD .any) (d':=u32 (ir l m i/BP (i+k)%4294967296)) (by rw[kM b,w]),.eq 43 (bO (iZ t)),
     .eq 44 (bO (wrap_add (x:=l.getD i 0*m.getD k 0) (y:=ir l m i/BP (i+k)%4294967296) (by omega))),
     .eq 46 (bO (x:=IntKind.wrap .u64 (zNq (l.getD i 0*m.getD k 0+ir l m i/BP (i+k)%4294967296)+zNq (mH l m i k))) (y:=zNq (mH l m i k+(l.getD i 0*m.getD k 0+ir l m i/BP (i+k)%4294967296)))
       (by rw[amR (mH l m i k)];exact wrap_add (x:=l.getD i 0*m.getD k 0+ir l m i/BP (i+k)%4294967296) (y:=mH l m i k) (by unfold mH;omega))),
     .eq 50 (bQ (oR (i:=i) (k:=k) (by omega))),.eq 52 (gB (x:=IntKind.wrap .u32 (zNq (mH l m i k+(l.getD i 0*m.getD k 0+ir l m i/BP (i+k)%4294967296)))) (y:=zNq (z_ l m i/BP (i+k)%4294967296)) (by rw[il,←g];rfl)),
     .eq 54 (bO (x:=(zNq (mH l m i k+(l.getD i 0*m.getD k 0+ir l m i/BP (i+k)%4294967296))).fdiv (2^min (Int.toNat 32) (IntKind.bits .u64))) (y:=zNq (mH l m i (k+1))) (by rw[qY];unfold mH;rw[n])),
     .prop (dp b),.eq 55 (jC 0 (i+k)),.prop (p:=i+k+1≤(cK (da l m) (rn l m i k)).length) (by rw[du];omega),
     .eq 56 (bQ (cw (i:=k) (by omega)))]
theorem En(a:aa G){l m:List Nat}{i:Nat}:ak zZq G 0 (ah f327 1) (ug l m i m.length) (.exit 2) (ug l m i m.length):=
 ak.r a [.eb 24 (aH (alE m.length))]
def pW(l m:List Nat)(i:Nat):St:=
 lay 68 [(0,az l),(1,az m),(5,.bz 0 0 (da l m) (da l m)),(17,nat l.length),(18,nat i)] [(0,cK (da l m) (fun j=>ir l m i/BP j%4294967296))]
theorem Em(b:aa G){l m:List Nat}(f:fS l)(d:fS m){i:Nat}(n:i<l.length)(o:da l m<2^60):
  bT zZq G 68 0 (.loop (ah f327 1))
   (lay 68 [(0,az l),(1,az m),(5,.bz 0 0 (da l m) (da l m)),(6,nat i),(7,u64 0),(17,nat l.length),(18,nat i),(22,nat m.length),(23,nat 0)]
    [(0,cK (da l m) (fun j=>ir l m i/BP j%4294967296))]) (.exit 2) (ug l m i m.length):=by
 have h:=bT.count (ug l m i) m.length (fun k=>ar _ _ _) (by simp) (fun k g=>Qg b f d n g o) (En b)
 have e:ug l m i 0=lay 68 [(0,az l),(1,az m),(5,.bz 0 0 (da l m) (da l m)),(6,nat i),(7,u64 0),(17,nat l.length),(18,nat i),(22,nat m.length),(23,nat 0)]
    [(0,cK (da l m) (fun j=>ir l m i/BP j%4294967296))]:=by
  unfold ug mH;rw[Dp];congr 3;refine a_ fun j _=>?_
  unfold rn;by_cases a:j<i+0
  ·rw[apB a]
   unfold z_;have c:i=j+(i-j-1)+1:=by omega
   have p:ir l m i+l.getD i 0*val m*BP i=ir l m i+(l.getD i 0*val m*BP (i-j-1)*4294967296)*BP j:=by
    conv=>lhs;arg 2;rw[c]
    rw[df,kA];simp only[Nat.mul_assoc,Nat.mul_comm,Nat.mul_left_comm];rw[←c]
   rw[p,anr _ _ (cQ j)];omega
  ·rw[apA a]
 rw[e]at h;exact h
theorem Qf(h:aa G){l m:List Nat}(b:fS l)(a:fS m){i:Nat}(f:i<l.length)(r:da l m<2^60):
    ak zZq G 0 (ah f327 0) (pW l m i) .normal (pW l m (i+1)):=by
  have t:=apH;have g:i+m.length<da l m:=by unfold da;omega
  have s:=EM (l:=l) a i (cQ _);have q:=b.getD i;have n:mH l m i m.length=z_ l m i/BP (i+m.length):=by
    unfold mH;rw[A1];refine Ow ?_ (mG a);rw[amk (cQ i),←kA,amR];exact s
  have c:mH l m i m.length<4294967296:=by unfold mH;exact Ca _ _ _ q
  have e:pW l m (i+1)=lay 68 [(0,az l),(1,az m),(5,.bz 0 0 (da l m) (da l m)),(17,nat l.length),(18,nat (i+1))]
      [(0,aF (cK (da l m) (rn l m i m.length)) (i+m.length) [u32 (mH l m i m.length%4294967296)])]:=by
    rw[fE _ _ g];unfold pW;congr 3;refine a_ fun j _=>?_
    rw[←Sp b];unfold rn;by_cases d:j=i+m.length
    · subst d;rw[apB rfl,n]
    · rw[apA d]
      by_cases o:j<i+m.length
      · rw[apB o]
      · rw[apA o]
        have w:BP (i+m.length+1)≤BP j:=ni (by omega)
        have v:z_ l m i<BP (i+m.length+1):=by
          have:=c;rw[n,amk (cQ _)]at this;rw[df];exact this
        have u:BP (i+m.length)≤BP j:=ni (by omega)
        rw[amn (by omega),amn (by omega)]
  rw[e];exact ak.r h [.eb 19 (ay f),.code (Em h b a f r),
     .eq 61 (bQ (oR (i:=i) (k:=m.length) (by omega))),.eq 63 (gB (il (mH l m i m.length))),.prop (dp g),.eq 64 (jC 0 (i+m.length)),
     .prop (p:=i+m.length+1≤(cK (da l m) (rn l m i m.length)).length) (by rw[du];omega),.eq 65 (bQ (cw (i:=i) (by omega)))]
theorem El(a:aa G){l m:List Nat}:ak zZq G 0 (ah f327 0) (pW l m l.length) (.exit 0) (pW l m l.length):=
 ak.r a [.eb 19 (aH (alE l.length))]
theorem Uw(a:aa G){l m:List Nat}(c:fS l)(b:fS m)(f:da l m<2^60):
  bT zZq G 68 0 (.loop (ah f327 0))
   (lay 68 [(0,az l),(1,az m),(5,.bz 0 0 (da l m) (da l m)),(17,nat l.length),(18,nat 0)] [(0,List.replicate (da l m) (u32 0))]) (.exit 0) (pW l m l.length):=by
 have h:=bT.count (pW l m) l.length (fun k=>ar _ _ _) (by simp) (fun i d=>Qf a c b d f) (El a)
 have e:pW l m 0=lay 68 [(0,az l),(1,az m),(5,.bz 0 0 (da l m) (da l m)),(17,nat l.length),(18,nat 0)] [(0,List.replicate (da l m) (u32 0))]:=by
  rw[mX];unfold pW ir;rw[ig,anO,am6];congr 3;exact a_ fun j _=>by rw[aov]
 rw[e]at h;exact h
theorem MC(a:aa G){l m:List Nat}(e:fS l)(c:fS m)(r:l.length≤2^44)(q:m.length≤2^44):
    Spec zZq G 327 [az l,az m] (az (words (val l*val m))):=by
  have o:=apJ;have n:=apI;have p:=apH;have h:da l m≤2^45:=by unfold da;omega
  have f:ir l m l.length=val l*val m:=by unfold ir;rw[ame (mG e)]
  have g:val l*val m<BP (da l m):=by rw[←f];exact EM c _ (cQ _)
  have b:=iP (G:=G) a (l:=fc (da l m) (val l*val m)) (jx _ _) (by rw[dz];omega)
  rw[iN g]at b;refine Spec.r a func327 [] (args:=[az l,az m])
    [.eq 14 (bQ (oR (i:=l.length) (k:=m.length) (by omega))),.prop (kQ h),.code (Uw a e c (by omega)),.freeze 0,
     .eq 66 (d:=D.row (da l m) false (((cK (da l m) (fun j=>ir l m l.length/BP j%4294967296)).drop 0).take (da l m))) (d':=az (fc (da l m) (val l*val m))) (by rw[f];exact p9 _ _),.call b]
def sI(b x:Nat):St:=lay 25 [(3,nat (b-bl x)),(4,u32 x)] []
theorem TM{x:Nat}(h:0<x):bl x=bl (x/2)+1:=by
 rcases alU x 2 with a|a
 ·have:x=1:=by omega
  subst this;rfl
 ·have:=yh (x:=x) (k:=1) a
  rwa [show 2^1=2 from rfl]at this
theorem aem:bl 0=0:=rfl
theorem acO(x:Nat):(zNq x).fdiv (2^min (Int.toNat 1) (IntKind.bits .u32))=zNq (x/2):=tL (x:=x) 1 (by omega)
theorem MQ(c:aa G){b x:Nat}(a:0<x)(g:bl x≤b)(h:b<2^59):
  ak zZq G 0 (ah f336 0) (sI b x) .normal (sI b (x/2)):=by
 have d:=apO;have e:=TM a;have f:b-bl (x/2)=b-bl x+1:=by omega
 unfold sI;rw[f];exact ak.r c [.eb 19 (x:=decide (zNq x>0)) (y:=true) (by simp only[zKq,decide_eq_true_eq];omega),.eq 23 (bQ (cw (i:=b-bl x) (by omega))),.eq 21 (gB (acO x))]
theorem Qq(a:aa G){b:Nat}:ak zZq G 0 (ah f336 0) (sI b 0) (.exit 0) (sI b 0):=
 ak.r a []
theorem Qp(a:aa G){b x:Nat}(d:bl x≤b)(e:b<2^59):
  bT zZq G 25 0 (.loop (ah f336 0)) (lay 25 [(3,nat (b-bl x)),(4,u32 x)] []) (.exit 0) (sI b 0):=by
 refine bT.rounds (fun x:Nat=>bl x≤b) (fun x=>sI b x) (fun x=>x) (fun m=>ar _ _ _) (by simp) (fun x c=>?_) x d
 rcases alT x with h|h
 ·right;subst h;exact Qq a
 ·left
  have:=TM h;exact⟨x/2,by omega,by omega,MQ a h c e⟩
theorem Qo(a:aa G){m:Nat}(k:(words m).length≤2^44):Spec zZq G 336 [az (words m)] (nat (bl m)):=by
  have j:=apJ;have f:=apO;rcases alT m with h|h
  · subst h
    exact Spec.r a func336 [] [.eb 7 (x:=(zNq (words 0).length==0)) (y:=true) rfl]
  · have c:=ef (n:=m) (by omega)
    have g:=(bb m).getD ((words m).length-1);have o:=abD g;have e:=abC h;have d:=Qp (G:=G) a (b:=bl m) (x:=(words m).getD ((words m).length-1) 0) (by omega) (by omega)
    rw[show bl m-bl ((words m).getD ((words m).length-1) 0)=32*((words m).length-1) by omega]at d
    exact Spec.r a func336 [] [.eb 7 (lL h),.eq 10 (bQ (kG (i:=(words m).length) (by omega) c)),
       .eq 11 (bQ (x:=IntKind.wrap .i64 (32*zNq ((words m).length-1))) (y:=zNq (32*((words m).length-1))) (by rw[py (by simp only[zKq];omega) (by simp only[zKq];omega)];simp)),
       .eq 15 (bQ (kG (i:=(words m).length) (by omega) c)),.prop (c9 (l:=words m) (i:=(words m).length-1) (by omega)),.prop (bu (l:=words m) (i:=(words m).length-1) (by omega)),
       .eq 17 (a8 (l:=words m) (i:=(words m).length-1) (by omega)),.code d]
end Lw
namespace Lw
open Go Go.RowKit Go.Proofs
variable {G:World→Prop}
def B2(R c k:Nat):Nat:=((R%BP k)*2+c)/BP k
theorem VY(R c:Nat):B2 R c 0=c:=by unfold B2;rw[ig,anO,am6,amv,amN]
theorem TC{R c:Nat}(a:c≤1)(k:Nat):B2 R c k≤1:=by
 unfold B2;have b:=g_ R k;have:=cQ k;have:(R%BP k*2+c)/BP k<2:=(amk (cQ k)).2 (by omega)
 omega
theorem VZ{R c:Nat}(a:c≤1)(k:Nat):B2 R c (k+1)=R/BP k%4294967296/2147483648:=by
 have hle:=TC (R:=R) a k;have e:B2 R c (k+1)=(2*(R/BP k%4294967296)+B2 R c k)/4294967296:=by
  unfold B2;rw[jq,df,alS 4294967296,←al7];congr 1;rw[show(BP k*(R/BP k%4294967296)+R%BP k)*2+c=BP k*(2*(R/BP k%4294967296))+(R%BP k*2+c) by grind,ao6 (cQ k)]
 rw[e];have:R/BP k%4294967296<4294967296:=al8 _ (by omega)
 omega
theorem aa'{R c:Nat}(k:Nat):(2*R+c)/BP k%4294967296=(2*(R/BP k%4294967296)+B2 R c k)%4294967296:=by
 unfold B2;have h:=am4 R (BP k);have e:2*R+c=BP k*(2*(R/BP k))+(R%BP k*2+c):=by
  conv=>lhs;rw[←h]
  grind
 rw[e,ao6 (cQ k)];omega
theorem Y6{x c:Nat}(a:c≤1):(2*x|||c)=2*x+c:=by
 have:=(an5 (i:=1) (b:=c) (by omega) x)
 rw[show 2^1=2 from rfl]at this
 omega
theorem afZ{w c:Nat}(a:c≤1):((2*w)%4294967296|||c)=(2*w+c)%4294967296:=by
 rw[show(2*w)%4294967296=2*(w%2147483648) by omega,Y6 a];omega
theorem X0(w:Nat):IntKind.wrap .u32 (zNq w*2^min (Int.toNat 1) (IntKind.bits .u32))=zNq (2*w%4294967296):=by
 have e:min (Int.toNat 1) (IntKind.bits .u32)=1:=rfl;rw[e,J5];simp only[zKq];omega
theorem Ur(w:Nat):(zNq w).fdiv (2^min (Int.toNat 31) (IntKind.bits .u32))=zNq (w/2147483648):=tL (x:=w) 31 (by omega)
theorem TO{x:Nat}(b:x<4294967296):
  IntKind.wrap .u32 (((BitVec.ofInt (IntKind.bits .u32) (zNq x)&&&BitVec.ofInt (IntKind.bits .u32) 1).toNat:Nat):Int)=zNq (x%2):=by
 have e:(BitVec.ofInt (IntKind.bits .u32) (zNq x)).toNat=x:=by
  show(BitVec.ofInt 32 (zNq x)).toNat=x;simp only[zKq,BitVec.ofInt_natCast,BitVec.toNat_ofNat];exact ame (by simpa using b)
 have d:(BitVec.ofInt (IntKind.bits .u32) 1).toNat=1:=by decide
 rw[BitVec.toNat_and,e,d,Nat.and_one_is_mod];have a:=wrap32 (n:=x%2);have c:x%2%4294967296=x%2:=by omega
 rw[c]at a;exact a
theorem Xt(a i:Nat):a/BP (i/32)%4294967296/2^(i%32)%2=a/2^i%2:=by
 rw[yr];have e:2^i=2^(32*(i/32))*2^(i%32):=by rw[←amr];congr 1;omega
 rw[e,←al7];generalize a/2^(32*(i/32))=x;have d:i%32<32:=al8 _ (by omega)
 generalize i%32=s at*;have b:4294967296=2^s*2^(32-s):=by rw[←amr,show s+(32-s)=32 by omega]
 have c:2^(32-s)=2*2^(31-s):=by rw[←aoQ];congr 1;omega
 rw[b,Nat.mod_mul_right_div_self,c,Nat.mod_mul_right_mod]
def sC(X Y t j:Nat):Nat:=if j<t then(X-Y)/BP j%4294967296 else X/BP j%4294967296
theorem IM(X Y:Nat):sC X Y 0=fun j=>X/BP j%4294967296:=by funext j;unfold sC;rw[apA (by omega)]
theorem IN{N X Y t:Nat}(h:t<N):aF (cK N (sC X Y t)) t [u32 ((X-Y)/BP t%4294967296)]=cK N (sC X Y (t+1)):=by
 rw[fE _ _ h];refine a_ fun j _=>?_
 unfold sC;by_cases a:j=t
 ·subst a;rw[apB rfl,apB (by omega)]
 ·rw[apA a]
  by_cases b:j<t
  ·rw[apB b,apB (by omega)]
  ·rw[apA b,apA (by omega)]
theorem Sq(X Y t j:Nat):sC X Y t j<4294967296:=by unfold sC;split<;>exact al8 _ (by omega)
theorem abt(N:Nat)(f:Nat→Nat):cK N f=((List.range N).map f).map u32:=by simp[cK]
theorem abJ(d:aa G){N i:Nat}{f:Nat→Nat}(c:∀j,f j<4294967296)(b:i<N):
  Spec zZq G 291 [.row N false (((cK N f).drop 0).take N),nat i] (u64 (f i)):=by
 have h:=gK (G:=G) d ((List.range N).map f) (fun x a=>by simp only[List.mem_map]at a;obtain⟨j,-,rfl⟩:=a;exact c j) i
 have e:az ((List.range N).map f)=.row N false (((cK N f).drop 0).take N):=by
  unfold az;rw[abt,amS,al4 (by simp)]
  simp
 have g:((List.range N).map f).getD i 0=f i:=by simp[List.getD_eq_getElem?_getD,b]
 rw[e,g]at h;exact h
def rq(N:Nat)(v:List Nat)(X:Nat)(a:List D)(t:Nat):St:=
 lay 31 [(0,.bz 1 0 N N),(1,az v),(4,u64 (fB X (val v) t)),(8,nat N),(9,nat t)] [(0,a),(1,cK N (sC X (val v) t))]
theorem PX(j:aa G){N X:Nat}{v:List Nat}{d:List D}(h:fS v)(hle:val v≤X)(u:N<2^45){t:Nat}(g:t<N):
    ak zZq G 2 (ah f228 0) (rq N v X d t) .normal (rq N v X d (t+1)):=by
  have r:=apI;have s:=apH;have l:=Ly (i:=t) hle;have k:=Hl (a:=X) (b:=val v) (i:=t);rw[←dh h]at l k;have n:X/BP t%4294967296<4294967296:=al8 _ (by omega)
  have z:=h.getD t;have w:=wD X (val v) t;have m:=abJ (G:=G) j (f:=sC X (val v) t) (Sq X (val v) t) g;have q:sC X (val v) t t=X/BP t%4294967296:=by unfold sC;rw[apA (by omega)]
  rw[q]at m;have o:=Lx (x:=X/BP t%4294967296) (y:=v.getD t 0) (c:=fB X (val v) t) n;have e:rq N v X d (t+1)=lay 31 [(0,.bz 1 0 N N),(1,az v),(4,u64 (fB X (val v) (t+1))),(8,nat N),(9,nat (t+1))] [(0,d),(1,aF (cK N (sC X (val v) t)) t [u32 ((X-val v)/BP t%4294967296)])]:=by
    rw[IN g];rfl
  rw[e];clear e;exact ak.r j [.eb 10 (ay g),.call m,.eq 15 (bO (TT n)),.call (gK j v h t),.eq 19 (bO (x:=IntKind.wrap .u64 (zNq (4294967296+X/BP t%4294967296)-zNq (v.getD t 0))) (y:=zNq (4294967296+X/BP t%4294967296-v.getD t 0)) (rN (by omega) (by omega))),
     .eq 21 (bO (x:=IntKind.wrap .u64 (zNq (4294967296+X/BP t%4294967296-v.getD t 0)-zNq (fB X (val v) t))) (y:=zNq (Lz (X/BP t%4294967296) (v.getD t 0) (fB X (val v) t))) (rN (by omega) (by omega))),
     .eq 25 (gB (x:=IntKind.wrap .u32 (zNq (Lz (X/BP t%4294967296) (v.getD t 0) (fB X (val v) t)))) (y:=zNq ((X-val v)/BP t%4294967296)) (by rw[il,l])),
     .eq 27 (bO (qY (Lz (X/BP t%4294967296) (v.getD t 0) (fB X (val v) t)))),.eq 28 (bO (x:=IntKind.wrap .u64 (1-zNq (Lz (X/BP t%4294967296) (v.getD t 0) (fB X (val v) t)/4294967296))) (y:=zNq (fB X (val v) (t+1))) (by rw[Ga o,k])),
     .prop (dp g),.eq 29 (jC 1 t),.prop (p:=t+1≤(cK N (sC X (val v) t)).length) (by rw[du];omega),.eq 30 (bQ (cw (i:=t) (by omega)))]
theorem Uh(b:aa G){N X:Nat}{v:List Nat}{a:List D}:ak zZq G 2 (ah f228 0) (rq N v X a N) (.exit 0) (rq N v X a N):=
 ak.r b [.eb 10 (aH (alE N))]
theorem Ug(b:aa G){N X:Nat}{v:List Nat}(a:List D)(c:fS v)(hle:val v≤X)(f:N<2^45):
  bT zZq G 31 2 (.loop (ah f228 0))
   (lay 31 [(0,.bz 1 0 N N),(1,az v),(4,u64 0),(8,nat N),(9,nat 0)] [(0,a),(1,cK N (fun j=>X/BP j%4294967296))]) (.exit 0) (rq N v X a N):=by
 have h:=bT.count (rq N v X a) N (fun k=>ar _ _ _) (by simp) (fun i d=>PX b c hle f d) (Uh b)
 have e:rq N v X a 0=lay 31 [(0,.bz 1 0 N N),(1,az v),(4,u64 0),(8,nat N),(9,nat 0)] [(0,a),(1,cK N (fun j=>X/BP j%4294967296))]:=by
  unfold rq;rw[IM,vj]
 rw[e]at h;exact h
structure gX where
 A:Nat
 B:Nat
def gX.la(d:gX):Nat:=(words d.A).length
def gX.N(d:gX):Nat:=(words d.B).length+1
def gX.R(d:gX)(c:Nat):Nat:=d.A/2^c%d.B
def gX.c0(d:gX)(i:Nat):Nat:=d.A/2^i%2
def gX.X(d:gX)(i:Nat):Nat:=2*d.R (i+1)+d.c0 i
def xa(R X k j:Nat):Nat:=if j<k then X/BP j%4294967296 else R/BP j%4294967296
theorem VW{N R X t:Nat}(h:t<N):aF (cK N (xa R X t)) t [u32 (X/BP t%4294967296)]=cK N (xa R X (t+1)):=by
 rw[fE _ _ h];refine a_ fun j _=>?_
 unfold xa;by_cases a:j=t
 ·subst a;rw[apB rfl,apB (by omega)]
 ·rw[apA a]
  by_cases b:j<t
  ·rw[apB b,apB (by omega)]
  ·rw[apA b,apA (by omega)]
def wz(d:gX)(i:Nat)(a:List D)(k:Nat):St:=
 lay 76 [(0,az (words d.A)),(1,az (words d.B)),(6,.bz 0 0 d.la d.la),(7,.bz 1 0 d.N d.N),(8,nat i),(9,u32 (B2 (d.R (i+1)) (d.c0 i) k)),(35,nat d.N),(36,nat k)]
  [(0,a),(1,cK d.N (xa (d.R (i+1)) (d.X i) k))]
theorem VV(n:aa G){d:gX}{i:Nat}{b:List D}(r:d.N<2^45){k:Nat}(a:k<d.N):
    ak zZq G 0 (ah f334 1) (wz d i b k) .normal (wz d i b (k+1)):=by
  have o:=apI;have q:=apH;have j:d.c0 i≤1:=by unfold gX.c0;omega
  have hw:d.R (i+1)/BP k%4294967296<4294967296:=al8 _ (by omega)
  have g:=TC (R:=d.R (i+1)) j k;have l:=VZ (R:=d.R (i+1)) j k;have m:=aa' (R:=d.R (i+1)) (c:=d.c0 i) k;have h:((cK d.N (xa (d.R (i+1)) (d.X i) k)).drop k).headD .any=u32 (d.R (i+1)/BP k%4294967296):=by rw[kM a];unfold xa;rw[apA (by omega)]
  have e:wz d i b (k+1)=lay 76 [(0,az (words d.A)),(1,az (words d.B)),(6,.bz 0 0 d.la d.la),(7,.bz 1 0 d.N d.N),(8,nat i),(9,u32 (B2 (d.R (i+1)) (d.c0 i) (k+1))),(35,nat d.N),(36,nat (k+1))]
      [(0,b),(1,aF (cK d.N (xa (d.R (i+1)) (d.X i) k)) k [u32 (d.X i/BP k%4294967296)])]:=by
    rw[VW a];rfl
  rw[e];clear e;have f:IntKind.wrap .u32 (((BitVec.ofInt (IntKind.bits .u32) (zNq (2*(d.R (i+1)/BP k%4294967296)%4294967296))|||BitVec.ofInt (IntKind.bits .u32) (zNq (B2 (d.R (i+1)) (d.c0 i) k))).toNat:Nat):Int)=zNq (d.X i/BP k%4294967296):=by
    rw[CL (al8 _ (by omega)) (by omega),afZ g,←m];rfl
  exact ak.r n [.eb 37 (ay a),.prop (dp a),.eq 43 (jC 1 k),.prop (p:=0<1∧k+1≤(cK d.N (xa (d.R (i+1)) (d.X i) k)).length) (by rw[du];omega),.eq 44 h,
     .eq 45 (gB (X0 (d.R (i+1)/BP k%4294967296))),.eq 47 (gB f),.prop (dp a),.eq 50 (jC 1 k),.prop (p:=0<1∧k+1≤(cK d.N (xa (d.R (i+1)) (d.X i) k)).length) (by rw[du];omega),.eq 51 h,
     .eq 52 (gB (x:=(zNq (d.R (i+1)/BP k%4294967296)).fdiv (2^min (Int.toNat 31) (IntKind.bits .u32))) (y:=zNq (B2 (d.R (i+1)) (d.c0 i) (k+1))) (by rw[Ur,l])),
     .prop (dp a),.eq 53 (jC 1 k),.prop (p:=k+1≤(cK d.N (xa (d.R (i+1)) (d.X i) k)).length) (by rw[du];omega),.eq 54 (bQ (cw (i:=k) (by omega)))]
theorem aa_(b:aa G){d:gX}{i:Nat}{a:List D}:ak zZq G 0 (ah f334 1) (wz d i a d.N) (.exit 2) (wz d i a d.N):=
 ak.r b [.eb 37 (aH (alE d.N))]
theorem aa9(b:aa G){d:gX}{i:Nat}(a:List D)(f:d.N<2^45):
  bT zZq G 76 0 (.loop (ah f334 1))
   (lay 76 [(0,az (words d.A)),(1,az (words d.B)),(6,.bz 0 0 d.la d.la),(7,.bz 1 0 d.N d.N),(8,nat i),(9,u32 (d.c0 i)),(35,nat d.N),(36,nat 0)]
    [(0,a),(1,cK d.N (fun j=>d.R (i+1)/BP j%4294967296))]) (.exit 2) (wz d i a d.N):=by
 have h:=bT.count (wz d i a) d.N (fun k=>ar _ _ _) (by simp) (fun k c=>VV b f c) (aa_ b)
 have e:wz d i a 0=lay 76 [(0,az (words d.A)),(1,az (words d.B)),(6,.bz 0 0 d.la d.la),(7,.bz 1 0 d.N d.N),(8,nat i),(9,u32 (d.c0 i)),(35,nat d.N),(36,nat 0)]
    [(0,a),(1,cK d.N (fun j=>d.R (i+1)/BP j%4294967296))]:=by
  unfold wz;rw[VY];congr 3
 rw[e]at h;exact h
theorem af1(K i j:Nat):(K*2^(i+1)+2^i)/BP j%4294967296=if j=i/32 then(K*2^(i+1)/BP j%4294967296|||2^(i%32))else K*2^(i+1)/BP j%4294967296:=by
 have o:i%32<32:=al8 _ (by omega)
 have f:i=i%32+32*(i/32):=by omega
 generalize i/32=a at*;generalize i%32=s at*;subst f;have n:2^(s+32*a)=2^s*BP a:=by rw[yr,←amr]
 have m:K*2^(s+32*a+1)=(2^(s+1)*K)*BP a:=by
  rw[show s+32*a+1=(s+1)+32*a by omega,amr,yr,alS (2^(s+1)) K,alQ]
 rw[n,m,←amT];have b:4294967296=2^(s+1)*2^(31-s):=by rw[←amr,show s+1+(31-s)=32 by omega]
 have hm:(2^(s+1)*K)%4294967296=2^(s+1)*(K%2^(31-s)):=by rw[b,Nat.mul_mod_mul_left]
 have g:K%2^(31-s)<2^(31-s):=al8 _ (Nat.two_pow_pos _);have q:2^(s+1)*(K%2^(31-s))+2^(s+1)≤4294967296:=by
  conv=>rhs;rw[b]
  rw[←ao0];exact amc _ g
 have d:2^(s+1)=2*2^s:=by rw[al5];omega
 have e:0<2^s:=Nat.two_pow_pos s;rcases alU j a with h|h
 ·rw[apA (by omega)]
  have l:BP a=(BP (a-j-1)*4294967296)*BP j:=by
   conv=>lhs;rw[show a=(a-j-1)+1+j by omega,kA,df]
   rw[alS 4294967296]
  rw[l,←alQ,←alQ,aoH _ (cQ j),Nat.mul_mod_left,←alQ,←alQ,aoH _ (cQ j),Nat.mul_mod_left]
 ·have c:∀T:Nat,T*BP a/BP j=T/BP (j-a):=fun T=>by
   conv=>lhs;rw[show j=a+(j-a) by omega,kA]
   rw[←al7,aoH _ (cQ a)]
  rw[c,c];generalize p:2^(s+1)*K=T at*;rcases Nat.eq_or_lt_of_le h with h|h
  ·subst h
   rw[apB rfl,Nat.sub_self,ig,amN,amN,hm,←an5 (by omega),Nat.add_mod,hm]
   rw[ame (show 2^s<4294967296 by omega),ame (by omega)]
  ·rw[apA (by omega),show j-a=1+(j-a-1) by omega,kA,←al7,←al7]
   have k:BP 1=4294967296:=rfl;rw[k];have:(T+2^s)/4294967296=T/4294967296:=by omega
   rw[this]
def gX.ok(d:gX):Prop:=0<d.B∧d.la≤2^44∧d.N≤2^44+1
def gX.qF(d:gX)(c j:Nat):Nat:=(d.A/2^c/d.B*2^c)/BP j%4294967296
def qT(d:gX)(c:Nat):St:=
 lay 76 [(0,az (words d.A)),(1,az (words d.B)),(6,.bz 0 0 d.la d.la),(7,.bz 1 0 d.N d.N),(8,int (JO c))] [(0,cK d.la (d.qF c)),(1,cK d.N (fun j=>d.R c/BP j%4294967296))]
theorem gX.step{d:gX}(a:0<d.B)(i:Nat):
  d.A/2^i/d.B=2*(d.A/2^(i+1)/d.B)+(if d.B≤d.X i then 1 else 0)∧d.R i=if d.B≤d.X i then d.X i-d.B else d.X i:=by
 have h:=abE (x:=d.A/2^(i+1)) (b:=d.B) (c:=d.A/2^i%2) a (by omega)
 rw[←Dg]at h;exact h
theorem gX.alw{d:gX}(a:0<d.B)(i:Nat):d.X i<BP d.N:=by
 have c:d.R (i+1)<d.B:=al8 _ a;have b:d.B<BP (words d.B).length:=(aZ _ _).1 (alE _);unfold gX.N;rw[df];unfold gX.X gX.c0;omega
theorem gX.aiL{d:gX}(a:0<d.B){i:Nat}(h:d.B≤d.X i)(j:Nat):d.qF i j=if j=i/32 then(d.qF (i+1) j|||2^(i%32))else d.qF (i+1) j:=by
 unfold gX.qF;rw[(gX.step a i).1,apB h,amT,amU,alS 2,alQ,←aoQ,af1]
theorem gX.agc{d:gX}(a:0<d.B){i:Nat}(h:¬d.B≤d.X i)(j:Nat):d.qF i j=d.qF (i+1) j:=by
 unfold gX.qF;rw[(gX.step a i).1,apA h,ans,alS 2,alQ,←aoQ]
theorem gX.cmp(c:aa G){d:gX}(a:d.ok)(i:Nat)(k:Nat)(o:k=d.N):
  Spec zZq G 227 [.row d.N false (((cK d.N (xa (d.R (i+1)) (d.X i) k)).drop 0).take d.N),az (words d.B)] (int (jK (d.X i) d.B)):=by
 obtain⟨f,-,b⟩:=a;have n:=apJ;have g:=apI;have h:=uh (G:=G) c (l:=fc d.N (d.X i)) (m:=words d.B) (jx _ _) (bb _) (by rw[dz];omega) (by unfold gX.N at b;omega)
 rw[AX (gX.alw f i),aX,←p9]at h;have e:cK d.N (xa (d.R (i+1)) (d.X i) k)=cK d.N (fun j=>d.X i/BP j%4294967296):=a_ fun j p=>by unfold xa;rw[apB (by omega)]
 rw[e];exact h
theorem Ng(r:aa G){d:gX}(E:d.ok){i:Nat}(H:i<bl d.A):
    ak zZq G 0 (ah f334 0) (qT d (i+1)) .normal (qT d i):=by
  have s:=gX.cmp (G:=G) r E i d.N rfl;obtain⟨w,F,O⟩:=E;have L:=apJ;have K:=apI;have M:=apH;have R:bl d.A≤32*d.la:=by
    rcases alU (32*d.la) (bl d.A)with q|q
    · have Q:=Hm (x:=d.A) (fun e=>by rw[e,aem]at H;omega)
      have J:d.A<BP d.la:=(aZ _ _).1 (alE _);rw[yr]at J;have P:2^(32*d.la)≤2^(bl d.A-1):=al3 (by omega) (by omega)
      omega
    · exact q
  have m:i/32<d.la:=by omega
  have h:i<2^60:=by omega
  have z:=(bb d.A).getD (i/32);have n:0≤zNq (i%32):=by simp only[zKq];omega
  have t:=aa9 (G:=G) r (d:=d) (i:=i) (cK d.la (d.qF (i+1))) (by omega)
  have B:zNq ((words d.A).getD (i/32) 0/2^(i%32)%2)=zNq (d.c0 i):=by rw[lM,Xt];rfl
  have hand:IntKind.wrap .u32 (((BitVec.ofInt (IntKind.bits .u32) (zNq ((words d.A).getD (i/32) 0/2^(i%32)))&&&BitVec.ofInt (IntKind.bits .u32) 1).toNat:Nat):Int)=zNq (d.c0 i):=by
    rw[TO (amD (amC _ _) z),B]
  by_cases o:d.B≤d.X i
  · have u:=Ug (G:=G) r (N:=d.N) (X:=d.X i) (v:=words d.B) (cK d.la (d.qF (i+1))) (bb _) (by rw[aX];exact o) (by omega)
    have A:cK d.N (xa (d.R (i+1)) (d.X i) d.N)=cK d.N (fun j=>d.X i/BP j%4294967296):=a_ fun j g=>by unfold xa;rw[apB g]
    rw[←A]at u;have C:d.qF (i+1) (i/32)<4294967296:=al8 _ (by omega)
    have D:2^(i%32)<4294967296:=by
        have:=aoc (a:=2) (by omega) (show i%32<32 by omega);have I:2^32=4294967296:=by decide
        omega
    have e:qT d i=lay 76 [(0,az (words d.A)),(1,az (words d.B)),(6,.bz 0 0 d.la d.la),(7,.bz 1 0 d.N d.N),(8,int (JO i))]
        [(0,aF (cK d.la (d.qF (i+1))) (i/32) [u32 (d.qF (i+1) (i/32)|||2^(i%32))]),(1,cK d.N (sC (d.X i) (val (words d.B)) d.N))]:=by
      rw[fE _ _ m];unfold qT;have f1:cK d.la (d.qF i)=cK d.la (fun j=>if j=i/32 then d.qF (i+1) (i/32)|||2^(i%32)else d.qF (i+1) j):=a_ fun j _=>by
        rw[gX.aiL w o];by_cases g:j=i/32
        · rw[apB g,apB g,g]
        · rw[apA g,apA g]
      have f2:cK d.N (fun j=>d.R i/BP j%4294967296)=cK d.N (sC (d.X i) (val (words d.B)) d.N):=a_ fun j g=>by
        unfold sC;rw[apB g,aX,(gX.step w i).2,apB o]
      rw[f1,f2]
    rw[e];clear e;exact ak.r r [.eb 22 (x:=decide (zNq i≥0)) (y:=true) (by simp),.eq 27 (bQ (KP (i:=i) (c:=32) h)),.prop (c9 (l:=words d.A) (i:=i/32) m),.prop (bu (l:=words d.A) (i:=i/32) m),.eq 29 (a8 (l:=words d.A) (i:=i/32) m),
       .eq 31 (bQ (KO i 32)),.prop n,.eq 32 (gB (tL (x:=(words d.A).getD (i/32) 0) (i%32) (by omega))),.eq 33 (gB hand),.code t,.call s,.eb 58 (Lq o),
       .inl [] func228,.code u,
       .eq 64 (bQ (KP (i:=i) (c:=32) h)),.prop (dp m),.eq 65 (jC 0 (i/32)),.prop (p:=0<1∧i/32+1≤(cK d.la (d.qF (i+1))).length) (by rw[du];omega),.eq 66 (kM (N:=d.la) (f:=d.qF (i+1)) m),
       .eq 68 (bQ (KO i 32)),.prop n,.eq 69 (gB (acQ (k:=i%32) (by omega))),.eq 70 (gB (CL C D)),.prop (dp m),.eq 71 (jC 0 (i/32)),.prop (p:=i/32+1≤(cK d.la (d.qF (i+1))).length) (by rw[du];omega),
       .eq 24 (bQ (lh h))]
  · have e:qT d i=lay 76 [(0,az (words d.A)),(1,az (words d.B)),(6,.bz 0 0 d.la d.la),(7,.bz 1 0 d.N d.N),(8,int (JO i))] [(0,cK d.la (d.qF (i+1))),(1,cK d.N (xa (d.R (i+1)) (d.X i) d.N))]:=by
      unfold qT;have f1:cK d.la (d.qF i)=cK d.la (d.qF (i+1)):=a_ fun j _=>gX.agc w o j
      have f2:cK d.N (fun j=>d.R i/BP j%4294967296)=cK d.N (xa (d.R (i+1)) (d.X i) d.N):=a_ fun j g=>by
        unfold xa;rw[apB g,(gX.step w i).2,apA o]
      rw[f1,f2]
    rw[e];clear e;exact ak.r r [.eb 22 (x:=decide (zNq i≥0)) (y:=true) (by simp),.eq 27 (bQ (KP (i:=i) (c:=32) h)),.prop (c9 (l:=words d.A) (i:=i/32) m),.prop (bu (l:=words d.A) (i:=i/32) m),.eq 29 (a8 (l:=words d.A) (i:=i/32) m),
       .eq 31 (bQ (KO i 32)),.prop n,.eq 32 (gB (tL (x:=(words d.A).getD (i/32) 0) (i%32) (by omega))),.eq 33 (gB hand),.code t,.call s,.eb 58 (Lo (a:=d.X i) (b:=d.B) (by omega)),
       .eq 24 (bQ (lh h))]
theorem QS(a:aa G){d:gX}:ak zZq G 0 (ah f334 0) (qT d 0) (.exit 0) (qT d 0):=
 ak.r a []
theorem QR(a:aa G){d:gX}(f:d.ok):
  bT zZq G 76 0 (.loop (ah f334 0))
   (lay 76 [(0,az (words d.A)),(1,az (words d.B)),(6,.bz 0 0 d.la d.la),(7,.bz 1 0 d.N d.N),(8,int (JO (bl d.A)))] [(0,List.replicate d.la (u32 0)),(1,List.replicate d.N (u32 0))]) (.exit 0) (qT d 0):=by
 have h:=bT.down (qT d) (bl d.A) (fun i=>ar _ _ _) (by simp) (fun i c=>Ng a f c) (QS a)
 have e:qT d (bl d.A)=lay 76 [(0,az (words d.A)),(1,az (words d.B)),(6,.bz 0 0 d.la d.la),(7,.bz 1 0 d.N d.N),(8,int (JO (bl d.A)))] [(0,List.replicate d.la (u32 0)),(1,List.replicate d.N (u32 0))]:=by
  rw[mX,mX];have b:d.A/2^bl d.A=0:=amn (TL _);unfold qT;have f1:cK d.la (d.qF (bl d.A))=cK d.la (fun _=>0):=a_ fun j _=>by unfold gX.qF;rw[b,aov,am6,aov]
  have f2:cK d.N (fun j=>d.R (bl d.A)/BP j%4294967296)=cK d.N (fun _=>0):=a_ fun j _=>by unfold gX.R;rw[b,Nat.zero_mod,aov]
  rw[f1,f2]
 rw[e]at h;exact h
theorem Be(c:aa G){a b:Nat}(d:0<b)(e:(words a).length≤2^44)(w:(words b).length≤2^44):
    Spec zZq G 334 [az (words a),az (words b)] (.aY [az (words (a/b)),az (words (a%b))]):=by
  have s:=apJ;have r:=apI;have t:=apH;have k:(gX.mk a b).ok:=⟨d,e,by show(words b).length+1≤_;omega⟩
  have y:bl a≤32*(words a).length:=by
    rcases alT a with h|h
    · subst h;exact amd _
    · have m:=(aZ a _).1 (alE _)
      rcases alU (32*(words a).length) (bl a)with q|q
      · have v:=Hm (x:=a) (by omega)
        rw[yr]at m;have u:2^(32*(words a).length)≤2^(bl a-1):=al3 (by omega) (by omega)
        omega
      · exact q
  have g:a/b<BP (words a).length:=amD (amC _ _) ((aZ a _).1 (alE _));have f:a%b<BP ((words b).length+1):=by
    have:=al8 a d;have:=(aZ b _).1 (alE _);rw[df];omega
  have t1:=iP (G:=G) c (l:=fc (words a).length (a/b)) (jx _ _) (by rw[dz];omega)
  have t2:=iP (G:=G) c (l:=fc ((words b).length+1) (a%b)) (jx _ _) (by rw[dz];omega)
  rw[iN g]at t1;rw[iN f]at t2;have p:D.row (words a).length false (((cK (words a).length (gX.qF ⟨a,b⟩ 0)).drop 0).take (words a).length)=az (fc (words a).length (a/b)):=by
    rw[←p9];congr 3;exact a_ fun j _=>by unfold gX.qF;simp only[Nat.pow_zero,Nat.div_one,Nat.mul_one]
  have o:D.row ((words b).length+1) false (((cK ((words b).length+1) (fun j=>gX.R ⟨a,b⟩ 0/BP j%4294967296)).drop 0).take ((words b).length+1))=az (fc ((words b).length+1) (a%b)):=by
    rw[←p9];congr 3;exact a_ fun j _=>by unfold gX.R;simp only[Nat.pow_zero,Nat.div_one]
  exact Spec.r c func334 [] [.prop (kQ (N:=(words a).length) (by omega)),.eq 16 (bQ (cw (i:=(words b).length) (by omega))),.prop (kQ (N:=(words b).length+1) (by omega)),.call (Qo c e),.eq 20 (bQ (lh (n:=bl a) (by omega))),
     .code (QR c k),.freeze 0,.freeze 1,.eq 72 p,.call t1,.eq 74 o,.call t2]
end Lw
namespace Lw
open Go Go.RowKit Go.Proofs
variable {G:World→Prop}
theorem AD{P:Nat→Prop}:∀n,¬P n→∃T,(∀t,t<T→P t)∧¬P T:=by
 intro n;induction n with
 |zero=>intro h;exact⟨0,fun t a=>apC a (by omega),h⟩
 |succ n i=>
  intro h;by_cases l:P n
  ·by_cases f:∀t,t<n+1→P t
   ·exact⟨n+1,f,h⟩
   ·have:∃t,t<n+1∧¬P t:=aod fun m=>f fun t a=>aod fun e=>m ⟨t,a,e⟩
    obtain⟨t,a,e⟩:=this;by_cases b:∃s,s<n+1∧¬P s∧∀r,r<s→P r
    ·obtain⟨s,-,p,o⟩:=b;exact⟨s,o,p⟩
    ·exfalso
     have:∀k,∀s,s<k→s<n+1→P s:=by
      intro k;induction k with
      |zero=>intro s j;omega
      |succ k c=>
       intro s j d;by_cases g:P s
       ·exact g
       ·exact apC ⟨s,d,g,fun r q=>c r (by omega) (by omega)⟩ b
     exact e (this (n+1) t a a)
  ·exact i l
theorem vG{n:Nat}(h:0<n):∃T,(∀i,i<T→n/2^i%2=0)∧¬n/2^T%2=0:=by
 refine AD (P:=fun i=>n/2^i%2=0) (bl n-1) ?_
 have d:=Hm (x:=n) (by omega)
 have b:=TL n;have c:=RX (x:=n) (by omega)
 have a:n/2^(bl n-1)=1:=by
  refine ape (by omega) ?_
  rw[show(1+1)*2^(bl n-1)=2^bl n by rw[show bl n=(bl n-1)+1 by omega,al5];simp only[Nat.add_sub_cancel];omega]
  exact b
 show¬n/2^(bl n-1)%2=0;rw[a];omega
noncomputable def tz(n:Nat):Nat:=if h:0<n then Classical.choose (vG h)else 0
theorem vB{n:Nat}(h:0<n){i:Nat}(a:i<tz n):n/2^i%2=0:=by
 unfold tz at a;rw[dif_pos h]at a;exact(Classical.choose_spec (vG h)).1 i a
theorem Kc{n:Nat}(h:0<n):n/2^tz n%2=1:=by
 unfold tz;rw[dif_pos h];have:=(Classical.choose_spec (vG h)).2;omega
noncomputable def fo(n:Nat):Nat:=n/2^tz n
theorem M_{n:Nat}(h:0<n):0<fo n:=by
 have:=Kc h;unfold fo;rcases alT (n/2^tz n)with e|e
 ·rw[e]at this;omega
 ·exact e
theorem yH(n:Nat):fo n≤n:=amC _ _
theorem oq(a i:Nat):a/2^(i+1)=a/2^i/2:=by rw[al5,←al7]
theorem Jv{a b:Nat}(h:Nat.gcd a b%2=1):∀i,(∀k,k<i→a/2^k%2=0)→Nat.gcd (a/2^i) b=Nat.gcd a b
 |0,_=>by rw[ant,amN]
 |i+1,d=>by
  have c:=Jv h i fun k f=>d k (by omega)
  have e:a/2^i=2*(a/2^(i+1)):=by rw[oq];have:=d i (by omega);omega
  rw[e]at c;rw[←c];exact aaw (by rw[c];exact h)
theorem NZ{a b:Nat}(d:0<a)(h:Nat.gcd a b%2=1):Nat.gcd (fo a) b=Nat.gcd a b:=Jv h _ fun _ c=>vB d c
structure GS where
 sw:Bool
 a:Nat
 b:Nat
noncomputable def GS.next(s:GS):GS:=if fo s.a<fo s.b then⟨!s.sw,fo s.b-fo s.a,fo s.a⟩else⟨s.sw,fo s.a-fo s.b,fo s.b⟩
theorem GS.Zr{s:GS}(b:0<s.a)(a:0<s.b)(h:Nat.gcd s.a s.b%2=1):Nat.gcd s.next.a s.next.b=Nat.gcd s.a s.b∧0<s.next.b∧s.next.a+s.next.b<s.a+s.b:=by
 have d:=NZ b h;have c:Nat.gcd (fo s.a) (fo s.b)=Nat.gcd s.a s.b:=by
  rw[←d,aow (fo s.a) s.b,←NZ a (by rw[aow,d];exact h),aow]
 have g:=M_ b;have f:=M_ a;have j:=yH s.a;have i:=yH s.b;unfold GS.next
 split
 ·rename_i e
  refine⟨?_,g,?_⟩
  ·show Nat.gcd (fo s.b-fo s.a) (fo s.a)=_
   rw[N2 (amb e),aow,c]
  ·show fo s.b-fo s.a+fo s.a<_;omega
 ·rename_i e
  refine⟨?_,f,?_⟩
  ·show Nat.gcd (fo s.a-fo s.b) (fo s.b)=_
   rw[N2 (by omega),c]
  ·show fo s.a-fo s.b+fo s.b<_;omega
noncomputable def GS.nth(s:GS):Nat→GS
 |0=>s
 |i+1=>(s.nth i).next
def GS.fits(N0 N1:Nat)(s:GS):Prop:=(words (cond s.sw s.b s.a)).length≤N0∧(words (cond s.sw s.a s.b)).length≤N1
theorem GS.U0{N0 N1:Nat}{s:GS}(h:s.fits N0 N1):s.next.fits N0 N1:=by
 have i:=cE (yH s.a);have g:=cE (yH s.b);have f:=cE (anF (fo s.a) (fo s.b));have e:=cE (anF (fo s.b) (fo s.a));obtain⟨c,a,b⟩:=s;unfold GS.fits GS.next at*
 simp only at i g f e;by_cases d:fo a<fo b
 ·simp only[if_pos d]
  cases c<;>simp only[cond,Bool.not_false,Bool.not_true]at h⊢ <;>omega
 ·simp only[if_neg d]
  cases c<;>simp only[cond]at h⊢ <;>omega
theorem GS.run{s:GS}(g:0<s.b)(h:Nat.gcd s.a s.b%2=1)(i:Nat)(b:∀t,t<i→0<(s.nth t).a):0<(s.nth i).b∧Nat.gcd (s.nth i).a (s.nth i).b=Nat.gcd s.a s.b∧(s.nth i).a+(s.nth i).b+i≤s.a+s.b:=by
 induction i with
 |zero=>exact⟨g,rfl,alE _⟩
 |succ i f=>
  obtain⟨c,a,j⟩:=f fun t l=>b t (by omega)
  obtain⟨e,d,k⟩:=GS.Zr (b i (by omega)) c (by rw[a];exact h)
  exact⟨d,by show Nat.gcd (s.nth i).next.a (s.nth i).next.b=_;rw[e,a],by show(s.nth i).next.a+(s.nth i).next.b+(i+1)≤_;omega⟩
theorem GS.stops{s:GS}(e:0<s.b)(h:Nat.gcd s.a s.b%2=1):∃T,(∀t,t<T→0<(s.nth t).a)∧(s.nth T).a=0:=by
 by_cases a:∀t,t<s.a+s.b+1→0<(s.nth t).a
 ·have:=(GS.run e h _ a).2.2;omega
 ·have:∃n,¬0<(s.nth n).a:=aod fun d=>a fun t _=>aod fun b=>d ⟨t,b⟩
  obtain⟨n,c⟩:=this;obtain⟨T,f,g⟩:=AD (P:=fun t=>0<(s.nth t).a) n c
  exact⟨T,f,by omega⟩
def ED(p:Bool)(c o:List D):List (Nat×List D):=[(0,cond p o c),(1,cond p c o)]
def jy(N x:Nat):List D:=(fc N x).map u32
theorem G2(N x:Nat):(jy N x).length=N:=by unfold jy;rw[alR,dz]
theorem x_(N x:Nat):cK N (fun j=>x/BP j%4294967296)=jy N x:=B' N x
theorem x9{N x:Nat}(h:(words x).length≤N):D.row (words x).length false ((jy N x).take ((words x).length*1))=az (words x):=by
 unfold az jy;rw[amH,←aoi,JI h,←qI]
theorem G3{N x k:Nat}(h:k<N):((jy N x).drop k).headD .any=u32 (x/BP k%4294967296):=by rw[←x_];exact kM h
theorem LH(g:aa G){N n i:Nat}{f:Nat→Nat}(d:∀j,f j<4294967296)(c:n≤N):
  Spec zZq G 291 [.row n false ((cK N f).take (n*1)),nat i] (u64 (if i<n then f i else 0)):=by
 have h:=gK (G:=G) g ((List.range n).map f) (fun x a=>by simp only[List.mem_map]at a;obtain⟨j,-,rfl⟩:=a;exact d j) i
 have e:az ((List.range n).map f)=.row n false ((cK N f).take (n*1)):=by
  unfold az cK;rw[amH,←aoi,List.take_range,an9 c];simp
 have k:((List.range n).map f).getD i 0=if i<n then f i else 0:=by
  by_cases b:i<n
  ·simp[List.getD_eq_getElem?_getD,b]
  ·simp[List.getD_eq_getElem?_getD,b]
 rw[e,k]at h;exact h
def Di(p:Bool)(N y:Nat)(o:List D)(k:Nat):St:=lay 21 [(0,.cR (cond p 1 0) k 1)] (ED p (jy N y) o)
theorem V0(j:aa G){p:Bool}{N y k:Nat}{o:List D}(h:k<N)(q:N<2^45)(hw:(words y).length≤k):
  ak zZq G 2 (ah f229 0) (Di p N y o (k+1)) .normal (Di p N y o k):=by
 have m:=apI;have n:=apH;have g:y/BP k%4294967296=0:=by rw[amn ((aZ y k).1 hw)]
 have b:IntKind.wrap .i64 (zNq (k+1)-1)=zNq k:=kG (i:=k+1) (by omega) (by omega)
 have l:decide (zNq (k+1)>0)=true:=by simp only[zKq,decide_eq_true_eq];omega
 have f:(0:Int)≤zNq k∧zNq k<((k+1:Nat):Int):=by simp only[zKq];omega
 have e:0<1∧k+1≤(jy N y).length:=by rw[G2];omega
 have d:(0:Int)≤zNq k∧zNq k≤((k+1:Nat):Int):=by simp only[zKq];omega
 have c:D.ptr (cond p 1 0) ((zNq k).toNat*1)=.ptr (cond p 1 0) k:=by simp
 have a:(zNq (y/BP k%4294967296)==0)=true:=by rw[g];rfl
 cases p<;>exact ak.r j [.eb 5 l,.eq 10 (bQ b),.prop f,.eq 11 c,.prop e,.eq 12 (G3 (N:=N) (x:=y) h),.eb 13 a,.eq 18 (bQ b),.prop d]
theorem aba(c:aa G){p:Bool}{N y:Nat}{o:List D}(s:(words y).length≤N)(t:N<2^45):
  ak zZq G 2 (ah f229 0) (Di p N y o (words y).length) (.exit 0) (Di p N y o (words y).length):=by
 have q:=apI;have r:=apH;rcases alT y with h|h
 ·subst h
  have a:decide (zNq (words 0).length>0)=false:=rfl;cases p<;>exact ak.r c [.eb 5 a]
 ·have j:=ef (n:=y) (by omega)
  have g:=nk (n:=y) (by omega)
  rw[lM]at g;have a:decide (zNq (words y).length>0)=true:=by simp only[zKq,decide_eq_true_eq];omega
  have l:IntKind.wrap .i64 (zNq (words y).length-1)=zNq ((words y).length-1):=kG (i:=(words y).length) (by omega) j
  have f:(0:Int)≤zNq ((words y).length-1)∧zNq ((words y).length-1)<((words y).length:Int):=by simp only[zKq];omega
  have e:0<1∧(words y).length-1+1≤(jy N y).length:=by rw[G2];omega
  have d:D.ptr (cond p 1 0) ((zNq ((words y).length-1)).toNat*1)=.ptr (cond p 1 0) ((words y).length-1):=by simp
  have b:(zNq (y/BP ((words y).length-1)%4294967296)==0)=false:=by rw[beq_eq_false_iff_ne];simp only[zKq];omega
  have m:=G3 (N:=N) (x:=y) (k:=(words y).length-1) (by omega)
  cases p<;>exact ak.r c [.eb 5 a,.eq 10 (bQ l),.prop f,.eq 11 d,.prop e,.eq 12 m,.eb 13 b]
theorem mW(c:aa G)(p:Bool){N y n:Nat}(o:List D)(d:n≤N)(b:N<2^45)(hw:(words y).length≤n):
  bT zZq G 21 2 (.loop (ah f229 0)) (lay 21 [(0,.cR (cond p 1 0) n 1)] (ED p (jy N y) o)) (.exit 0) (Di p N y o (words y).length):=by
 refine bT.rounds (fun k:Nat=>k≤N∧(words y).length≤k) (Di p N y o) (fun k=>k) (fun m=>ar _ _ _) (by simp) (fun k e=>?_) n ⟨d,hw⟩
 obtain⟨g,f⟩:=e;rcases Nat.eq_or_lt_of_le f with h|h
 ·right;subst h;exact aba c g b
 ·left
  obtain⟨a,rfl⟩:∃a,k=a+1:=⟨k-1,by omega⟩
  exact⟨a,⟨by omega,by omega⟩,by omega,V0 c (by omega) b (by omega)⟩
end Lw
namespace Lw
open Go Go.RowKit Go.Proofs
variable {G:World→Prop}
def zt(x i j:Nat):Nat:=if j<i then x/2/BP j%4294967296 else x/BP j%4294967296
theorem Tm(x i j:Nat):zt x i j<4294967296:=by unfold zt;split<;>exact al8 _ (by omega)
theorem Vy(N x:Nat):cK N (zt x 0)=jy N x:=by
 rw[←x_];exact a_ fun j _=>by unfold zt;rw[apA (by omega)]
theorem aan{N x:Nat}:cK N (zt x (words x).length)=jy N (x/2):=by
 rw[←x_];refine a_ fun j _=>?_
 unfold zt;split
 ·rfl
 ·rename_i h
  have a:x<BP j:=(aZ x j).1 (by omega)
  rw[amn a,amn (amD (amC _ _) a)]
theorem Vz{N x t:Nat}(h:t<N):aF (cK N (zt x t)) t [u32 (x/2/BP t%4294967296)]=cK N (zt x (t+1)):=by
 rw[fE _ _ h];refine a_ fun j _=>?_
 unfold zt;by_cases a:j=t
 ·subst a;rw[apB rfl,apB (by omega)]
 ·rw[apA a]
  by_cases b:j<t
  ·rw[apB b,apB (by omega)]
  ·rw[apA b,apA (by omega)]
theorem adT(x i:Nat):(x/BP i%4294967296/2+x/BP (i+1)%4294967296*2147483648)%4294967296=x/2/BP i%4294967296:=by
 rw[df,alS 4294967296,←al7,al7 x 2,alS 2,←al7];generalize x/BP i=q;omega
def Ax(p:Bool)(N x:Nat)(o:List D)(i:Nat):St:=
 lay 26 [(0,.cR (cond p 1 0) (words x).length 1),(5,nat (words x).length),(6,nat i)] (ED p (cK N (zt x i)) o)
theorem XX(x:Nat):(zNq x).fdiv (2^min (Int.toNat 1) (IntKind.bits .u64))=zNq (x/2):=aeV (x:=x) (n:=1) (by omega)
theorem Uu{x:Nat}(h:x<4294967296):IntKind.wrap .u64 (zNq x*2^min (Int.toNat 31) (IntKind.bits .u64))=zNq (x*2147483648):=by
 rw[show(2:Int)^min (Int.toNat 31) (IntKind.bits .u64)=zNq 2147483648 by decide]
 exact wrap_mul (by omega)
theorem Vx(d:aa G){p:Bool}{N x i:Nat}{o:List D}(f:(words x).length≤N)(r:N<2^45)(b:i<(words x).length):
    ak zZq G 2 (ah f226 0) (Ax p N x o i) .normal (Ax p N x o (i+1)):=by
  have m:=apI;have q:=apH;have a1:=LH (G:=G) d (N:=N) (n:=(words x).length) (i:=i) (Tm x i) f;have g:=LH (G:=G) d (N:=N) (n:=(words x).length) (i:=i+1) (Tm x i) f;have f1:(if i<(words x).length then zt x i i else 0)=x/BP i%4294967296:=by rw[apB b];unfold zt;rw[apA (by omega)]
  have f2:(if i+1<(words x).length then zt x i (i+1)else 0)=x/BP (i+1)%4294967296:=by
    split
    · unfold zt;rw[apA (by omega)]
    · rw[amn ((aZ x (i+1)).1 (by omega))]
  rw[f1]at a1;rw[f2]at g;have hw:x/BP i%4294967296<4294967296:=al8 _ (by omega)
  have l:x/BP (i+1)%4294967296<4294967296:=al8 _ (by omega)
  have a:IntKind.wrap .u64 (((BitVec.ofInt (IntKind.bits .u64) (zNq (x/BP i%4294967296/2))|||BitVec.ofInt (IntKind.bits .u64) (zNq (x/BP (i+1)%4294967296*2147483648))).toNat:Nat):Int)
      =zNq (x/BP i%4294967296/2+x/BP (i+1)%4294967296*2147483648):=by
    rw[yG (by omega) (by omega)]
    have:=Y7 (n:=31) (x:=x/BP (i+1)%4294967296) (y:=x/BP i%4294967296/2) (by rw[show(2:Nat)^31=2147483648 by decide];omega)
    rw[show(2:Nat)^31=2147483648 by decide]at this
    rw[this]
  have c:IntKind.wrap .u32 (zNq (x/BP i%4294967296/2+x/BP (i+1)%4294967296*2147483648))=zNq (x/2/BP i%4294967296):=by rw[il,adT]
  have k:(0:Int)≤zNq i∧zNq i<((words x).length:Int):=dp b;have h:D.ptr (cond p 1 0) ((zNq i).toNat*1)=.ptr (cond p 1 0) i:=by simp
  have j:i+1≤(cK N (zt x i)).length:=by rw[du];omega
  have s1:IntKind.wrap .i64 (zNq i+1)=zNq (i+1):=cw (by omega)
  have e:Ax p N x o (i+1)=lay 26 [(0,.cR (cond p 1 0) (words x).length 1),(5,nat (words x).length),(6,nat (i+1))] (ED p (aF (cK N (zt x i)) i [u32 (x/2/BP i%4294967296)]) o):=by
    rw[Vz (by omega)];rfl
  rw[e];clear e;cases p<;>exact ak.r d [.eb 7 (ay b),.call a1,.eq 14 (bO (XX (x/BP i%4294967296))),.eq 17 (bQ s1),.call g,.eq 19 (bO (Uu l)),.eq 20 (bO a),.eq 21 (gB c),
     .prop k,.eq 22 h,.prop j,.eq 23 (bQ s1)]
theorem aam(a:aa G){p:Bool}{N x:Nat}{o:List D}:
  ak zZq G 2 (ah f226 0) (Ax p N x o (words x).length) (.exit 0) (Ax p N x o (words x).length):=by
 cases p<;>exact ak.r a [.eb 7 (aH (alE (words x).length))]
theorem u_(a:aa G)(p:Bool){N x:Nat}(o:List D)(b:(words x).length≤N)(d:N<2^45):
  bT zZq G 26 2 (.loop (ah f226 0)) (lay 26 [(0,.cR (cond p 1 0) (words x).length 1),(5,nat (words x).length),(6,nat 0)] (ED p (jy N x) o)) (.exit 0)
   (lay 26 [(0,.cR (cond p 1 0) (words x).length 1),(5,nat (words x).length),(6,nat (words x).length)] (ED p (jy N (x/2)) o)):=by
 have h:=bT.count (Ax p N x o) (words x).length (fun k=>ar _ _ _) (by simp) (fun i c=>Vx a b d c) (aam a)
 unfold Ax at h;rw[Vy,aan]at h;exact h
def Fv(p:Bool)(b a X Y t:Nat):St:=
 lay 31 [(0,.cR (cond p 1 0) (words X).length 1),(1,.cR (cond p 0 1) (words Y).length 1),(4,u64 (fB X Y t)),(8,nat (words X).length),(9,nat t)] (ED p (cK b (sC X Y t)) (jy a Y))
theorem XM(h:aa G){p:Bool}{d f X Y t:Nat}(A:(words X).length≤d)(z:(words Y).length≤f)(hle:Y≤X)(E:d<2^45)(g:t<(words X).length):
    ak zZq G 2 (ah f228 0) (Fv p d f X Y t) .normal (Fv p d f X Y (t+1)):=by
  have B:=apI;have C:=apH;have w:=Ly (i:=t) hle;have v:=Hl (a:=X) (b:=Y) (i:=t);have m:X/BP t%4294967296<4294967296:=al8 _ (by omega)
  have H:Y/BP t%4294967296<4294967296:=al8 _ (by omega)
  have F:=wD X Y t;have a1:=LH (G:=G) h (N:=d) (n:=(words X).length) (i:=t) (Sq X Y t) A;have f1:(if t<(words X).length then sC X Y t t else 0)=X/BP t%4294967296:=by rw[apB g];unfold sC;rw[apA (by omega)]
  rw[f1]at a1;have o:=gK (G:=G) h (words Y) (bb _) t;rw[lM,←x9 z]at o;have u:=Lx (x:=X/BP t%4294967296) (y:=Y/BP t%4294967296) (c:=fB X Y t) m;have j:IntKind.wrap .u32 (zNq (Lz (X/BP t%4294967296) (Y/BP t%4294967296) (fB X Y t)))=zNq ((X-Y)/BP t%4294967296):=by rw[il,w]
  have eb:IntKind.wrap .u64 (1-zNq (Lz (X/BP t%4294967296) (Y/BP t%4294967296) (fB X Y t)/4294967296))=zNq (fB X Y (t+1)):=by rw[Ga u,v]
  have k:IntKind.wrap .u64 (zNq (4294967296+X/BP t%4294967296-Y/BP t%4294967296)-zNq (fB X Y t))=zNq (Lz (X/BP t%4294967296) (Y/BP t%4294967296) (fB X Y t)):=rN (by omega) (by omega)
  have l:IntKind.wrap .u64 (zNq (4294967296+X/BP t%4294967296)-zNq (Y/BP t%4294967296))=zNq (4294967296+X/BP t%4294967296-Y/BP t%4294967296):=rN (by omega) (by omega)
  have s:(0:Int)≤zNq t∧zNq t<((words X).length:Int):=dp g;have q:D.ptr (cond p 1 0) ((zNq t).toNat*1)=.ptr (cond p 1 0) t:=by simp
  have r:t+1≤(cK d (sC X Y t)).length:=by rw[du];omega
  have s1:IntKind.wrap .i64 (zNq t+1)=zNq (t+1):=cw (by omega)
  have e:Fv p d f X Y (t+1)=lay 31 [(0,.cR (cond p 1 0) (words X).length 1),(1,.cR (cond p 0 1) (words Y).length 1),(4,u64 (fB X Y (t+1))),(8,nat (words X).length),(9,nat (t+1))]
      (ED p (aF (cK d (sC X Y t)) t [u32 ((X-Y)/BP t%4294967296)]) (jy f Y)):=by
    rw[IN (by omega)];rfl
  rw[e];clear e;cases p<;>exact ak.r h [.eb 10 (ay g),.call a1,.eq 15 (bO (TT m)),.call o,.eq 19 (bO l),.eq 21 (bO k),.eq 25 (gB j),.eq 27 (bO (qY (Lz (X/BP t%4294967296) (Y/BP t%4294967296) (fB X Y t)))),.eq 28 (bO eb),
     .prop s,.eq 29 q,.prop r,.eq 30 (bQ s1)]
theorem acu(c:aa G){p:Bool}{b a X Y:Nat}:
  ak zZq G 2 (ah f228 0) (Fv p b a X Y (words X).length) (.exit 0) (Fv p b a X Y (words X).length):=by
 cases p<;>exact ak.r c [.eb 10 (aH (alE (words X).length))]
theorem Ui{N X Y:Nat}:cK N (sC X Y (words X).length)=jy N (X-Y):=by
 rw[←x_];refine a_ fun j _=>?_
 unfold sC;split
 ·rfl
 ·rename_i h
  have a:X<BP j:=(aZ X j).1 (by omega)
  rw[amn a,amn (amD (anF _ _) a)]
theorem EL(c:aa G)(p:Bool){a b X Y:Nat}(f:(words X).length≤a)(e:(words Y).length≤b)(hle:Y≤X)(g:a<2^45):
  bT zZq G 31 2 (.loop (ah f228 0))
   (lay 31 [(0,.cR (cond p 1 0) (words X).length 1),(1,.cR (cond p 0 1) (words Y).length 1),(4,u64 0),(8,nat (words X).length),(9,nat 0)] (ED p (jy a X) (jy b Y))) (.exit 0)
   (lay 31 [(0,.cR (cond p 1 0) (words X).length 1),(1,.cR (cond p 0 1) (words Y).length 1),(4,u64 (fB X Y (words X).length)),(8,nat (words X).length),(9,nat (words X).length)] (ED p (jy a (X-Y)) (jy b Y))):=by
 have h:=bT.count (Fv p a b X Y) (words X).length (fun k=>ar _ _ _) (by simp) (fun i d=>XM c f e hle g d) (acu c)
 unfold Fv at h;rw[Ui,IM,x_,vj]at h;exact h
end Lw
namespace Lw
open Go Go.RowKit Go.Proofs
variable {G:World→Prop}
def yS(N0 N1 tw:Nat)(s:GS):St:=
 lay 72 [(0,.cR (cond s.sw 1 0) (words s.a).length 1),(1,.cR (cond s.sw 0 1) (words s.b).length 1),(5,nat tw)] (ED s.sw (jy (cond s.sw N1 N0) s.a) (jy (cond s.sw N0 N1) s.b))
theorem oG{a:Nat}(h:0<a):(0:Int)≤0∧(0:Int)<((words a).length:Int):=by
 have:=ef (n:=a) (by omega);omega
theorem jO{N a:Nat}(h:0<a)(b:(words a).length≤N):0<1∧0+1≤(jy N a).length:=by
 have:=ef (n:=a) (by omega)
 rw[G2];omega
theorem lK{N a:Nat}(h:0<a)(b:(words a).length≤N):((jy N a).drop 0).headD .any=u32 (a/BP 0%4294967296):=G3 (by have:=ef (n:=a) (by omega);omega)
theorem zero_and(a:Nat):IntKind.wrap .u32 (((BitVec.ofInt (IntKind.bits .u32) (zNq (a/BP 0%4294967296))&&&BitVec.ofInt (IntKind.bits .u32) 1).toNat:Nat):Int)=zNq (a%2):=by
 rw[TO (al8 _ (by omega)),ig,amN]
 congr 1
 omega
theorem pM{a:Nat}(h:a%2=0):(zNq (a%2)==0)=true:=by rw[h];rfl
theorem wi{a:Nat}(h:¬a%2=0):(zNq (a%2)==0)=false:=by rw[beq_eq_false_iff_ne];simp only[zKq];omega
theorem u6(a:Nat):(words (a/2)).length≤(words a).length:=cE (amC _ _)
theorem X4(e:aa G){N0 N1 tw:Nat}{sw:Bool}{a b:Nat}(d:0<a)(f:a%2=0)(c:(words a).length≤cond sw N1 N0)(h:N0<2^45)(g:N1<2^45):
    ak zZq G 0 (ah f167 2) (yS N0 N1 tw ⟨sw,a,b⟩) .normal (yS N0 N1 tw ⟨sw,a/2,b⟩):=by
  cases sw
  · exact ak.r e [.prop (oG d),.prop (jO d c),.eq 41 (lK d c),.eq 42 (gB (zero_and a)),.eb 43 (pM f),
       .inl [] func226,.code (u_ e false (x:=a) (jy N1 b) c h),.inl [] func229,.code (mW e false (y:=a/2) (jy N1 b) c h (u6 a))]
  · exact ak.r e [.prop (oG d),.prop (jO d c),.eq 41 (lK d c),.eq 42 (gB (zero_and a)),.eb 43 (pM f),
       .inl [] func226,.code (u_ e true (x:=a) (jy N0 b) c g),.inl [] func229,.code (mW e true (y:=a/2) (jy N0 b) c g (u6 a))]
theorem acY(f:aa G){N0 N1 tw:Nat}{sw:Bool}{a b:Nat}(c:0<a)(e:¬a%2=0)(d:(words a).length≤cond sw N1 N0):
  ak zZq G 0 (ah f167 2) (yS N0 N1 tw ⟨sw,a,b⟩) (.exit 4) (yS N0 N1 tw ⟨sw,a,b⟩):=by
 cases sw<;>exact ak.r f [.prop (oG c),.prop (jO c d),.eq 41 (lK c d),.eq 42 (gB (zero_and a)),.eb 43 (wi e)]
theorem jD{a i:Nat}(c:0<a)(h:∀k,k<i→a/2^k%2=0):0<a/2^i:=by
 induction i with
 |zero=>rw[ant,amN];exact c
 |succ i b=>
  have f:=b fun k d=>h k (by omega)
  have e:=h i (by omega)
  rw[oq];omega
theorem EP(f:aa G){N0 N1 tw:Nat}{sw:Bool}{a b:Nat}(c:0<a)(g:(words a).length≤cond sw N1 N0)(m:N0<2^45)(l:N1<2^45):
  bT zZq G 72 0 (.loop (ah f167 2)) (yS N0 N1 tw ⟨sw,a,b⟩) (.exit 4) (yS N0 N1 tw ⟨sw,fo a,b⟩):=by
 have hlen:∀i,(words (a/2^i)).length≤cond sw N1 N0:=fun i=>alJ (cE (amC _ _)) g
 have h:=bT.count (P:=zZq) (Good:=G) (gb:=0) (body:=ah f167 2) (e:=.exit 4) (s':=yS N0 N1 tw ⟨sw,a/2^tz a,b⟩) (fun i=>yS N0 N1 tw ⟨sw,a/2^i,b⟩) (tz a) (fun i=>ar _ _ _) (by simp)
  (fun i j=>by
   have:=X4 (G:=G) f (tw:=tw) (sw:=sw) (b:=b) (jD c fun k d=>vB c (by omega)) (vB c j) (hlen i) m l
   rwa [←oq]at this)
  (acY f (jD c fun k d=>vB c d) (by have:=Kc c;omega) (hlen _))
 simp only[Nat.pow_zero,Nat.div_one]at h;exact h
theorem X3(e:aa G){N0 N1 tw:Nat}{sw:Bool}{a b:Nat}(d:0<b)(f:b%2=0)(c:(words b).length≤cond sw N0 N1)(h:N0<2^45)(g:N1<2^45):
    ak zZq G 0 (ah f167 3) (yS N0 N1 tw ⟨sw,a,b⟩) .normal (yS N0 N1 tw ⟨sw,a,b/2⟩):=by
  cases sw
  · exact ak.r e [.prop (oG d),.prop (jO d c),.eq 48 (lK d c),.eq 49 (gB (zero_and b)),.eb 50 (pM f),
       .inl [] func226,.code (u_ e true (x:=b) (jy N0 a) c g),.inl [] func229,.code (mW e true (y:=b/2) (jy N0 a) c g (u6 b))]
  · exact ak.r e [.prop (oG d),.prop (jO d c),.eq 48 (lK d c),.eq 49 (gB (zero_and b)),.eb 50 (pM f),
       .inl [] func226,.code (u_ e false (x:=b) (jy N1 a) c h),.inl [] func229,.code (mW e false (y:=b/2) (jy N1 a) c h (u6 b))]
theorem acX(f:aa G){N0 N1 tw:Nat}{sw:Bool}{a b:Nat}(c:0<b)(e:¬b%2=0)(d:(words b).length≤cond sw N0 N1):
  ak zZq G 0 (ah f167 3) (yS N0 N1 tw ⟨sw,a,b⟩) (.exit 6) (yS N0 N1 tw ⟨sw,a,b⟩):=by
 cases sw<;>exact ak.r f [.prop (oG c),.prop (jO c d),.eq 48 (lK c d),.eq 49 (gB (zero_and b)),.eb 50 (wi e)]
theorem EO(f:aa G){N0 N1 tw:Nat}{sw:Bool}{a b:Nat}(c:0<b)(g:(words b).length≤cond sw N0 N1)(m:N0<2^45)(l:N1<2^45):
  bT zZq G 72 0 (.loop (ah f167 3)) (yS N0 N1 tw ⟨sw,a,b⟩) (.exit 6) (yS N0 N1 tw ⟨sw,a,fo b⟩):=by
 have hlen:∀i,(words (b/2^i)).length≤cond sw N0 N1:=fun i=>alJ (cE (amC _ _)) g
 have h:=bT.count (P:=zZq) (Good:=G) (gb:=0) (body:=ah f167 3) (e:=.exit 6) (s':=yS N0 N1 tw ⟨sw,a,b/2^tz b⟩) (fun i=>yS N0 N1 tw ⟨sw,a,b/2^i⟩) (tz b) (fun i=>ar _ _ _) (by simp)
  (fun i j=>by
   have:=X3 (G:=G) f (tw:=tw) (sw:=sw) (a:=a) (jD c fun k d=>vB c (by omega)) (vB c j) (hlen i) m l
   rwa [←oq]at this)
  (acX f (jD c fun k d=>vB c d) (by have:=Kc c;omega) (hlen _))
 simp only[Nat.pow_zero,Nat.div_one]at h;exact h
theorem B7{a b:Nat}(h:a<b):decide (jK a b<0)=true:=by unfold jK;rw[apB h];rfl
theorem zS{a b:Nat}(h:¬a<b):decide (jK a b<0)=false:=by
 unfold jK;rw[apA h];split<;>rfl
theorem y9(g:aa G){d c a b:Nat}(f:(words a).length≤d)(e:(words b).length≤c)(j:d<2^45)(i:c<2^45):
  Spec zZq G 227 [.row (words a).length false ((jy d a).take ((words a).length*1)),.row (words b).length false ((jy c b).take ((words b).length*1))] (int (jK a b)):=by
 have h:=uh (G:=G) g (l:=words a) (m:=words b) (bb _) (bb _) (by omega) (by omega)
 rw[aX,aX]at h;rw[x9 f,x9 e];exact h
theorem aat(c:aa G){N0 N1 tw:Nat}(e:N0<2^45)(d:N1<2^45){s:GS}(l:s.fits N0 N1)(j:0<s.a)(k:0<s.b):
    ak zZq G 0 (ah f167 1) (yS N0 N1 tw s) .normal (yS N0 N1 tw s.next):=by
  obtain⟨sw,a,b⟩:=s;have n:=cE (yH a);have o:=cE (yH b);have m:decide (zNq (words a).length>0)=true:=by rw[oo];exact apD j
  unfold GS.next
  simp only at j k⊢;by_cases i:fo a<fo b
  · rw[apB i]
    have h:=cE (anF (fo b) (fo a));cases sw
    · obtain⟨f1,f2⟩:=l
      have f1:(words a).length≤N0:=f1;have f2:(words b).length≤N1:=f2;have g:(words (fo a)).length≤N0:=by omega
      have f:(words (fo b)).length≤N1:=by omega
      exact ak.r c [.eb 38 m,.code (EP c (tw:=tw) (sw:=false) (b:=b) j f1 e d),.code (EO c (tw:=tw) (sw:=false) (a:=fo a) k f2 e d),.call (y9 c g f e d),.eb 56 (B7 i),
         .inl [] func228,.code (EL c true f g (amb i) d),.inl [] func229,.code (mW c true (y:=fo b-fo a) (jy N0 (fo a)) f d h)]
    · obtain⟨f1,f2⟩:=l
      have f1:(words b).length≤N0:=f1;have f2:(words a).length≤N1:=f2;have g:(words (fo b)).length≤N0:=by omega
      have f:(words (fo a)).length≤N1:=by omega
      exact ak.r c [.eb 38 m,.code (EP c (tw:=tw) (sw:=true) (b:=b) j f2 e d),.code (EO c (tw:=tw) (sw:=true) (a:=fo a) k f1 e d),.call (y9 c f g d e),.eb 56 (B7 i),
         .inl [] func228,.code (EL c false g f (amb i) e),.inl [] func229,.code (mW c false (y:=fo b-fo a) (jy N1 (fo a)) g e h)]
  · rw[apA i]
    have h:=cE (anF (fo a) (fo b));cases sw
    · obtain⟨f1,f2⟩:=l
      have f1:(words a).length≤N0:=f1;have f2:(words b).length≤N1:=f2;have g:(words (fo a)).length≤N0:=by omega
      have f:(words (fo b)).length≤N1:=by omega
      exact ak.r c [.eb 38 m,.code (EP c (tw:=tw) (sw:=false) (b:=b) j f1 e d),.code (EO c (tw:=tw) (sw:=false) (a:=fo a) k f2 e d),.call (y9 c g f e d),.eb 56 (zS i),
         .inl [] func228,.code (EL c false g f (by omega) e),.inl [] func229,.code (mW c false (y:=fo a-fo b) (jy N1 (fo b)) g e h)]
    · obtain⟨f1,f2⟩:=l
      have f1:(words b).length≤N0:=f1;have f2:(words a).length≤N1:=f2;have g:(words (fo b)).length≤N0:=by omega
      have f:(words (fo a)).length≤N1:=by omega
      exact ak.r c [.eb 38 m,.code (EP c (tw:=tw) (sw:=true) (b:=b) j f2 e d),.code (EO c (tw:=tw) (sw:=true) (a:=fo a) k f1 e d),.call (y9 c f g d e),.eb 56 (zS i),
         .inl [] func228,.code (EL c true f g (by omega) d),.inl [] func229,.code (mW c true (y:=fo a-fo b) (jy N0 (fo b)) f d h)]
theorem adW(a:aa G){N0 N1 tw b:Nat}{sw:Bool}:ak zZq G 0 (ah f167 1) (yS N0 N1 tw ⟨sw,0,b⟩) (.exit 2) (yS N0 N1 tw ⟨sw,0,b⟩):=by
 have c:decide (zNq (words 0).length>0)=false:=rfl;cases sw<;>exact ak.r a [.eb 38 c]
theorem adV(j:aa G){N0 N1 tw:Nat}(r:N0<2^45)(q:N1<2^45){s:GS}(p:s.fits N0 N1)(d:0<s.b)(h:Nat.gcd s.a s.b%2=1):
  ∃sw,(GS.mk sw 0 (Nat.gcd s.a s.b)).fits N0 N1∧bT zZq G 72 0 (.loop (ah f167 1)) (yS N0 N1 tw s) (.exit 2) (yS N0 N1 tw ⟨sw,0,Nat.gcd s.a s.b⟩):=by
 obtain⟨T,f,a⟩:=GS.stops d h;have g:∀i,(s.nth i).fits N0 N1:=fun i=>by
  induction i with
  |zero=>exact p
  |succ i l=>exact GS.U0 l
 have k:s.nth T=⟨(s.nth T).sw,0,Nat.gcd s.a s.b⟩:=by
  obtain⟨-,c,-⟩:=GS.run d h T f;rw[a,apq]at c;cases m:s.nth T;rw[m]at a c;simp only at a c⊢;rw[a,c]
 refine⟨(s.nth T).sw,by rw[←k];exact g T,?_⟩
 have n:=bT.count (P:=zZq) (Good:=G) (gb:=0) (body:=ah f167 1) (e:=.exit 2) (s':=yS N0 N1 tw ⟨(s.nth T).sw,0,Nat.gcd s.a s.b⟩) (fun i=>yS N0 N1 tw (s.nth i)) T (fun i=>ar _ _ _) (by simp)
  (fun i o=>aat j r q (g i) (f i o) (GS.run d h i fun t u=>f t (by omega)).1)
  (by
    have:=adW (G:=G) j (N0:=N0) (N1:=N1) (tw:=tw) (b:=Nat.gcd s.a s.b) (sw:=(s.nth T).sw);rw[←k]at this⊢;exact this)
 exact n
theorem RW(c:aa G){N0 N1 k a b:Nat}(j:0<a)(h:0<b)(g:a%2=0)(f:b%2=0)(m:N0<2^45)(l:N1<2^45)(d:(words a).length≤N0)(e:(words b).length≤N1)(p:k<2^59):
    ak zZq G 0 (ah f167 0) (yS N0 N1 k ⟨false,a,b⟩) .normal (yS N0 N1 (k+1) ⟨false,a/2,b/2⟩):=by
  have n:=apO;have o:=apH;exact ak.r c [.prop (oG j),.prop (jO j d),.eq 20 (lK j d),.eq 21 (gB (zero_and a)),.eb 22 (pM g),
     .prop (oG h),.prop (jO h e),.eq 26 (lK h e),.eq 27 (gB (zero_and b)),.eb 28 (pM f),
     .inl [] func226,.code (u_ c false (x:=a) (jy N1 b) d m),.inl [] func229,.code (mW c false (y:=a/2) (jy N1 b) d m (u6 a)),
     .inl [] func226,.code (u_ c true (x:=b) (jy N0 (a/2)) e l),.inl [] func229,.code (mW c true (y:=b/2) (jy N0 (a/2)) e l (u6 b)),
     .eq 35 (bQ (cw (i:=k) (by omega)))]
theorem WH(j:aa G){N0 N1 k a b:Nat}(d:0<a)(g:0<b)(l:¬(a%2=0∧b%2=0))(e:(words a).length≤N0)(i:(words b).length≤N1):
    ak zZq G 0 (ah f167 0) (yS N0 N1 k ⟨false,a,b⟩) (.exit 0) (yS N0 N1 k ⟨false,a,b⟩):=by
  by_cases c:a%2=0
  · have f:¬b%2=0:=fun h=>l ⟨c,h⟩
    exact ak.r j [.prop (oG d),.prop (jO d e),.eq 20 (lK d e),.eq 21 (gB (zero_and a)),.eb 22 (pM c),
       .prop (oG g),.prop (jO g i),.eq 26 (lK g i),.eq 27 (gB (zero_and b)),.eb 28 (wi f)]
  · exact ak.r j [.prop (oG d),.prop (jO d e),.eq 20 (lK d e),.eq 21 (gB (zero_and a)),.eb 22 (wi c)]
theorem PT{a b:Nat}(c:0<a):∃T,(∀t,t<T→a/2^t%2=0∧b/2^t%2=0)∧¬(a/2^T%2=0∧b/2^T%2=0):=
 AD (P:=fun t=>a/2^t%2=0∧b/2^t%2=0) (tz a) fun h=>by have:=Kc c;omega
theorem Md{a b:Nat}:∀T,(∀t,t<T→a/2^t%2=0∧b/2^t%2=0)→2^T*Nat.gcd (a/2^T) (b/2^T)=Nat.gcd a b
 |0,_=>by rw[ant,amN,amN,amU]
 |T+1,h=>by
  have c:=Md T fun t f=>h t (by omega)
  obtain⟨i,g⟩:=h T (by omega)
  have e:a/2^T=2*(a/2^(T+1)):=by rw[oq];omega
  have d:b/2^T=2*(b/2^(T+1)):=by rw[oq];omega
  rw[←c,e,d,gcd_both,al5,alQ]
theorem adX{a b:Nat}(h:¬(a%2=0∧b%2=0)):Nat.gcd a b%2=1:=by
 rcases Nat.mod_two_eq_zero_or_one (Nat.gcd a b)with e|e
 ·have c:2∣Nat.gcd a b:=Nat.dvd_of_mod_eq_zero e
  have f:=Nat.dvd_trans c (aoT a b);have d:=Nat.dvd_trans c (aoL a b);exact apC ⟨aoN f,aoN d⟩ h
 ·exact e
theorem WG(m:aa G){N0 N1 a b T:Nat}(l:0<a)(j:0<b)(u:N0<2^45)(s:N1<2^45)(p:(words a).length≤N0)(q:(words b).length≤N1)
  (c:∀t,t<T→a/2^t%2=0∧b/2^t%2=0) (o:¬(a/2^T%2=0∧b/2^T%2=0)) (r:T<2^59):
  bT zZq G 72 0 (.loop (ah f167 0)) (yS N0 N1 0 ⟨false,a,b⟩) (.exit 0) (yS N0 N1 T ⟨false,a/2^T,b/2^T⟩):=by
 have d:∀i,(words (a/2^i)).length≤N0:=fun i=>alJ (cE (amC _ _)) p
 have n:∀i,(words (b/2^i)).length≤N1:=fun i=>alJ (cE (amC _ _)) q
 have h:=bT.count (P:=zZq) (Good:=G) (gb:=0) (body:=ah f167 0) (e:=.exit 0) (s':=yS N0 N1 T ⟨false,a/2^T,b/2^T⟩) (fun i=>yS N0 N1 i ⟨false,a/2^i,b/2^i⟩) T (fun i=>ar _ _ _) (by simp)
  (fun i g=>by
   have:=RW (G:=G) m (k:=i) (jD l fun k f=>(c k (by omega)).1) (jD j fun k f=>(c k (by omega)).2) (c i g).1 (c i g).2 u s (d i) (n i) (by omega)
   rwa [←oq,←oq]at this)
  (WH m (jD l fun k f=>(c k f).1) (jD j fun k f=>(c k f).2) o (d _) (n _))
 simp only[Nat.pow_zero,Nat.div_one]at h;exact h
theorem DQ(e:aa G){a b:Nat}(d:(words a).length≤2^44)(c:(words b).length≤2^44):Spec zZq G 230 [az (words a),az (words b)] (az (words (a+b))):=by
 have:=Qh (G:=G) e (bb a) (bb b) d c
 rwa [aX,aX]at this
def Og(T g i:Nat):St:=lay 72 [(1,az (words (2^i*g))),(64,nat T),(65,nat i)] []
theorem aec(a:aa G){T g:Nat}(j:T<2^59)(c:(words (2^T*g)).length≤2^44):
  bT zZq G 72 0 (.loop (ah f167 4)) (lay 72 [(1,az (words g)),(64,nat T),(65,nat 0)] []) (.exit 8) (Og T g T):=by
 have d:=apO;have f:=apH;have h:=bT.count (P:=zZq) (Good:=G) (gb:=0) (body:=ah f167 4) (e:=.exit 8) (s':=Og T g T) (Og T g) T (fun i=>ar _ _ _) (by simp)
  (fun i b=>by
   have hle:(words (2^i*g)).length≤2^44:=alJ (cE (alV g (al3 (by omega) (amb b)))) c
   have e:2^(i+1)*g=2^i*g+2^i*g:=by rw[al5];grind
   unfold Og;rw[e];exact ak.r a [.eb 66 (ay b),.call (DQ a hle hle),.eq 70 (bQ (cw (i:=i) (by omega)))])
  (ak.r a [.eb 66 (aH (alE T))])
 unfold Og at h;simp only[Nat.pow_zero,Nat.one_mul]at h;exact h
end Lw
namespace Lw
open Go Go.RowKit Go.Proofs
variable {G:World→Prop}
theorem IG(n:Nat)(b:0<n)(h:n≤2^44)(l:List D)(d:l.length=n):0<n∧([]:List D).length=0*1∧l.length=n*1∧0+n≤2^62∧(0+n)*4≤2^47:=by
 have c:=apJ;have a:=apN;have e:=apM;exact⟨b,rfl,by omega,by omega,by omega⟩
theorem MN(a:aa G){b:Nat}(e:(words b).length≤2^44):Spec zZq G 167 [az (words 0),az (words b)] (az (words b)):=by
 have d:=apJ;have c:=apI;have t1:=iP (G:=G) a (bb 0) (by decide)
 have t2:=iP (G:=G) a (bb b) (by omega)
 rw[aX]at t1 t2;exact Spec.r a func167 [] [.call t1,.call t2,.eb 12 (x:=(zNq (words 0).length==0)) (y:=true) rfl]
theorem MM(b:aa G){a:Nat}(h:0<a)(e:(words a).length≤2^44):Spec zZq G 167 [az (words a),az (words 0)] (az (words a)):=by
 have d:=apJ;have c:=apI;have t1:=iP (G:=G) b (bb a) (by omega)
 have t2:=iP (G:=G) b (bb 0) (by decide)
 rw[aX]at t1 t2;exact Spec.r b func167 [] [.call t1,.call t2,.eb 12 (lL h),.eb 16 (x:=(zNq (words 0).length==0)) (y:=true) rfl]
theorem UC(j:aa G){a b:Nat}(o:0<a)(B:0<b)(O:(words a).length≤2^44)(V:(words b).length≤2^44):
    Spec zZq G 167 [az (words a),az (words b)] (az (words (Nat.gcd a b))):=by
  have yR:=apJ;have Z:=apI;have X:=apO;have vd:=apH;have la:=ef (n:=a) (by omega)
  have K:=ef (n:=b) (by omega)
  obtain⟨T,m,L⟩:=PT (b:=b) o;have W:T≤32*(words a).length:=by
    rcases alT T with e|e
    · omega
    · have U:=jD o (i:=T) fun k p=>(m k p).1
      have h1:2^T≤a:=by
        rcases alU a (2^T)with q|q
        · rw[amn q]at U;omega
        · exact q
      have Y:=(aZ a _).1 (alE _);rw[yr]at Y;rcases alU (32*(words a).length) T with q|q
      · have:=al3 (n:=2) (by omega) (amb q);omega
      · exact q
  have N:=Md T m;have u:=adX L;have s:=jD B (i:=T) fun k p=>(m k p).2
  have f:=WG (G:=G) j (N0:=(words a).length) (N1:=(words b).length) o B (by omega) (by omega) (alE _) (alE _) m L (by omega)
  have t:yS (words a).length (words b).length 0 ⟨false,a,b⟩=lay 72 [(0,.cR 0 (0+(words a).length) 1),(1,.cR 1 (0+(words b).length) 1),(5,nat 0)] [(0,[]++(words a).map u32),(1,[]++(words b).map u32)]:=by
    unfold yS ED jy;simp only[cond,Nat.zero_add,List.nil_append];rw[←qI,←qI]
  rw[t]at f;have S:(GS.mk false (a/2^T) (b/2^T)).fits (words a).length (words b).length:=⟨cE (amC _ _),cE (amC _ _)⟩;obtain⟨R,r,h⟩:=adV (G:=G) j (N0:=(words a).length) (N1:=(words b).length) (tw:=T) (by omega) (by omega) S s u
  simp only at r h;generalize Vs:Nat.gcd (a/2^T) (b/2^T)=g at*;have hle:(words (2^T*g)).length≤2^44:=by rw[N];exact alJ (cE (Nat.gcd_le_left b o)) O
  have c:=aec (G:=G) j (T:=T) (g:=g) (by omega) hle
  have Q:decide (zNq (0+(words a).length)>0)=true:=by simp only[zKq,decide_eq_true_eq];omega
  have P:decide (zNq (0+(words b).length)>0)=true:=by simp only[zKq,decide_eq_true_eq];omega
  have H:IntKind.wrap .i64 (zNq (0+(words a).length)-1)=zNq ((words a).length-1):=by rw[amv];exact kG (by omega) la
  have F:IntKind.wrap .i64 (zNq (0+(words b).length)-1)=zNq ((words b).length-1):=by rw[amv];exact kG (by omega) K
  have M:(0:Int)≤zNq ((words a).length-1)∧zNq ((words a).length-1)<((0+(words a).length:Nat):Int):=by simp only[zKq];omega
  have ib:(0:Int)≤zNq ((words b).length-1)∧zNq ((words b).length-1)<((0+(words b).length:Nat):Int):=by simp only[zKq];omega
  have E:D.ptr 0 ((zNq ((words a).length-1)).toNat*1)=.ptr 0 ((words a).length-1):=by simp
  have C:D.ptr 1 ((zNq ((words b).length-1)).toNat*1)=.ptr 1 ((words b).length-1):=by simp
  have A:0<1∧(words a).length-1+1≤([]++(words a).map u32).length:=by rw[anf,alR];omega
  have z:0<1∧(words b).length-1+1≤([]++(words b).map u32).length:=by rw[anf,alR];omega
  have ca:(([]++(words a).map u32).drop ((words a).length-1)).headD .any=u32 ((words a).getD ((words a).length-1) 0):=by
    have:=C5 (l:=words a) (i:=(words a).length-1) (by omega)
    rw[amH]at this;exact this
  have cb:(([]++(words b).map u32).drop ((words b).length-1)).headD .any=u32 ((words b).getD ((words b).length-1) 0):=by
    have:=C5 (l:=words b) (i:=(words b).length-1) (by omega)
    rw[amH]at this;exact this
  have w:(zNq ((words a).getD ((words a).length-1) 0)==0)=false:=by rw[beq_eq_false_iff_ne];have:=nk (n:=a) (by omega);simp only[zKq];omega
  have v:(zNq ((words b).getD ((words b).length-1) 0)==0)=false:=by rw[beq_eq_false_iff_ne];have:=nk (n:=b) (by omega);simp only[zKq];omega
  have y:(zNq (0+(words a).length)==0)=false:=by rw[beq_eq_false_iff_ne];simp only[zKq];omega
  have x:(zNq (0+(words b).length)==0)=false:=by rw[beq_eq_false_iff_ne];simp only[zKq];omega
  have J:=IG (words a).length la O ((words a).map u32) (by simp)
  have I:=IG (words b).length K V ((words b).map u32) (by simp)
  rw[←N];cases R
  · have d:(words g).length≤(words b).length:=r.2
    rw[←x9 d]at c;exact Spec.r j func167 [] [.inl [] func225,.prop J,.eb 9 Q,.eq 14 (bQ H),.prop M,.eq 15 E,.prop A,.eq 16 ca,.eb 17 w,
       .inl [] func225,.prop I,.eb 9 P,.eq 14 (bQ F),.prop ib,.eq 15 C,.prop z,.eq 16 cb,.eb 17 v,
       .eb 12 y,.eb 16 x,.code f,.code h,.freeze 1,.code c]
  · have d:(words g).length≤(words a).length:=r.1
    rw[←x9 d]at c;exact Spec.r j func167 [] [.inl [] func225,.prop J,.eb 9 Q,.eq 14 (bQ H),.prop M,.eq 15 E,.prop A,.eq 16 ca,.eb 17 w,
       .inl [] func225,.prop I,.eb 9 P,.eq 14 (bQ F),.prop ib,.eq 15 C,.prop z,.eq 16 cb,.eb 17 v,
       .eb 12 y,.eb 16 x,.code f,.code h,.freeze 0,.code c]
theorem UB(c:aa G){a b:Nat}(f:(words a).length≤2^44)(e:(words b).length≤2^44):
  Spec zZq G 167 [az (words a),az (words b)] (az (words (Nat.gcd a b))):=by
 rcases alT a with h|h
 ·subst h;rw[apq];exact MN c e
 ·rcases alT b with d|d
  ·subst d;rw[Nat.gcd_zero_right];exact MM c h f
  ·exact UC c h d f e
theorem Kj(e:aa G){a b:Nat}(d:(words a).length≤2^44)(c:(words b).length≤2^44):Spec zZq G 327 [az (words a),az (words b)] (az (words (a*b))):=by
 have:=MC (G:=G) e (bb a) (bb b) d c
 rwa [aX,aX]at this
theorem Bc(d:aa G){a b:Nat}(c:(words a).length≤2^44)(h:b≤a):Spec zZq G 290 [az (words a),az (words b)] (az (words (a-b))):=by
 have:=MI (G:=G) d (bb a) (bb b) (by rw[aX,aX];exact h) c
 rwa [aX,aX]at this
theorem FX(c:aa G){a b:Nat}(g:(words a).length≤2^44)(f:(words b).length≤2^44):Spec zZq G 227 [az (words a),az (words b)] (int (jK a b)):=by
 have e:=apJ;have d:=apI;have:=uh (G:=G) c (bb a) (bb b) (by omega) (by omega)
 rwa [aX,aX]at this
theorem tv(a:aa G){s:Bool}{n:Nat}(b:s=true→0<n)(c:(words n).length≤2^44):Spec zZq G 106 [wv s n] (int (if n=0 then 0 else if s then -1 else 1)):=by
 rcases alT n with rfl|h
 ·exact Spec.r a func106 [1] [.call (et a b c)]
 ·rw[apA (by omega)]
  cases s<;>exact Spec.r a func106 [1] [.call (et a b c),.eb 6 (lL h),.call (dH a b c)]
theorem LO(a:aa G){s:Bool}{n:Nat}(c:s=true→0<n)(b:(words n).length≤2^44):Spec zZq G 224 [wv s n] (wv (!s&&decide (0<n)) n):=by
 cases s with
 |false=>exact Spec.r a func224 [1] [.call (dH a c b),.call (et a c b),.call (kh a true b)]
 |true=>exact Spec.r a func224 [1] [.call (dH a c b),.call (et a c b),.call (kh a false b)]
theorem aeB(c:aa G){s t:Bool}{m n:Nat}(g:s=true→0<m)(f:t=true→0<n)(e:Sz m)(d:Sz n):
  Spec zZq G 299 [wv s m,wv t n] (wv (Bool.xor s t&&decide (0<m*n)) (m*n)):=by
 have i:=apK;have j:=apJ;have h:(words (m*n)).length≤2^44:=by
  have:=EX (a:=m) (b:=n);unfold Sz at e d;omega
 have hw:=kh (G:=G) c (Bool.xor s t) h;cases s<;>cases t<;>
  exact Spec.r c func299 [2,3] [.call (dH c g e.ba),.call (dH c f d.ba),.call (et c g e.ba),.call (et c f d.ba),.call (Kj c e.ba d.ba),.call hw]
theorem WY(c:aa G)(s:Bool){m n:Nat}(f:s=true→0<m)(g:s=true→0<n)(d:Sz m)(e:Sz n):
  Spec zZq G 223 [wv s m,wv s n] (wv (s&&decide (0<m+n)) (m+n)):=by
 have i:=apK;have j:=apJ;have h:(words (m+n)).length≤2^44:=by
  have:=EY (a:=m) (b:=n);unfold Sz at d e;omega
 have hw:=kh (G:=G) c s h;cases s<;>
  exact Spec.r c func223 [2,3] [.call (et c f d.ba),.call (et c g e.ba),.call (dH c f d.ba),.call (dH c g e.ba),.call (dH c f d.ba),.call (DQ c d.ba e.ba),.call hw]
theorem abW(a:aa G)(s:Bool){m n:Nat}(c:s=true→0<m)(e:(!s)=true→0<n)(b:Sz m)(d:Sz n)(h:n≤m):
    Spec zZq G 223 [wv s m,wv (!s) n] (wv (s&&decide (0<m-n)) (m-n)):=by
  have f:(words (m-n)).length≤2^44:=alJ (cE (anF _ _)) b.ba;have hw:=kh (G:=G) a s f;cases s<;>
    exact Spec.r a func223 [2,3] [.call (et a c b.ba),.call (et a e d.ba),.call (dH a c b.ba),.call (dH a e d.ba),.call (FX a b.ba d.ba),.eb 25 (Lq h),
       .call (dH a c b.ba),.call (Bc a b.ba h),.call hw]
theorem R5(a:aa G)(s:Bool){m n:Nat}(e:s=true→0<m)(c:(!s)=true→0<n)(d:Sz m)(b:Sz n)(h:m<n):
    Spec zZq G 223 [wv s m,wv (!s) n] (wv (!s&&decide (0<n-m)) (n-m)):=by
  have f:(words (n-m)).length≤2^44:=alJ (cE (anF _ _)) b.ba;have hw:=kh (G:=G) a (!s) f;cases s<;>
    exact Spec.r a func223 [2,3] [.call (et a e d.ba),.call (et a c b.ba),.call (dH a e d.ba),.call (dH a c b.ba),.call (FX a d.ba b.ba),.eb 25 (Lo h),
       .call (dH a c b.ba),.call (Bc a b.ba (amb h)),.call hw]
theorem JZ(f:aa G){i j:Int}(b:n8 i)(a:n8 j):Spec zZq G 223 [W i,W j] (W (i+j)):=by
 obtain⟨s,m,rfl,d,l⟩:=mC i;obtain⟨t,n,rfl,c,k⟩:=mC j;unfold n8 at b a;rw[←l]at b;rw[←k]at a;rw[oD d,oD c];by_cases g:t=s
 ·subst g
  have e:g' t m+g' t n=g' t (m+n):=by unfold g';cases t<;>simp;omega
  rw[e,tt];exact WY f t d c b a
 ·have:t= !s:=by cases s<;>cases t<;>first|rfl|exact apC rfl g
  subst this;rcases alU m n with h|h
  ·have e:g' s m+g' (!s) n=g' (!s) (n-m):=by unfold g';cases s<;>simp<;>omega
   rw[e,tt];exact R5 f s d c b a h
  ·have e:g' s m+g' (!s) n=g' s (m-n):=by unfold g';cases s<;>simp<;>omega
   rw[e,tt];exact abW f s d c b a h
theorem Dy(h:aa G){i j:Int}(b:n8 i)(a:n8 j):Spec zZq G 299 [W i,W j] (W (i*j)):=by
 obtain⟨s,m,rfl,d,g⟩:=mC i;obtain⟨t,n,rfl,c,f⟩:=mC j;unfold n8 at b a;rw[←g]at b;rw[←f]at a;rw[oD d,oD c];have e:g' s m*g' t n=g' (Bool.xor s t) (m*n):=by unfold g';cases s<;>cases t<;>simp[Int.mul_neg,Int.neg_mul]
 rw[e,tt];exact aeB h d c b a
theorem JY(d:aa G){i:Int}(a:n8 i):Spec zZq G 224 [W i] (W (-i)):=by
 obtain⟨s,m,rfl,b,c⟩:=mC i;unfold n8 at a;rw[←c]at a;rw[oD b];have e: -g' s m=g' (!s) m:=by unfold g';cases s<;>simp
 rw[e,tt];exact LO d b a.ba
theorem AP(d:aa G){i:Int}(b:n8 i):Spec zZq G 106 [W i] (int i.sign):=by
 obtain⟨s,m,rfl,a,c⟩:=mC i;unfold n8 at b;rw[←c]at b;rw[oD a];have:=tv (G:=G) d a b.ba;have e:(g' s m).sign=if m=0 then 0 else if s then -1 else 1:=by
  cases s with
  |false=>
   show((m:Int)).sign=if m=0 then 0 else if false=true then -1 else 1
   by_cases h:m=0
   ·subst h;rfl
   ·rw[apA h,apA (by simp)];exact an0 (by omega)
  |true=>
   have:=a rfl;show(-(m:Int)).sign=if m=0 then 0 else if true=true then -1 else 1
   rw[apA (show¬m=0 by omega),apB rfl];exact anG (by omega)
 rw[e];exact this
theorem WW(a:aa G){s t:Bool}{m n:Nat}(e:s=true→0<m)(d:t=true→0<n)(g:0<n)(b:Sz m)(c:Sz n)(k:s=false∨m%n=0):
    Spec zZq G 326 [wv s m,wv t n] (.aY [wv (Bool.xor s t&&decide (0<m/n)) (m/n),wv (false&&decide (0<m%n)) (m%n),int 0]):=by
  have l:(words (m/n)).length≤2^44:=alJ (cE (amC _ _)) b.ba;have j:(words (m%n)).length≤2^44:=alJ (cE (Nat.mod_le _ _)) b.ba;have f:((if n=0 then 0 else if t then -1 else 1:Int)==0)=false:=by rw[apA (by omega)];cases t<;>rfl
  have hw:=kh (G:=G) a (Bool.xor s t) l;have i:=kh (G:=G) a false j;cases s with
  |false=>
    cases t<;>
      exact Spec.r a func326 [2,3] [.call (tv a d c.ba),.eb 11 f,.call (et a e b.ba),.call (et a d c.ba),.call (Be a g b.ba c.ba),.call (dH a e b.ba),
         .call (dH a e b.ba),.call (dH a d c.ba),.call hw,.call i]
  |true=>
    have p:m%n=0:=by rcases k with h|h;cases h;exact h
    have o:decide (zNq (words (m%n)).length>0)=false:=by rw[oo,p];rfl
    cases t<;>
      exact Spec.r a func326 [2,3] [.call (tv a d c.ba),.eb 11 f,.call (et a e b.ba),.call (et a d c.ba),.call (Be a g b.ba c.ba),.call (dH a e b.ba),.eb 27 o,
         .call (dH a e b.ba),.call (dH a d c.ba),.call hw,.call i]
theorem WV(c:aa G){i j:Int}(b:n8 i)(a:n8 j):Spec zZq G 103 [W i,W j] (W ((Int.gcd i j:Nat):Int)):=by
 obtain⟨s,m,rfl,f,h⟩:=mC i;obtain⟨t,n,rfl,d,g⟩:=mC j;unfold n8 at b a;rw[←h]at b;rw[←g]at a;rw[oD f,oD d,Ef];have e:Int.gcd (g' s m) (g' t n)=Nat.gcd m n:=by unfold Int.gcd;rw[←h,←g]
 rw[e];exact Spec.r c func103 [2,3] [.call (et c f b.ba),.call (et c d a.ba),.call (UB c b.ba a.ba),.call (kh c false (tU b.ba a.ba))]
theorem WU(b:aa G){i j:Int}(c:n8 i)(a:n8 j):Spec zZq G 165 [W i,W j] (W (i-j)):=by
 have h:=JZ (G:=G) b (i:=i) (j:= -j) c (by unfold n8 at a⊢;rw[anZ];exact a)
 rw[←Int.sub_eq_add_neg]at h;exact Spec.r b func165 [2,3] [.call (JY b a),.call h]
theorem V3(i j:Int):(i-j).sign=zx i j:=by
 unfold zx;rcases lU (i-j)with⟨a,b⟩|⟨a,b⟩|⟨a,b⟩
 ·rw[b,apB (by omega)]
 ·rw[b,apA (by omega),apA (by omega)]
 ·rw[b,apA (by omega),apB (by omega)]
theorem WX(c:aa G){i j:Int}(f:(words i.natAbs).length<2^43)(e:(words j.natAbs).length<2^43):Spec zZq G 102 [W i,W j] (int (zx i j)):=by
 have d:n8 (i-j):=by
  have k:=cE (Int.natAbs_sub_le i j);have g:=EY (a:=i.natAbs) (b:=j.natAbs);unfold n8 Sz;omega
 have h:=AP (G:=G) c d;rw[V3]at h;exact Spec.r c func102 [2,3] [.call (WU c (i:=i) (j:=j) (amb f) (amb e)),.call h]
end Lw
namespace Lw
open Go Go.RowKit Go.Proofs
variable {G:World→Prop}
theorem aeA(a:aa G){x:Nat}(f:0<x)(h:x≤9223372036854775808):Spec zZq G 169 [int (-(x:Int))] (W (-(x:Int))):=by
 have hw:=CD (G:=G) a true (l:=[x%4294967296,x/4294967296]) (EI (by omega)) (by simp)
 rw[yw]at hw;have e:=tt true x;have b:g' true x= -(x:Int):=rfl;rw[b]at e;rw[e];have d:IntKind.wrap .u64 (-(x:Int))=zNq (18446744073709551616-x):=by rw[pU];simp only[zKq];omega
 have c:IntKind.wrap .u64 (0-zNq (18446744073709551616-x))=zNq x:=by rw[pU];simp only[zKq];omega
 have lt:decide (-(x:Int)<0)=true:=by simp;omega
 exact Spec.r a func169 [] [.eq 5 (bO d),.eb 7 lt,.eq 9 (bO c),.eb 11 lt,.eq 13 (gB (il x)),.eq 15 (bO (qY x)),.eq 16 (gB (x:=IntKind.wrap .u32 (zNq (x/4294967296))) (y:=zNq (x/4294967296)) (by rw[il,ame (by omega)])),.call hw]
theorem aez(a:aa G){x:Nat}(h:x<9223372036854775808):Spec zZq G 169 [int (x:Int)] (W (x:Int)):=by
  have hw:=CD (G:=G) a false (l:=[x%4294967296,x/4294967296]) (EI (by omega)) (by simp)
  rw[yw]at hw;have e:=tt false x;have b:g' false x=(x:Int):=rfl;rw[b]at e;rw[e];have lt:decide ((x:Int)<0)=false:=by simp
  exact Spec.r a func169 [] [.eq 5 (bO (x:=IntKind.wrap .u64 (x:Int)) (y:=zNq x) (wrap64 (by omega))),.eb 7 lt,.eb 11 lt,.eq 13 (gB (il x)),.eq 15 (bO (qY x)),
     .eq 16 (gB (x:=IntKind.wrap .u32 (zNq (x/4294967296))) (y:=zNq (x/4294967296)) (by rw[il,ame (by omega)])),.call hw]
theorem abU(a:aa G){i:Int}(h: -9223372036854775808≤i)(c:i<9223372036854775808):Spec zZq G 169 [int i] (W i):=by
 by_cases b:i<0
 ·obtain⟨x,rfl⟩:∃x:Nat,i= -(x:Int):=⟨i.natAbs,by omega⟩
  exact aeA a (by omega) (by omega)
 ·obtain⟨x,rfl⟩:∃x:Nat,i=(x:Int):=⟨i.natAbs,by omega⟩
  exact aez a (by omega)
end Lw
