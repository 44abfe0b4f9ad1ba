/- Part 5. -/
import Derived.Test.YtmcpfihkambgnaaGreatLw04
open Int renaming ofNat→zNq
open Int renaming ofNat_eq_natCast→zKq
open Go.Proofs.Tryz renaming prog→zZq
open Go.Proofs.Tryz
namespace Lw
open Go Go.RowKit Go.Proofs
variable {G:World→Prop}
def Kz:List Oper→Option ByteArray
 |[]=>none
 |o::l=>match o.op with
  |.index _ (.const v) _=>(match v with|.string s=>some s|_=>Kz l)
  |_=>Kz l
def Code.text:Code→Option ByteArray
 |.seq x y=>match Code.text x with|some s=>some s|none=>Code.text y
 |.cond _ x y=>match Code.text x with|some s=>some s|none=>Code.text y
 |.block _ x=>Code.text x
 |.loop x=>Code.text x
 |.region _ ops _=>Kz ops.toList
 |_=>none
noncomputable def xR:ByteArray:=((Tryz.f292.body.map Code.text).getD none).getD ⟨#[]⟩
theorem Ny:xR.size=256:=by kernel_rfl
theorem Q6:(List.range 256).all (fun i=>((xR[i]?).getD 0).toNat==bl i)=true:=by kernel_rfl
theorem yK{x:Nat}(h:x<256):((xR[x]?).getD 0).toNat=bl x:=by
 have:=Q6;rw[al9]at this;simpa using this x (by simpa using h)
theorem A2{x:Nat}(h:x<256):(0:Int)≤zNq x∧(zNq x).toNat<xR.size:=by
 rw[Ny];simp;omega
theorem tL{x:Nat}(k:Nat)(h:k≤32):(zNq x).fdiv (2^min (zNq k).toNat (IntKind.bits .u32))=zNq (x/2^k):=by
 have e:min (zNq k).toNat (IntKind.bits .u32)=k:=by
  show min k 32=k;omega
 rw[e,fdiv_pow]
theorem TH{x:Nat}(h:x<256):IntKind.wrap .u8 (zNq x)=zNq x:=by
 have e:(2^IntKind.bits .u8:Int)=256:=by decide
 simp only[IntKind.wrap,IntKind.signed,e,Bool.false_and,Bool.false_eq_true,if_false];exact Int.emod_eq_of_lt (by simp) (by simp;omega)
theorem TG{x:Nat}(h:x<2^60):IntKind.wrap .i64 (zNq x)=zNq x:=by
 have a:=apH;exact py (by simp only[zKq];omega) (by simp only[zKq];omega)
theorem eq8{x y:Int}(h:x=y):D.lit (.int .u8 x)=D.lit (.int .u8 y):=by rw[h]
theorem qx{x c:Nat}(h:c≤x):decide (zNq x≥zNq c)=true:=by simpa using h
theorem mv{x c:Nat}(h:x<c):decide (zNq x≥zNq c)=false:=by simpa using h
theorem yg{x:Nat}(h:x<256):bl x≤8:=by
 by_cases b:x=0
 ·subst b;decide
 ·have c:=Hm b
  rcases alU 8 (bl x)with a|a
  ·have:2^8≤2^(bl x-1):=al3 (by omega) (by omega)
   omega
  ·exact a
theorem Q7(e:aa G){x:Nat}(h:x<4294967296):Spec zZq G 292 [u32 x] (nat (bl x)):=by
  have tail:∀y n,y<256→n≤24→IntKind.wrap .i64 (zNq n+zNq (bl y))=zNq (n+bl y):=fun y n b d=>oR (by have:=yg b;omega)
  by_cases b:65536≤x
  · have g:=yh (x:=x) (k:=16) (by simpa using b)
    by_cases d:256≤x/2^16
    · have f:=yh (x:=x/2^16) (k:=8) (by simpa using d)
      have a:x/2^16/2^8<256:=by omega
      have c:bl x=24+bl (x/2^16/2^8):=by omega
      rw[c];exact Spec.r e func292 [] [.eb 4 (qx b),.eq 6 (gB (tL (x:=x) 16 (by omega))),.eb 8 (qx d),.eq 10 (gB (tL (x:=x/2^16) 8 (by omega))),
         .eq 15 (eq8 (TH a)),.prop (A2 a),.eq 16 (eq8 (x:=zNq ((xR[(zNq (x/2^16/2^8)).toNat]?).getD 0).toNat) (y:=zNq (bl (x/2^16/2^8))) (apF zNq (yK a))),
         .eq 17 (bQ (TG (x:=bl (x/2^16/2^8)) (by have:=yg a;omega))),.eq 18 (bQ (tail _ 24 a (by omega)))]
    · have a:x/2^16<256:=by omega
      have c:bl x=16+bl (x/2^16):=by omega
      rw[c];exact Spec.r e func292 [] [.eb 4 (qx b),.eq 6 (gB (tL (x:=x) 16 (by omega))),.eb 8 (mv a),
         .eq 15 (eq8 (TH a)),.prop (A2 a),.eq 16 (eq8 (x:=zNq ((xR[(zNq (x/2^16)).toNat]?).getD 0).toNat) (y:=zNq (bl (x/2^16))) (apF zNq (yK a))),
         .eq 17 (bQ (TG (x:=bl (x/2^16)) (by have:=yg a;omega))),.eq 18 (bQ (tail _ 16 a (by omega)))]
  · by_cases d:256≤x
    · have f:=yh (x:=x) (k:=8) (by simpa using d)
      have a:x/2^8<256:=by omega
      have c:bl x=8+bl (x/2^8):=by omega
      rw[c];exact Spec.r e func292 [] [.eb 4 (mv (Nat.lt_of_not_le b)),.eb 8 (qx d),.eq 10 (gB (tL (x:=x) 8 (by omega))),
         .eq 15 (eq8 (TH a)),.prop (A2 a),.eq 16 (eq8 (x:=zNq ((xR[(zNq (x/2^8)).toNat]?).getD 0).toNat) (y:=zNq (bl (x/2^8))) (apF zNq (yK a))),
         .eq 17 (bQ (TG (x:=bl (x/2^8)) (by have:=yg a;omega))),.eq 18 (bQ (tail _ 8 a (by omega)))]
    · have a:x<256:=by omega
      have c:bl x=0+bl x:=by omega
      rw[c];exact Spec.r e func292 [] [.eb 4 (mv (Nat.lt_of_not_le b)),.eb 8 (mv a),
         .eq 15 (eq8 (TH a)),.prop (A2 a),.eq 16 (eq8 (x:=zNq ((xR[(zNq x).toNat]?).getD 0).toNat) (y:=zNq (bl x)) (apF zNq (yK a))),
         .eq 17 (bQ (TG (x:=bl x) (by have:=yg a;omega))),.eq 18 (bQ (tail _ 0 a (by omega)))]
theorem abD{x:Nat}(h:x<4294967296):bl x≤32:=by
 by_cases b:x=0
 ·subst b;decide
 ·have c:=Hm b
  rcases alU 32 (bl x)with a|a
  ·have:2^32≤2^(bl x-1):=al3 (by omega) (by omega)
   omega
  ·exact a
theorem Ve(a:aa G){x:Nat}(h:x<4294967296):Spec zZq G 233 [u32 x] (nat (32-bl x)):=by
 have:=abD h;exact Spec.r a func233 [] [.call (Q7 a h),.eq 5 (bQ (x:=IntKind.wrap .i64 (32-zNq (bl x))) (y:=zNq (32-bl x)) (by rw[py (by simp;omega) (by simp;omega)];simp;omega))]
end Lw
namespace Lw
open Go Go.RowKit Go.Proofs
variable {G:World→Prop}
structure Eh where
 p:dn
 N:Nat
 Nq:Nat
 n:Nat
 j:Nat
 cap:Nat
 v:List Nat
 F:Nat→Nat
 qs:List D
structure Eh.ok(d:Eh):Prop where
 hp:d.p.ok
 hv:2≤d.v.length
 hj:d.j+(d.v.length+1)≤d.N
 hN:d.N<2^60
 BN:d.F (d.j+(d.v.length-2))=d.p.w2
 hh:d.p.head<18446744073709551616
def uC(d:Eh)(t:Nat):St:=
 lay 158 [(8,nat d.n),(9,az d.v),(10,.bz 0 0 d.N d.N),(11,.bz 1 0 d.Nq d.Nq),(12,u64 d.p.top),(13,u64 d.p.next),(14,nat d.j),(15,.bz 0 d.j (d.v.length+1) d.cap),(17,u64 (d.p.g t)),(18,u64 (d.p.r t))]
  [(0,cK d.N d.F),(1,d.qs)]
theorem xP{x c:Nat}(h:x<c):decide (zNq x<zNq c)=true:=ay h
theorem adU{x y:Nat}(h:y<x):decide (zNq x>zNq y)=true:=by simpa using h
theorem aaq{x y:Nat}(h:x≤y):decide (zNq x>zNq y)=false:=by simpa using h
theorem rG{i k:Nat}(h:i<2^60)(b:k≤i):IntKind.wrap .i64 (zNq i-zNq k)=zNq (i-k):=by
 have a:=apH;rw[py (by simp only[zKq];omega) (by simp only[zKq];omega)];simp only[zKq];omega
theorem Cs{x:Nat}(h:0<x)(a:x≤18446744073709551616):IntKind.wrap .u64 (zNq x-1)=zNq (x-1):=by
 rw[pU];simp only[zKq];omega
theorem dn.ak3(p:dn)(t:Nat):p.g t≤p.head:=by
 unfold dn.g;exact alJ (anF _ _) (amC _ _)
theorem dn.ajK{p:dn}{t:Nat}(h:p.more t):0<p.g t:=by
 rcases h.2 with h|h
 ·omega
 ·rcases alT (p.g t)with a|a
  ·rw[a,am6]at h;omega
  ·exact a
theorem dn.agC{p:dn}{t:Nat}:p.g (t+1)=p.g t-1:=by unfold dn.g;omega
theorem dn.agB{p:dn}{t:Nat}:p.r (t+1)=p.r t+p.top:=by unfold dn.r;rw[amT,amU];omega
theorem Sk{d:Eh}(a:d.ok):(0<1∧d.j+(d.v.length-2)+1≤(cK d.N d.F).length):=by
 have:=a.hj;have:=a.hv;rw[du];omega
theorem VB(l:aa G){d:Eh}(a:d.ok){t:Nat}(b:d.p.more t):
    ak zZq G 0 (ah f171 1) (uC d t) .normal (uC d (t+1)):=by
  have s:=apH;have z:=dn.ak3 d.p t;have c:=dn.ajK b;have w:=a.hh;have u:=a.hp.Z9;have g:d.p.r t<4294967296:=b.1;have m:=a.hp.BN;have r:d.p.r t*4294967296<18446744073709551616:=by clear b c;omega
  have f:d.p.w2<18446744073709551616:=by clear b c;omega
  have v:=a.hj;have o:=a.hv;have A:=a.hN;have n:d.v.length-2<d.v.length+1:=by omega
  have e:uC d (t+1)=lay 158 [(8,nat d.n),(9,az d.v),(10,.bz 0 0 d.N d.N),(11,.bz 1 0 d.Nq d.Nq),(12,u64 d.p.top),(13,u64 d.p.next),(14,nat d.j),(15,.bz 0 d.j (d.v.length+1) d.cap),(17,u64 (d.p.g t-1)),(18,u64 (d.p.r t+d.p.top))]
    [(0,cK d.N d.F),(1,d.qs)]:=by unfold uC;rw[dn.agC,dn.agB]
  rw[e];clear e;rcases alU (d.p.g t) 4294967296 with j|q
  · have hmul:d.p.r t*4294967296+d.p.w2<d.p.g t*d.p.next:=by
      rcases b.2 with h|h
      · exact apC j (Nat.not_lt.2 h)
      · exact h
    have p:=xK j a.hp.NO;exact ak.r l [.eb 113 (xP g),.eb 116 (mv j),.eq 120 (bO (wrap_mul (x:=d.p.g t) (y:=d.p.next) (by omega))),.eq 122 (bO (IU (x:=d.p.r t) g)),
       .eq 126 (bQ (rG (i:=d.v.length) (k:=2) (by omega) o)),.prop (dp n),.eq 127 (pX 0 d.j (d.v.length-2)),.prop (Sk a),
       .eq 128 (d:=((cK d.N d.F).drop (d.j+(d.v.length-2))).headD .any) (d':=u32 d.p.w2) (by rw[kM (by omega),a.BN]),.eq 129 (bO (iZ m)),
       .eq 130 (bO (x:=IntKind.wrap .u64 (((BitVec.ofInt (IntKind.bits .u64) (zNq (d.p.r t*4294967296))|||BitVec.ofInt (IntKind.bits .u64) (zNq d.p.w2)).toNat:Nat):Int)) (y:=zNq (d.p.r t*4294967296+d.p.w2))
          (by rw[yG r f,F_ m])),
       .eb 131 (adU hmul),.eq 135 (bO (Cs c (by omega))),.eq 138 (bO (wrap_add (x:=d.p.r t) (y:=d.p.top) (by omega)))]
  · exact ak.r l [.eb 113 (xP g),.eb 116 (qx q),.eq 135 (bO (Cs c (by omega))),.eq 138 (bO (wrap_add (x:=d.p.r t) (y:=d.p.top) (by omega)))]
theorem aap(f:aa G){d:Eh}(a:d.ok){t:Nat}(e:¬d.p.more t):
    ak zZq G 0 (ah f171 1) (uC d t) (.exit 2) (uC d t):=by
  have p:=apH;have q:=a.hj;have m:=a.hv;have r:=a.hN;have l:d.v.length-2<d.v.length+1:=by omega
  rcases alU (d.p.r t) 4294967296 with b|b
  · have g:d.p.g t<4294967296:=by
      rcases alU (d.p.g t) 4294967296 with h|h
      · exact h
      · exact(e ⟨b,.inl h⟩).elim
    have hmul:d.p.g t*d.p.next≤d.p.r t*4294967296+d.p.w2:=by
      rcases alU (d.p.r t*4294967296+d.p.w2) (d.p.g t*d.p.next)with h|h
      · exact(e ⟨b,.inr h⟩).elim
      · exact h
    have j:=a.hp.BN;have n:=xK g a.hp.NO;have o:d.p.r t*4294967296<18446744073709551616:=by omega
    have c:d.p.w2<18446744073709551616:=by omega
    exact ak.r f [.eb 113 (xP b),.eb 116 (mv g),.eq 120 (bO (wrap_mul (x:=d.p.g t) (y:=d.p.next) (by omega))),.eq 122 (bO (IU (x:=d.p.r t) b)),
       .eq 126 (bQ (rG (i:=d.v.length) (k:=2) (by omega) m)),.prop (dp l),.eq 127 (pX 0 d.j (d.v.length-2)),.prop (Sk a),
       .eq 128 (d:=((cK d.N d.F).drop (d.j+(d.v.length-2))).headD .any) (d':=u32 d.p.w2) (by rw[kM (by omega),a.BN]),.eq 129 (bO (iZ j)),
       .eq 130 (bO (x:=IntKind.wrap .u64 (((BitVec.ofInt (IntKind.bits .u64) (zNq (d.p.r t*4294967296))|||BitVec.ofInt (IntKind.bits .u64) (zNq d.p.w2)).toNat:Nat):Int)) (y:=zNq (d.p.r t*4294967296+d.p.w2))
          (by rw[yG o c,F_ j])),
       .eb 131 (aaq hmul)]
  · exact ak.r f [.eb 113 (aH b)]
theorem aao(b:aa G){d:Eh}(a:d.ok){T:Nat}(g:∀t,t<T→d.p.more t)(f:¬d.p.more T):
  bT zZq G 158 0 (.loop (ah f171 1))
   (lay 158 [(8,nat d.n),(9,az d.v),(10,.bz 0 0 d.N d.N),(11,.bz 1 0 d.Nq d.Nq),(12,u64 d.p.top),(13,u64 d.p.next),(14,nat d.j),(15,.bz 0 d.j (d.v.length+1) d.cap),(17,u64 (d.p.head/d.p.top)),(18,u64 (d.p.head%d.p.top))]
    [(0,cK d.N d.F),(1,d.qs)]) (.exit 2) (uC d T):=by
 have h:=bT.count (uC d) T (fun k=>ar _ _ _) (by simp) (fun t c=>VB b a (g t c)) (aap b a f)
 have e:uC d 0=lay 158 [(8,nat d.n),(9,az d.v),(10,.bz 0 0 d.N d.N),(11,.bz 1 0 d.Nq d.Nq),(12,u64 d.p.top),(13,u64 d.p.next),(14,nat d.j),(15,.bz 0 d.j (d.v.length+1) d.cap),(17,u64 (d.p.head/d.p.top)),(18,u64 (d.p.head%d.p.top))]
    [(0,cK d.N d.F),(1,d.qs)]:=by
  have j:d.p.g 0=d.p.head/d.p.top:=by unfold dn.g;exact Nat.sub_zero _
  have i:d.p.r 0=d.p.head%d.p.top:=by unfold dn.r;rw[am6,ans]
  unfold uC;rw[j,i]
 rw[e]at h;exact h
def aE.N(d:aE):Nat:=d.la+1
def aE.Nq(d:aE):Nat:=d.la+1-d.lb
def aE.v(d:aE):List Nat:=fc d.lb d.V
def aE.uF(d:aE)(c j:Nat):Nat:=d.R c/BP j%4294967296
def aE.qF(d:aE)(c j:Nat):Nat:=if c≤j then d.U/d.V/BP j%4294967296 else 0
def p6(d:aE)(c:Nat):St:=
 lay 158 [(8,nat d.n),(9,az d.v),(10,.bz 0 0 d.N d.N),(11,.bz 1 0 d.Nq d.Nq),(12,u64 (d.V/BP (d.lb-1))),(13,u64 (d.V/BP (d.lb-2)%4294967296)),(14,int (JO c))]
  [(0,cK d.N (d.uF c)),(1,cK d.Nq (d.qF c))]
theorem aE.zD(d:aE):d.v.length=d.lb:=dz _ _
theorem aE.IB{d:aE}(a:d.ok):val d.v=d.V:=AX a.hV
theorem aE.Sl(d:aE):fS d.v:=jx _ _
def aE.gue(d:aE)(i:Nat):Eh:=⟨d.ju i,d.N,d.Nq,d.n,i,d.N-i,d.v,d.uF (i+1),cK d.Nq (d.qF (i+1))⟩
theorem aE.ahm{d:aE}(a:d.ok){i:Nat}(b:i<d.Nq)(c:d.N<2^60):(d.gue i).ok where
 hp:=aE.ve a i
 hv:=by show 2≤d.v.length;rw[aE.zD];exact a.L3
 hj:=by
  show i+(d.v.length+1)≤d.la+1;have e:i<d.la+1-d.lb:=b;rw[aE.zD];omega
 hN:=c
 BN:=by
  show d.R (i+1)/BP (i+(d.v.length-2))%4294967296=d.W i/BP (d.lb-2)%4294967296;rw[aE.LN,aE.zD]
 hh:=by
  show d.W i/BP (d.lb-1)<18446744073709551616;have e:d.W i/BP d.lb%4294967296<4294967296:=al8 _ (by omega)
  have f:d.W i/BP (d.lb-1)%4294967296<4294967296:=al8 _ (by omega)
  rw[aE.head_eq a];omega
def aE.rem(d:aE)(i g:Nat):zZ:=⟨d.N,d.uF (i+1),i,d.v.length+1,d.N-i,cK d.Nq (d.qF (i+1)),d.v,g,d.W i⟩
theorem aE.aax{d:aE}(a:d.ok){g:Nat}(b:g<4294967296):g*d.V<BP (d.lb+1):=by
 have e:g*d.V≤4294967295*d.V:=alV _ (by omega)
 have c:=a.hV;rw[df];omega
theorem aE.Yl{d:aE}(a:d.ok){i g:Nat}(c:i<d.Nq)(e:d.N<2^60)(b:g<4294967296):(d.rem i g).ok:=by
 refine⟨aE.Sl d,b,?_,e,fun r f=>?_,?_,?_⟩
 ·show i+(d.v.length+1)≤d.la+1
  have h:i<d.la+1-d.lb:=c;rw[aE.zD];omega
 ·show d.R (i+1)/BP (i+r)%4294967296=d.W i/BP r%4294967296
  rw[aE.LN]
 ·show g*val d.v≤BP (d.v.length+1)
  rw[aE.IB a,aE.zD];exact amb (aE.aax a b)
 ·show d.W i<BP (d.v.length+1)
  rw[aE.zD];exact aE.abN a i
theorem aE.FV{d:aE}(a:d.ok){i g:Nat}(c:i<d.Nq)(e:d.N<2^60)(b:g<4294967296):
  (zNq (fB (d.W i) (g*val d.v) (d.v.length+1))==1)=decide (d.W i<g*d.V):=by
 have:=Lw.FV (aE.Yl a c e b) (by show g*val d.v<BP (d.v.length+1);rw[aE.IB a,aE.zD];exact aE.aax a b)
 have f:(zNq (fB (d.W i) (g*val d.v) (d.v.length+1))==1)=decide (d.W i<g*val d.v):=this;rw[f,aE.IB a]
theorem aE.cells{d:aE}(c:d.ok)(i Z:Nat)(F:Nat→Nat)(f:∀j,F j=d.uF (i+1) j∨(i≤j∧j<i+(d.lb+1)))(e:∀r,r<d.lb+1→Z/BP r%4294967296=d.W i%d.V/BP r%4294967296):
  cK d.N (pf F i Z (d.lb+1))=cK d.N (d.uF i):=by
 refine a_ fun j _=>?_
 unfold pf;by_cases a:i≤j∧j<i+(d.lb+1)
 ·rw[apB a,e _ (by omega)]
  show _=d.R i/BP j%4294967296
  conv=>rhs;rw[show j=i+(j-i) by omega,aE.aj4]
 ·rw[apA a]
  rcases f j with h|h
  ·rw[h]
   show d.R (i+1)/BP j%4294967296=d.R i/BP j%4294967296;rcases alU j i with b|b
   ·exact(aE.aj5 d b).symm
   ·obtain⟨l,g⟩:=aE.ah5 c (i:=i) (k:=j) (by omega)
    rw[l,g]
  ·exact apC h a
theorem aE.Yy{d:aE}{i:Nat}(b:i<d.Nq){q:Nat}(a:q%4294967296=d.W i/d.V%4294967296):aF (cK d.Nq (d.qF (i+1))) i [u32 (q%4294967296)]=cK d.Nq (d.qF i):=by
 rw[a,←aE.digit];exact afn b (fun j=>d.U/d.V/BP j%4294967296)
theorem SS(b i k N:Nat):D.bz b (0+(zNq i).toNat*1) ((zNq (i+k+1)).toNat-(zNq i).toNat) (N-(zNq i).toNat)=.bz b i (k+1) (N-i):=by
 simp only[zKq,Int.toNat_natCast,Nat.mul_one,Nat.zero_add];rw[show i+k+1-i=k+1 by omega]
theorem aE.round(v:aa G){d:aE}(a:d.ok){i:Nat}(f:i<d.Nq)(D:d.N<2^60):
    ak zZq G 0 (ah f171 0) (p6 d (i+1)) .normal (p6 d i):=by
  have U:=apH;have Q:i+d.v.length+1≤d.N:=by
    have W:i<d.la+1-d.lb:=f;show i+d.v.length+1≤d.la+1;rw[aE.zD];omega
  have X:=a.L3;have g:=aE.zD d;obtain⟨T,F,l⟩:=dn.stops (aE.ve a i);obtain⟨m,-,-⟩:=dn.end (aE.ve a i) F l;obtain⟨H,I⟩:=dn.digit (aE.ve a i) F l;have A:=aao (G:=G) v (aE.ahm a f D) F l;have w:=Ym (G:=G) v (aE.Yl a f D m);have z:=aE.FV a f D m;have b:d.W i/BP d.lb%4294967296<4294967296:=al8 _ (by omega)
  have L:d.W i/BP (d.lb-1)%4294967296<4294967296:=al8 _ (by omega)
  have u:IntKind.wrap .u64 (((BitVec.ofInt (IntKind.bits .u64) (zNq (d.W i/BP d.lb%4294967296*4294967296))|||BitVec.ofInt (IntKind.bits .u64) (zNq (d.W i/BP (d.lb-1)%4294967296))).toNat:Nat):Int)=zNq (d.W i/BP (d.lb-1)):=by
    rw[yG (by omega) (by omega),F_ L,←aE.head_eq a]
  have B:d.W i/BP (d.lb-1)<18446744073709551616:=by rw[aE.head_eq a];omega
  have C:0<d.V/BP (d.lb-1):=by
    have:=(aE.ve a i).ph;have:2147483648≤d.V/BP (d.lb-1):=this;omega
  have O:((cK d.N (d.uF (i+1))).drop (i+d.v.length)).headD .any=u32 (d.W i/BP d.lb%4294967296):=by
    rw[kM (by omega)]
    show u32 (d.R (i+1)/BP (i+d.v.length)%4294967296)=_;rw[aE.LN,g]
  have M:((cK d.N (d.uF (i+1))).drop (i+(d.v.length-1))).headD .any=u32 (d.W i/BP (d.lb-1)%4294967296):=by
    rw[kM (by omega)]
    show u32 (d.R (i+1)/BP (i+(d.v.length-1))%4294967296)=_;rw[aE.LN,g]
  have R:∀r,r<d.lb+1→(d.W i+BP (d.v.length+1)-(d.ju i).g T*val d.v)=(d.W i+BP (d.lb+1)-(d.ju i).g T*d.V):=fun r _=>by rw[aE.IB a,g]
  by_cases E:d.W i<(d.ju i).g T*d.V
  · obtain⟨c,K⟩:=H E
    have q:d.W i/d.V=(d.ju i).g T-1:=c;have P:=WK (G:=G) v (p:=⟨d.N,pf (d.uF (i+1)) i (d.rem i ((d.ju i).g T)).Z (d.v.length+1),i,d.v.length+1,d.N-i,cK d.Nq (d.qF (i+1)),d.v,(d.rem i ((d.ju i).g T)).Z⟩)
      ⟨aE.Sl d,by show i+(d.v.length+1)≤d.N;omega,D,fun r t=>by
        show pf _ i _ (d.v.length+1) (i+r)=_;have V:r<d.v.length+1:=t;unfold pf;rw[apB (by omega),show i+r-i=r by omega]⟩
    have e:p6 d i=lay 158 [(8,nat d.n),(9,az d.v),(10,.bz 0 0 d.N d.N),(11,.bz 1 0 d.Nq d.Nq),(12,u64 (d.V/BP (d.lb-1))),(13,u64 (d.V/BP (d.lb-2)%4294967296)),(14,int (JO i))]
        [(0,cK d.N (pf (pf (d.uF (i+1)) i (d.rem i ((d.ju i).g T)).Z (d.v.length+1)) i ((d.rem i ((d.ju i).g T)).Z+val d.v) (d.v.length+1))),
         (1,aF (cK d.Nq (d.qF (i+1))) i [u32 (((d.ju i).g T-1)%4294967296)])]:=by
      rw[aE.Yy f (by rw[q]),g,aE.cells a i _ _ (fun j=>?_) (fun r t=>?_)]
      · rfl
      · by_cases h:i≤j∧j<i+(d.lb+1)
        · exact .inr h
        · left;unfold pf;rw[apA h]
      · show(d.W i+BP (d.v.length+1)-(d.ju i).g T*val d.v+val d.v)/BP r%4294967296=_
        rw[aE.IB a,g];have hle:=aE.aax a m;have J:d.W i%d.V=d.W i-((d.ju i).g T-1)*d.V:=by
          have:=am4 (d.W i) d.V;rw[q,alS]at this;omega
        have Y:((d.ju i).g T-1)*d.V≤d.W i:=by rw[←q];exact Nat.div_mul_le_self _ _
        have S:(d.ju i).g T*d.V=((d.ju i).g T-1)*d.V+d.V:=by
          conv=>lhs;rw[show(d.ju i).g T=((d.ju i).g T-1)+1 by omega]
          rw[amT,amU]
        have o:d.W i+BP (d.lb+1)-(d.ju i).g T*d.V+d.V=(d.W i%d.V)+BP (d.lb+1):=by omega
        rw[o,Lm t]
    rw[e];clear e;exact ak.r v [.eb 80 (x:=decide (zNq i≥0)) (y:=true) (by simp),.eq 88 (bQ (oR (i:=i) (k:=d.v.length) (by omega))),.eq 89 (bQ (cw (i:=i+d.v.length) (by omega))),
       .prop (p:=0≤zNq i∧zNq i≤zNq (i+d.v.length+1)∧zNq (i+d.v.length+1)≤(d.N:Int)∧zNq i<(d.N:Int)) (by simp only[zKq];omega),.eq 90 (SS 0 i d.v.length d.N),
       .prop (dp (i:=d.v.length) (N:=d.v.length+1) (by omega)),.eq 94 (pX 0 i d.v.length),.prop (p:=0<1∧i+d.v.length+1≤(cK d.N (d.uF (i+1))).length) (by rw[du];omega),.eq 95 O,.eq 96 (bO (iZ b)),.eq 97 (bO (IU b)),
       .eq 101 (bQ (rG (i:=d.v.length) (k:=1) (by omega) (by omega))),.prop (dp (i:=d.v.length-1) (N:=d.v.length+1) (by omega)),.eq 102 (pX 0 i (d.v.length-1)),.prop (p:=0<1∧i+(d.v.length-1)+1≤(cK d.N (d.uF (i+1))).length) (by rw[du];omega),
       .eq 103 M,.eq 104 (bO (iZ L)),.eq 105 (bO u),.prop (uT C),.eq 108 (bO (Yx (s:=d.W i/BP (d.lb-1)) (d:=d.V/BP (d.lb-1)) B)),.prop (uT C),.eq 111 (bO (Yo (d.W i/BP (d.lb-1)) (d.V/BP (d.lb-1)))),
       .code A,.inl [] func235,.code w,.eb 45 (x:=zNq (fB (d.W i) ((d.ju i).g T*val d.v) (d.v.length+1))==1) (y:=true) (by rw[z];simpa using E),
       .eq 144 (bO (Cs K (by omega))),.inl [] func236,.code P,
       .eq 151 (gB (il ((d.ju i).g T-1))),.prop (dp f),.eq 152 (jC 1 i),.prop (p:=i+1≤(cK d.Nq (d.qF (i+1))).length) (by rw[du];omega),.eq 82 (bQ (lh (n:=i) (by omega)))]
  · have c:d.W i/d.V=(d.ju i).g T:=I E
    have e:p6 d i=lay 158 [(8,nat d.n),(9,az d.v),(10,.bz 0 0 d.N d.N),(11,.bz 1 0 d.Nq d.Nq),(12,u64 (d.V/BP (d.lb-1))),(13,u64 (d.V/BP (d.lb-2)%4294967296)),(14,int (JO i))]
        [(0,cK d.N (pf (d.uF (i+1)) i (d.rem i ((d.ju i).g T)).Z (d.v.length+1))),(1,aF (cK d.Nq (d.qF (i+1))) i [u32 ((d.ju i).g T%4294967296)])]:=by
      rw[aE.Yy f (by rw[c]),g,aE.cells a i _ _ (fun j=>.inl rfl) (fun r t=>?_)]
      · rfl
      · show(d.W i+BP (d.v.length+1)-(d.ju i).g T*val d.v)/BP r%4294967296=_
        rw[aE.IB a,g];have J:d.W i%d.V=d.W i-(d.ju i).g T*d.V:=by
          have:=am4 (d.W i) d.V;rw[c,alS]at this;omega
        have o:d.W i+BP (d.lb+1)-(d.ju i).g T*d.V=(d.W i%d.V)+BP (d.lb+1):=by omega
        rw[o,Lm t]
    rw[e];clear e;exact ak.r v [.eb 80 (x:=decide (zNq i≥0)) (y:=true) (by simp),.eq 88 (bQ (oR (i:=i) (k:=d.v.length) (by omega))),.eq 89 (bQ (cw (i:=i+d.v.length) (by omega))),
       .prop (p:=0≤zNq i∧zNq i≤zNq (i+d.v.length+1)∧zNq (i+d.v.length+1)≤(d.N:Int)∧zNq i<(d.N:Int)) (by simp only[zKq];omega),.eq 90 (SS 0 i d.v.length d.N),
       .prop (dp (i:=d.v.length) (N:=d.v.length+1) (by omega)),.eq 94 (pX 0 i d.v.length),.prop (p:=0<1∧i+d.v.length+1≤(cK d.N (d.uF (i+1))).length) (by rw[du];omega),.eq 95 O,.eq 96 (bO (iZ b)),.eq 97 (bO (IU b)),
       .eq 101 (bQ (rG (i:=d.v.length) (k:=1) (by omega) (by omega))),.prop (dp (i:=d.v.length-1) (N:=d.v.length+1) (by omega)),.eq 102 (pX 0 i (d.v.length-1)),.prop (p:=0<1∧i+(d.v.length-1)+1≤(cK d.N (d.uF (i+1))).length) (by rw[du];omega),
       .eq 103 M,.eq 104 (bO (iZ L)),.eq 105 (bO u),.prop (uT C),.eq 108 (bO (Yx (s:=d.W i/BP (d.lb-1)) (d:=d.V/BP (d.lb-1)) B)),.prop (uT C),.eq 111 (bO (Yo (d.W i/BP (d.lb-1)) (d.V/BP (d.lb-1)))),
       .code A,.inl [] func235,.code w,.eb 45 (x:=zNq (fB (d.W i) ((d.ju i).g T*val d.v) (d.v.length+1))==1) (y:=false) (by rw[z];simpa using E),
       .eq 151 (gB (il ((d.ju i).g T))),.prop (dp f),.eq 152 (jC 1 i),.prop (p:=i+1≤(cK d.Nq (d.qF (i+1))).length) (by rw[du];omega),.eq 82 (bQ (lh (n:=i) (by omega)))]
end Lw
namespace Lw
open Go Go.RowKit Go.Proofs
variable {G:World→Prop}
theorem zX.row{P:Program}{f:FuncId}{args:List D}{n:Nat}{cs:List D}(h:zX P G f args n cs):Spec P G f args (.row n false cs):=by
 intro w F b v t g;refine(h w F b v t g).mono fun e w' x=>?_
 obtain⟨k,j,ty,rfl,q,z,p,y,o,m,l⟩:=x;refine⟨_,rfl,?_,m,l⟩;have d:=o.mono (w':=w') (X':=F) (fun a u hu r=>⟨hu,fun c=>r (.inl c)⟩)
 refine .row _ _ _ _ _ _ d.1 (alE _) q (fun h=>by cases h) (fun i s=>⟨_,rfl,fun c=>?_,?_⟩) d.2
 ·have:=g k c;omega
 ·rw[Addr.jr,amv,cell_of_row w' _ _ j ty (0,0) p]
  simp at s⊢
theorem afN(c:aa G){l:List Nat}(b:fS l){n:Nat}(a:n≤31)(d:l.length≤2^44):
  Spec zZq G 234 [az l,nat n] (az (fc (l.length+1) (val l*2^n))):=by
 have:=zX.row (Sm (G:=G) c b a d);unfold az;rw[dz];exact this
theorem z8(b:aa G)(a:Nat)(h:(words a).length≤2^44):Spec zZq G 182 [az (words a)] (az (words a)):=by
 have d:=apJ;have c:=apI;have:=mf (G:=G) b (bb a) (by omega)
 rwa [aX]at this
theorem XF(b:aa G){x:Nat}(h:x<4294967296):Spec zZq G 182 [az [x]] (az (words x)):=by
 have:=mf (G:=G) b (l:=[x]) (fun y a=>by simp at a;omega) (by simp)
 have e:val [x]=x:=by simp[val]
 rwa [e]at this
theorem JI{N M x:Nat}(h:N≤M):(fc M x).take N=fc N x:=by
 unfold fc;rw[←aoi,List.take_range,an9 h]
theorem U6(b:aa G){d:aE}(a:d.ok)(g:d.N<2^60):
  bT zZq G 158 0 (.loop (ah f171 0))
   (lay 158 [(8,nat d.n),(9,az d.v),(10,.bz 0 0 d.N d.N),(11,.bz 1 0 d.Nq d.Nq),(12,u64 (d.V/BP (d.lb-1))),(13,u64 (d.V/BP (d.lb-2)%4294967296)),(14,int (JO d.Nq))]
    [(0,(fc d.N d.U).map u32),(1,List.replicate d.Nq (u32 0))]) (.exit 0) (p6 d 0):=by
 have l:ak zZq G 0 (ah f171 0) (p6 d 0) (.exit 0) (p6 d 0):=ak.r b [];have h:=bT.down (p6 d) d.Nq (fun k=>ar _ _ _) (by simp) (fun i f=>aE.round b a f g) l
 have e:p6 d d.Nq=lay 158 [(8,nat d.n),(9,az d.v),(10,.bz 0 0 d.N d.N),(11,.bz 1 0 d.Nq d.Nq),(12,u64 (d.V/BP (d.lb-1))),(13,u64 (d.V/BP (d.lb-2)%4294967296)),(14,int (JO d.Nq))]
    [(0,(fc d.N d.U).map u32),(1,List.replicate d.Nq (u32 0))]:=by
  have c:d.U<BP d.Nq*d.V:=(aE.start a).1;have f1:cK d.N (d.uF d.Nq)=cK d.N (fun j=>d.U/BP j%4294967296):=a_ fun j _=>by
   unfold aE.uF aE.R;rw[ame c]
  have f2:cK d.Nq (d.qF d.Nq)=cK d.Nq (fun _=>0):=a_ fun j m=>by unfold aE.qF;rw[apA (by omega)]
  rw[mX,←B'];unfold p6;rw[f1,f2]
 rw[e]at h;exact h
theorem Ou(N:Nat)(f:Nat→Nat)(s:Nat)(h:∀j,j<N→f j=s/BP j%4294967296):D.row N false (((cK N f).drop 0).take N)=az (fc N s):=by
 rw[←p9,a_ h]
theorem VQ(c:aa G){a b:Nat}(f:a<b)(d:(words a).length≤2^44)(e:(words b).length≤2^44):
  Spec zZq G 171 [az (words a),az (words b)] (.aY [az [],az (words a)]):=
 Spec.r c func171 [] [.call (my c a b d e),.eb 22 (x:=decide (jK a b<0)) (y:=true) (by unfold jK;rw[apB f];rfl),.call (z8 c a d)]
theorem abj{a b:Nat}(h:b≤a):decide (jK a b<0)=false:=by
 unfold jK;rw[apA (by omega)]
 split<;>rfl
theorem RH(c:aa G){a b:Nat}(m:b≤a)(f:0<b)(k:(words b).length=1)(h:(words a).length≤2^44):
    Spec zZq G 171 [az (words a),az (words b)] (.aY [az (words (a/b)),az (words (a%b))]):=by
  have n:=apJ;have j:b<4294967296:=by
    have:=(aZ b 1).1 (by omega)
    rwa [df,ig]at this
  have l:(words b).getD 0 0=b:=by rw[lM,ig,amN,ame j]
  have g:=P_ (G:=G) c (bb a) f j h;rw[aX]at g;have hm:a%b<b:=al8 _ f;have e:0<(words b).length:=by omega
  exact Spec.r c func171 [] [.call (my c a b h (by omega)),.eb 22 (abj m),.eb 27 (x:=zNq (words b).length==1) (y:=true) (by rw[k];rfl),
     .prop (c9 (i:=0) e),.prop (bu (i:=0) e),.eq 32 (d:=(((words b).map u32).drop ((zNq 0).toNat*1)).headD .any) (d':=u32 b) (by rw[a8 e,l]),.call g,.call (XF (x:=a%b) c (by omega))]
theorem Od(f:aa G){a b:Nat}(F:b≤a)(Q:2≤(words b).length)(J:(words a).length≤2^44):
    Spec zZq G 171 [az (words a),az (words b)] (.aY [az (words (a/b)),az (words (a%b))]):=by
  have Z:=apJ;have S:=apI;have Y:=apI;have vd:=apH;have e:=aE.normal Q F;have hlen:(words b).length≤(words a).length:=(aZ b _).2 (amD F ((aZ a _).1 (alE _)));generalize H:(words b).getD ((words b).length-1) 0=x at e;have v:x<4294967296:=by rw[←H];exact(bb b).getD _
  generalize c:(⟨a,b,32-bl x,(words a).length,(words b).length⟩:aE)=d at e;have X:d.n=32-bl x:=by rw[←c]
  have t:d.N=(words a).length+1:=by rw[←c];rfl
  have m:d.lb=(words b).length:=by rw[←c]
  have W:d.U=a*2^d.n:=by rw[←c];rfl
  have V:d.V=b*2^d.n:=by rw[←c];rfl
  have B:d.Nq=(words a).length+1-(words b).length:=by rw[←c];rfl
  have O:d.a=a:=by rw[←c]
  have M:d.b=b:=by rw[←c]
  have E:(words b).length-1<(words b).length:=by omega
  have q:=afN (G:=G) f (bb b) e.hn (by omega)
  have r:=Sm (G:=G) f (bb a) e.hn J;rw[aX,←V,←m]at q;rw[aX,←W,←t]at r;have g:=aE.zD d;have C:=U6 (G:=G) f e (by rw[t];omega)
  have I:=mf (G:=G) f (l:=fc d.Nq (d.U/d.V)) (jx _ _) (by rw[dz,B];omega)
  have R:d.U/d.V<BP d.Nq:=by
    have U:=(aE.start e).1;rw[amk (aE.afv e)];exact U
  have z:words (d.U/d.V)=words (a/b):=by rw[aE.quot,O,M]
  rw[iN R,z]at I;have A:d.R 0<BP d.N:=amD (Nat.mod_le _ _) (aE.start e).2;have s:=VN (G:=G) f (l:=fc d.N (d.R 0)) (jx _ _) e.hn (by rw[dz,t];omega)
  rw[AX A,aE.ah3,O,M]at s;have h:d.v.length-1<d.v.length:=by have:=e.L3;omega
  have u:d.v.length-2<d.v.length:=by have:=e.L3;omega
  have L:d.v.getD (d.v.length-1) 0=d.V/BP (d.lb-1):=by
    have:=(aE.ve e 0).Z9;have T:d.V/BP (d.lb-1)<4294967296:=this;rw[g];show(fc d.lb d.V).getD (d.lb-1) 0=_;rw[Dh (by have:=e.L3;omega),ame T]
  have K:d.v.getD (d.v.length-2) 0=d.V/BP (d.lb-2)%4294967296:=by
    rw[g];show(fc d.lb d.V).getD (d.lb-2) 0=_;rw[Dh (by have:=e.L3;omega)]
  have o:=(aE.Sl d).getD (d.v.length-1);have P:=(aE.Sl d).getD (d.v.length-2);rw[L]at o;rw[K]at P;have w:D.row ((zNq (words b).length).toNat-(0:Int).toNat) (false&&false) ((((fc (d.lb+1) d.V).map u32).drop ((0:Int).toNat*1)).take (((zNq (words b).length).toNat-(0:Int).toNat)*1))=az d.v:=by
    simp only[zKq,Int.toNat_natCast,Int.toNat_zero,Nat.mul_one,Nat.sub_zero,List.drop_zero,Bool.false_and];rw[←aoi,←m,JI (by omega)]
    show _=D.row d.v.length false (d.v.map u32);rw[g];rfl
  exact Spec.r f func171 [] (args:=[az (words a),az (words b)])
    [.call (my f a b J (by omega)),.eb 22 (abj F),.eb 27 (x:=zNq (words b).length==1) (y:=false) (by rw[beq_eq_false_iff_ne];simp only[zKq];omega),
     .eq 43 (bQ (rG (i:=(words b).length) (k:=1) (by omega) (by omega))),.prop (c9 E),.prop (bu E),.eq 45 (d:=(((words b).map u32).drop ((zNq ((words b).length-1)).toNat*1)).headD .any) (d':=u32 x) (by rw[a8 E,H]),
     .call (Ve f v),.eq 46 (d:=nat (32-bl x)) (d':=nat d.n) (by rw[X]),.call q,.prop (p:=(0:Int)≤0∧0≤zNq (words b).length∧zNq (words b).length≤((fc (d.lb+1) d.V).length:Int)) (by rw[dz,m];simp only[zKq];omega),
     .eq 52 w,.Ha r,
     .eq 60 (d:=.lit (.int .i64 (IntKind.wrap .i64 (zNq d.N-zNq d.v.length)))) (d':=nat d.Nq) (by rw[rG (by rw[t];omega) (by rw[g,t,m];omega),g];rfl),.prop (kQ (N:=d.Nq) (by rw[B];omega)),
     .eq 65 (bQ (rG (i:=d.v.length) (k:=1) (by rw[g,m];omega) (by have:=e.L3;omega))),.prop (c9 h),.prop (bu h),.eq 67 (d:=((d.v.map u32).drop ((zNq (d.v.length-1)).toNat*1)).headD .any) (d':=u32 (d.V/BP (d.lb-1))) (by rw[a8 h,L]),
     .eq 68 (bO (iZ o)),.eq 72 (bQ (rG (i:=d.v.length) (k:=2) (by rw[g,m];omega) (by have:=e.L3;omega))),.prop (c9 u),.prop (bu u),
     .eq 74 (d:=((d.v.map u32).drop ((zNq (d.v.length-2)).toNat*1)).headD .any) (d':=u32 (d.V/BP (d.lb-2)%4294967296)) (by rw[a8 u,K]),.eq 75 (bO (iZ P)),
     .eq 78 (bQ (lh (n:=d.Nq) (by rw[B];omega))),.code C,.freeze 0,.freeze 1,
     .eq 153 (Ou d.Nq (d.qF 0) (d.U/d.V) (fun j _=>by unfold aE.qF;rw[apB (amd _)])),.call I,.eq 155 (Ou d.N (d.uF 0) (d.R 0) (fun j _=>rfl)),.call s]
theorem Oc(c:aa G){a b:Nat}(e:0<b)(d:(words a).length≤2^44)(f:(words b).length≤2^44):
  Spec zZq G 171 [az (words a),az (words b)] (.aY [az (words (a/b)),az (words (a%b))]):=by
 rcases alU a b with h|h
 ·rw[amn h,ame h,pC]
  exact VQ c h d f
 ·have i:=ef (n:=b) (by omega)
  by_cases g:(words b).length=1
  ·exact RH c h e g d
  ·exact Od c h (by omega) d
end Lw
namespace Lw
open Go Go.RowKit Go.Proofs
variable {G:World→Prop}
def wv(s:Bool)(n:Nat):D:=.agg [bool s,az (words n)]
def g'(s:Bool)(n:Nat):Int:=if s then -(n:Int)else n
def W(i:Int):D:=wv (decide (i<0)) i.natAbs
theorem oD{s:Bool}{n:Nat}(h:s=true→0<n):W (g' s n)=wv s n:=by
 cases s with
 |false=>
  have e:g' false n=(n:Int):=rfl;have a:decide ((n:Int)<0)=false:=by simp
  rw[e];unfold W;rw[a];rfl
 |true=>
  have b:=h rfl;have e:g' true n= -(n:Int):=rfl;have a:decide (-(n:Int)<0)=true:=by simp;omega
  rw[e];unfold W;rw[a,anZ];rfl
theorem mC(i:Int):∃s n,g' s n=i∧(s=true→0<n)∧n=i.natAbs:=by
 by_cases h:i<0
 ·exact⟨true,i.natAbs,by unfold g';rw[apB rfl];omega,fun _=>by omega,rfl⟩
 ·exact⟨false,i.natAbs,by unfold g';rw[apA (by simp)];omega,fun h=>(by cases h),rfl⟩
def Sz(n:Nat):Prop:=(words n).length≤2^43
theorem Sz.ba{n:Nat}(h:Sz n):(words n).length≤2^44:=alJ h (by decide)
theorem ZV{n:Nat}(h:(words n).length≤2^44):(words n).length<2^60:=amD h (by decide)
theorem lL{n:Nat}(h:0<n):(zNq (words n).length==0)=false:=by
 have:=ef (n:=n) (by omega)
 rw[beq_eq_false_iff_ne];simp only[zKq];omega
theorem Fl(b:aa G){s:Bool}{n:Nat}(c:s=true→0<n)(d:(words n).length≤2^44):Spec zZq G 107 [wv s n] (bool true):=by
  rcases alT n with rfl|h
  · cases s with
    |false=>exact Spec.r b func107 [1] []
    |true=>exact apC (c rfl) (by omega)
  · have e:=ef (n:=n) (by omega)
    have a:(words n).length-1<(words n).length:=by omega
    have f:=nk (n:=n) (by omega)
    exact Spec.r b func107 [1] [.eb 6 (lL h),.eq 15 (bQ (rG (i:=(words n).length) (k:=1) (ZV d) (by omega))),.prop (c9 a),.prop (bu a),.eq 17 (a8 a),
       .eb 18 (x:=zNq ((words n).getD ((words n).length-1) 0) !=0) (y:=true) (by simp only[bne_iff_ne,zKq];omega)]
theorem fq(a:aa G){s:Bool}{n:Nat}(b:s=true→0<n)(c:(words n).length≤2^44):Spec zZq G 124 [wv s n] (az (words n)):=
 Spec.r a func124 [1] [.call (Fl a b c)]
theorem fG(a:aa G){s:Bool}{n:Nat}(b:s=true→0<n)(c:(words n).length≤2^44):Spec zZq G 125 [wv s n] (bool s):=
 Spec.r a func125 [1] [.call (Fl a b c)]
theorem oo(n:Nat):decide (zNq (words n).length>0)=decide (0<n):=by
 rcases alT n with rfl|h
 ·rfl
 ·have:=ef (n:=n) (by omega)
  rw[apD h,apD];simp only[zKq];omega
theorem kg(a:aa G)(s:Bool){n:Nat}(b:(words n).length≤2^44):Spec zZq G 123 [bool s,az (words n)] (wv (s&&decide (0<n)) n):=by
 cases s with
 |false=>exact Spec.r a func123 [] [.call (z8 a n b)]
 |true=>exact Spec.r a func123 [] [.call (z8 a n b),.eb 11 (oo n)]
theorem Iy(a:aa G)(s:Bool){l:List Nat}(c:fS l)(f:l.length≤2^44):Spec zZq G 123 [bool s,az l] (wv (s&&decide (0<val l)) (val l)):=by
 have e:=apJ;have d:=apI;have b:=mf (G:=G) a c (by omega)
 cases s with
 |false=>exact Spec.r a func123 [] [.call b]
 |true=>exact Spec.r a func123 [] [.call b,.eb 11 (oo (val l))]
theorem yB(a:aa G){s:Bool}{n:Nat}(b:s=true→0<n)(c:(words n).length≤2^44):Spec zZq G 109 [wv s n] (int (if n=0 then 0 else if s then -1 else 1)):=by
 rcases alT n with rfl|h
 ·exact Spec.r a func109 [1] [.call (fq a b c)]
 ·rw[apA (by omega)]
  cases s<;>exact Spec.r a func109 [1] [.call (fq a b c),.eb 7 (lL h)]
theorem HB(a:aa G){s:Bool}{n:Nat}(c:s=true→0<n)(b:(words n).length≤2^44):Spec zZq G 63 [wv s n] (wv (!s&&decide (0<n)) n):=by
 cases s with
 |false=>exact Spec.r a func63 [1] [.call (fG a c b),.call (fq a c b),.call (kg a true b)]
 |true=>exact Spec.r a func63 [1] [.call (fG a c b),.call (fq a c b),.call (kg a false b)]
theorem Mj(e:aa G){a b:Nat}(d:(words a).length≤2^44)(c:(words b).length≤2^44):Spec zZq G 136 [az (words a),az (words b)] (az (words (a*b))):=by
 have:=fU (G:=G) e (bb a) (bb b) d c
 rwa [aX,aX]at this
theorem Qx(e:aa G){a b:Nat}(d:(words a).length≤2^44)(c:(words b).length≤2^44):Spec zZq G 126 [az (words a),az (words b)] (az (words (a+b))):=by
 have:=UL (G:=G) e (bb a) (bb b) d c
 rwa [aX,aX]at this
theorem Gy(d:aa G){a b:Nat}(c:(words a).length≤2^44)(h:b≤a):Spec zZq G 128 [az (words a),az (words b)] (az (words (a-b))):=by
 have:=Vb (G:=G) d (bb a) (bb b) (by rw[aX,aX];exact h) c
 rwa [aX,aX]at this
theorem EX{a b:Nat}:(words (a*b)).length≤(words a).length+(words b).length:=by
 rw[aZ,kA];have e:=(aZ a _).1 (alE _);have d:=(aZ b _).1 (alE _);rcases alT b with rfl|c
 ·rw[Nat.mul_zero];exact amK (cQ _) (cQ _)
 ·exact ami (ani e c) (amc _ (amb d))
theorem cE{a b:Nat}(h:a≤b):(words a).length≤(words b).length:=(aZ a _).2 (amD h ((aZ b _).1 (alE _)))
theorem EY{a b:Nat}:(words (a+b)).length≤max (words a).length (words b).length+1:=by
 rw[aZ,df];have d:=(aZ a _).1 (aol (words a).length (words b).length);have c:=(aZ b _).1 (aoe (words a).length (words b).length);omega
theorem ah_(c:aa G){s t:Bool}{m n:Nat}(g:s=true→0<m)(f:t=true→0<n)(e:Sz m)(d:Sz n):
  Spec zZq G 68 [wv s m,wv t n] (wv (Bool.xor s t&&decide (0<m*n)) (m*n)):=by
 have i:=apK;have j:=apJ;have h:(words (m*n)).length≤2^44:=by
  have:=EX (a:=m) (b:=n);unfold Sz at e d;omega
 have hw:=kg (G:=G) c (Bool.xor s t) h;cases s<;>cases t<;>
  exact Spec.r c func68 [2,3] [.call (fG c g e.ba),.call (fG c f d.ba),.call (fq c g e.ba),.call (fq c f d.ba),.call (Mj c e.ba d.ba),.call hw]
theorem Lq{a b:Nat}(h:b≤a):decide (jK a b≥0)=true:=by
 unfold jK;rw[apA (by omega)]
 split<;>rfl
theorem Lo{a b:Nat}(h:a<b):decide (jK a b≥0)=false:=by
 unfold jK;rw[apB h];rfl
theorem acb(c:aa G)(s:Bool){m n:Nat}(f:s=true→0<m)(g:s=true→0<n)(d:Sz m)(e:Sz n):
  Spec zZq G 58 [wv s m,wv s n] (wv (s&&decide (0<m+n)) (m+n)):=by
 have i:=apK;have j:=apJ;have h:(words (m+n)).length≤2^44:=by
  have:=EY (a:=m) (b:=n);unfold Sz at d e;omega
 have hw:=kg (G:=G) c s h;cases s<;>
  exact Spec.r c func58 [2,3] [.call (fq c f d.ba),.call (fq c g e.ba),.call (fG c f d.ba),.call (fG c g e.ba),.call (fG c f d.ba),.call (Qx c d.ba e.ba),.call hw]
theorem aeN(a:aa G)(s:Bool){m n:Nat}(c:s=true→0<m)(e:(!s)=true→0<n)(b:Sz m)(d:Sz n)(h:n≤m):
    Spec zZq G 58 [wv s m,wv (!s) n] (wv (s&&decide (0<m-n)) (m-n)):=by
  have f:(words (m-n)).length≤2^44:=alJ (cE (anF _ _)) b.ba;have hw:=kg (G:=G) a s f;cases s<;>
    exact Spec.r a func58 [2,3] [.call (fq a c b.ba),.call (fq a e d.ba),.call (fG a c b.ba),.call (fG a e d.ba),.call (my a m n b.ba d.ba),.eb 27 (Lq h),
       .call (fG a c b.ba),.call (Gy a b.ba h),.call hw]
theorem Xa(a:aa G)(s:Bool){m n:Nat}(e:s=true→0<m)(c:(!s)=true→0<n)(d:Sz m)(b:Sz n)(h:m<n):
    Spec zZq G 58 [wv s m,wv (!s) n] (wv (!s&&decide (0<n-m)) (n-m)):=by
  have f:(words (n-m)).length≤2^44:=alJ (cE (anF _ _)) b.ba;have hw:=kg (G:=G) a (!s) f;cases s<;>
    exact Spec.r a func58 [2,3] [.call (fq a e d.ba),.call (fq a c b.ba),.call (fG a e d.ba),.call (fG a c b.ba),.call (my a m n d.ba b.ba),.eb 27 (Lo h),
       .call (fG a c b.ba),.call (Gy a b.ba (amb h)),.call hw]
theorem tt(s:Bool)(n:Nat):W (g' s n)=wv (s&&decide (0<n)) n:=by
 rcases alT n with rfl|h
 ·have:g' s 0=g' false 0:=by cases s<;>rfl
  rw[this,oD (by simp)];simp
 ·rw[apD h,aoD];exact oD fun _=>h
def n8(i:Int):Prop:=Sz i.natAbs
theorem Cj(f:aa G){i j:Int}(b:n8 i)(a:n8 j):Spec zZq G 58 [W i,W j] (W (i+j)):=by
 obtain⟨s,m,rfl,d,l⟩:=mC i;obtain⟨t,n,rfl,c,k⟩:=mC j;unfold n8 at b a;rw[←l]at b;rw[←k]at a;rw[oD d,oD c];by_cases g:t=s
 ·subst g
  have e:g' t m+g' t n=g' t (m+n):=by unfold g';cases t<;>simp;omega
  rw[e,tt];exact acb f t d c b a
 ·have:t= !s:=by cases s<;>cases t<;>first|rfl|exact apC rfl g
  subst this;rcases alU m n with h|h
  ·have e:g' s m+g' (!s) n=g' (!s) (n-m):=by unfold g';cases s<;>simp<;>omega
   rw[e,tt];exact Xa f s d c b a h
  ·have e:g' s m+g' (!s) n=g' s (m-n):=by unfold g';cases s<;>simp<;>omega
   rw[e,tt];exact aeN f s d c b a h
theorem kP(h:aa G){i j:Int}(b:n8 i)(a:n8 j):Spec zZq G 68 [W i,W j] (W (i*j)):=by
 obtain⟨s,m,rfl,d,g⟩:=mC i;obtain⟨t,n,rfl,c,f⟩:=mC j;unfold n8 at b a;rw[←g]at b;rw[←f]at a;rw[oD d,oD c];have e:g' s m*g' t n=g' (Bool.xor s t) (m*n):=by unfold g';cases s<;>cases t<;>simp[Int.mul_neg,Int.neg_mul]
 rw[e,tt];exact ah_ h d c b a
theorem ym(d:aa G){i:Int}(a:n8 i):Spec zZq G 63 [W i] (W (-i)):=by
 obtain⟨s,m,rfl,b,c⟩:=mC i;unfold n8 at a;rw[←c]at a;rw[oD b];have e: -g' s m=g' (!s) m:=by unfold g';cases s<;>simp
 rw[e,tt];exact HB d b a.ba
theorem oz(d:aa G){i:Int}(b:n8 i):Spec zZq G 109 [W i] (int i.sign):=by
 obtain⟨s,m,rfl,a,c⟩:=mC i;unfold n8 at b;rw[←c]at b;rw[oD a];have:=yB (G:=G) d a b.ba;have e:(g' s m).sign=if m=0 then 0 else if s then -1 else 1:=by
  cases s with
  |false=>
   show((m:Int)).sign=if m=0 then 0 else if false=true then -1 else 1
   by_cases h:m=0
   ·subst h;rfl
   ·rw[apA h,apA (by simp)];exact an0 (by omega)
  |true=>
   have:=a rfl;show(-(m:Int)).sign=if m=0 then 0 else if true=true then -1 else 1
   rw[apA (show¬m=0 by omega),apB rfl];exact anG (by omega)
 rw[e];exact this
end Lw
namespace Lw
open Go Go.RowKit Go.Proofs
variable {G:World→Prop}
def zx(i j:Int):Int:=if i<j then -1 else if j<i then 1 else 0
theorem lU(i:Int):(i<0∧i.sign= -1)∨(i=0∧i.sign=0)∨(0<i∧i.sign=1):=by
 rcases Int.lt_trichotomy i 0 with a|a|a
 ·exact .inl ⟨a,anG a⟩
 ·subst a;exact .inr (.inl ⟨rfl,rfl⟩)
 ·exact .inr (.inr ⟨a,an0 a⟩)
theorem SC{i j:Int}(h:i.sign<j.sign):i<j:=by
 rcases lU i with⟨a,b⟩|⟨a,b⟩|⟨a,b⟩<;>rcases lU j with⟨c,d⟩|⟨c,d⟩|⟨c,d⟩<;>omega
theorem aij{x:Int}(h: -2≤x)(a:x≤2):IntKind.wrap .i64 (0-x)= -x:=by rw[py (by omega) (by omega)];omega
theorem RL(m n:Nat): -2≤jK m n∧jK m n≤2:=by
 unfold jK;split
 ·omega
 ·split<;>omega
theorem yq(c:aa G){i j:Int}(d:n8 i)(o:n8 j):Spec zZq G 67 [W i,W j] (int (zx i j)):=by
 have g:=oz (G:=G) c d;have f:=oz (G:=G) c o;by_cases h:i.sign=j.sign
 ·obtain⟨s,m,rfl,q,E⟩:=mC i
  obtain⟨t,n,rfl,r,D⟩:=mC j;unfold n8 at d o;rw[←E]at d;rw[←D]at o;rw[oD q]at g⊢;rw[oD r]at f⊢;have A:=fq (G:=G) c q d.ba;have z:=fq (G:=G) c r o.ba;have w:=my (G:=G) c m n d.ba o.ba;have v:=fG (G:=G) c q d.ba;obtain⟨C,B⟩:=RL m n;cases s with
  |false=>
   have u:t=false:=by
    cases t with
    |false=>rfl
    |true=>
     exfalso;have H:(g' true n).sign= -1:=anG (by have:=r rfl;show -(n:Int)<0;omega)
     have p:0≤(g' false m).sign:=by show 0≤((m:Int)).sign;rcases lU (m:Int)with⟨a,b⟩|⟨a,b⟩|⟨a,b⟩<;>omega
     omega
   subst u;have e:zx (g' false m) (g' false n)=jK m n:=by
    show(if(m:Int)<(n:Int)then(-1:Int)else if(n:Int)<m then 1 else 0)=_
    unfold jK;by_cases l:m<n
    ·rw[apB l,apB (by omega)]
    ·rw[apA l,apA (by omega)]
     by_cases k:n<m
     ·rw[apB k,apB (by omega)]
     ·rw[apA k,apA (by omega)]
   rw[e];exact Spec.r c func67 [2,3] [.call g,.call f,.eb 14 (x:=(g' false m).sign !=(g' false n).sign) (y:=false) (by rw[h];simp),.call A,.call z,.call w,.call v]
  |true=>
   have u:t=true:=by
    cases t with
    |true=>rfl
    |false=>
     exfalso;have H:(g' true m).sign= -1:=anG (by have:=q rfl;show -(m:Int)<0;omega)
     have p:0≤(g' false n).sign:=by show 0≤((n:Int)).sign;rcases lU (n:Int)with⟨a,b⟩|⟨a,b⟩|⟨a,b⟩<;>omega
     omega
   subst u;have e:zx (g' true m) (g' true n)= -jK m n:=by
    show(if -(m:Int)< -(n:Int)then(-1:Int)else if -(n:Int)< -(m:Int)then 1 else 0)=_
    unfold jK;by_cases l:m<n
    ·rw[apB l,apA (by omega),apB (by omega)];rfl
    ·rw[apA l]
     by_cases k:n<m
     ·rw[apB k,apB (by omega)]
     ·rw[apA k,apA (by omega),apA (by omega)];rfl
   rw[e];exact Spec.r c func67 [2,3] [.call g,.call f,.eb 14 (x:=(g' true m).sign !=(g' true n).sign) (y:=false) (by rw[h];simp),.call A,.call z,.call w,.call v,.eq 26 (bQ (aij C B))]
 ·by_cases p:i.sign<j.sign
  ·have e:zx i j= -1:=by unfold zx;rw[apB (SC p)]
   rw[e];exact Spec.r c func67 [2,3] [.call g,.call f,.eb 14 (x:=i.sign !=j.sign) (y:=true) (by simpa using h),.eb 17 (x:=decide (i.sign<j.sign)) (y:=true) (by simpa using p)]
  ·have F:=SC (i:=j) (j:=i) (by omega)
   have e:zx i j=1:=by unfold zx;rw[apA (by omega),apB F]
   rw[e];exact Spec.r c func67 [2,3] [.call g,.call f,.eb 14 (x:=i.sign !=j.sign) (y:=true) (by simpa using h),.eb 17 (x:=decide (i.sign<j.sign)) (y:=false) (by simpa using p)]
theorem yw{x:Nat}:val [x%4294967296,x/4294967296]=x:=by simp only[val];omega
theorem EI{x:Nat}(h:x<18446744073709551616):fS [x%4294967296,x/4294967296]:=by
 intro y a;simp only[List.mem_cons,List.not_mem_nil,or_false]at a;omega
theorem ah8(a:aa G){x:Nat}(f:0<x)(h:x≤9223372036854775808):Spec zZq G 57 [int (-(x:Int))] (W (-(x:Int))):=by
 have hw:=Iy (G:=G) a true (l:=[x%4294967296,x/4294967296]) (EI (by omega)) (by simp)
 rw[yw]at hw;have e:=tt true x;have b:g' true x= -(x:Int):=rfl;rw[b]at e;rw[e];have d:IntKind.wrap .u64 (-(x:Int))=zNq (18446744073709551616-x):=by rw[pU];simp only[zKq];omega
 have c:IntKind.wrap .u64 (0-zNq (18446744073709551616-x))=zNq x:=by rw[pU];simp only[zKq];omega
 have lt:decide (-(x:Int)<0)=true:=by simp;omega
 exact Spec.r a func57 [] [.eq 5 (bO d),.eb 7 lt,.eq 9 (bO c),.eb 11 lt,.eq 13 (gB (il x)),.eq 15 (bO (qY x)),.eq 16 (gB (x:=IntKind.wrap .u32 (zNq (x/4294967296))) (y:=zNq (x/4294967296)) (by rw[il,ame (by omega)])),.call hw]
theorem ah7(a:aa G){x:Nat}(h:x<9223372036854775808):Spec zZq G 57 [int (x:Int)] (W (x:Int)):=by
  have hw:=Iy (G:=G) a false (l:=[x%4294967296,x/4294967296]) (EI (by omega)) (by simp)
  rw[yw]at hw;have e:=tt false x;have b:g' false x=(x:Int):=rfl;rw[b]at e;rw[e];have lt:decide ((x:Int)<0)=false:=by simp
  exact Spec.r a func57 [] [.eq 5 (bO (x:=IntKind.wrap .u64 (x:Int)) (y:=zNq x) (wrap64 (by omega))),.eb 7 lt,.eb 11 lt,.eq 13 (gB (il x)),.eq 15 (bO (qY x)),
     .eq 16 (gB (x:=IntKind.wrap .u32 (zNq (x/4294967296))) (y:=zNq (x/4294967296)) (by rw[il,ame (by omega)])),.call hw]
theorem TW(a:aa G){i:Int}(h: -9223372036854775808≤i)(c:i<9223372036854775808):Spec zZq G 57 [int i] (W i):=by
 by_cases b:i<0
 ·obtain⟨x,rfl⟩:∃x:Nat,i= -(x:Int):=⟨i.natAbs,by omega⟩
  exact ah8 a (by omega) (by omega)
 ·obtain⟨x,rfl⟩:∃x:Nat,i=(x:Int):=⟨i.natAbs,by omega⟩
  exact ah7 a (by omega)
theorem wq(f:aa G){a b:Nat}(c:0<b)(e:(words a).length≤2^44)(d:(words b).length≤2^44):
  Spec zZq G 171 [az (words a),az (words b)] (.aY [az (words (a/b)),az (words (a%b))]):=Oc f c e d
theorem ab8(a:aa G){s t:Bool}{m n:Nat}(d:s=true→0<m)(f:t=true→0<n)(c:0<n)(b:Sz m)(e:Sz n)(j:s=false∨m%n=0):
    Spec zZq G 133 [wv s m,wv t n] (.aY [wv (Bool.xor s t&&decide (0<m/n)) (m/n),wv (false&&decide (0<m%n)) (m%n),.lit .nilIface]):=by
  have k:(words (m/n)).length≤2^44:=alJ (cE (amC _ _)) b.ba;have i:(words (m%n)).length≤2^44:=alJ (cE (Nat.mod_le _ _)) b.ba;have hw:=kg (G:=G) a (Bool.xor s t) k;have g:=kg (G:=G) a false i;cases s with
  |false=>
    cases t<;>
      exact Spec.r a func133 [2,3] [.call (fq a f e.ba),.eb 14 (lL c),.call (fq a d b.ba),.call (wq a c b.ba e.ba),.call (fG a d b.ba),
         .call (fG a d b.ba),.call (fG a f e.ba),.call hw,.call g]
  |true=>
    have o:m%n=0:=by rcases j with h|h;cases h;exact h
    have l:decide (zNq (words (m%n)).length>0)=false:=by rw[oo,o];rfl
    cases t<;>
      exact Spec.r a func133 [2,3] [.call (fq a f e.ba),.eb 14 (lL c),.call (fq a d b.ba),.call (wq a c b.ba e.ba),.call (fG a d b.ba),.eb 30 l,
         .call (fG a d b.ba),.call (fG a f e.ba),.call hw,.call g]
theorem Ef(n:Nat):W (n:Int)=wv (false&&decide (0<n)) n:=tt false n
end Lw
namespace Lw
theorem Dg(a i:Nat):a/2^i=2*(a/2^(i+1))+a/2^i%2:=by
 rw[al5,←al7];omega
theorem abE{x b c:Nat}(d:0<b)(g:c<2):(2*x+c)/b=2*(x/b)+(if b≤2*(x%b)+c then 1 else 0)∧(2*x+c)%b=if b≤2*(x%b)+c then 2*(x%b)+c-b else 2*(x%b)+c:=by
 have j:=am4 x b;have i:=al8 x d;have f:2*x+c=b*(2*(x/b))+(2*(x%b)+c):=by
  have:b*(2*(x/b))=2*(b*(x/b)):=by grind
  omega
 split
 ·rename_i h
  have e:2*x+c=b*(2*(x/b)+1)+(2*(x%b)+c-b):=by rw[amO,amH];omega
  constructor
  ·have a:(2*(x%b)+c-b)/b=0:=amn (by omega)
   rw[e,ao6 d,a]
  ·have a:(2*(x%b)+c-b)%b=2*(x%b)+c-b:=ame (by omega)
   rw[e,Nat.mul_add_mod,a]
 ·rename_i h
  constructor
  ·have a:(2*(x%b)+c)/b=0:=amn (by omega)
   rw[f,ao6 d,a]
  ·have a:(2*(x%b)+c)%b=2*(x%b)+c:=ame (by omega)
   rw[f,Nat.mul_add_mod,a]
theorem aaw{a b:Nat}(h:Nat.gcd (2*a) b%2=1):Nat.gcd a b=Nat.gcd (2*a) b:=by
 have g:b%2=1:=by
  rcases Nat.mod_two_eq_zero_or_one b with e|e
  ·have:2∣Nat.gcd (2*a) b:=Nat.dvd_gcd (Nat.dvd_mul_right _ _) (Nat.dvd_of_mod_eq_zero e)
   omega
  ·exact e
 have d:Nat.Coprime 2 b:=by
  unfold Nat.Coprime;have c:Nat.gcd 2 b∣2:=aoT _ _;have f:Nat.gcd 2 b∣b:=aoL _ _;have k:Nat.gcd 2 b≤2:=Nat.le_of_dvd (by omega) c
  have j:Nat.gcd 2 b≠2:=fun e=>by rw[e]at f;omega
  have i:Nat.gcd 2 b≠0:=fun e=>by rw[e]at c;omega
  omega
 exact(Nat.Coprime.gcd_mul_left_cancel a d).symm
theorem gcd_both(a b:Nat):Nat.gcd (2*a) (2*b)=2*Nat.gcd a b:=Nat.gcd_mul_left 2 a b
theorem N2{a b:Nat}(h:b≤a):Nat.gcd (a-b) b=Nat.gcd a b:=Nat.gcd_sub_self_left h
end Lw
namespace Lw
open Go Go.RowKit Go.Proofs
variable {G:World→Prop}
def e_(k:Int):D:=.lit (.iface 63 (.int .i64 k))
def aeO:List D:=[bool false,az []]
def C7(p:Nat×Nat):St:=lay 26 [(4,.ptr 0 0),(5,az (words p.1)),(6,az (words p.2))] [(0,aeO)]
theorem VC(b:aa G){p:Nat×Nat}(a:0<p.2)(d:(words p.1).length≤2^44)(c:(words p.2).length≤2^44):
  ak zZq G 0 (ah f108 0) (C7 p) .normal (C7 (p.2,p.1%p.2)):=
 ak.r b [.eb 15 (x:=decide (zNq (words p.2).length>0)) (y:=true) (by rw[oo];exact apD a),.call (wq b a d c)]
theorem aav(a:aa G)(g:Nat):ak zZq G 0 (ah f108 0) (C7 (g,0)) (.exit 0) (C7 (g,0)):=
 ak.r a []
theorem aau(f:aa G){a b:Nat}(j:(words a).length≤2^44)(i:(words b).length≤2^44):
  bT zZq G 26 0 (.loop (ah f108 0)) (lay 26 [(4,.ptr 0 0),(5,az (words a)),(6,az (words b))] [(0,aeO)]) (.exit 0) (C7 (Nat.gcd a b,0)):=by
 refine bT.rounds (fun p:Nat×Nat=>Nat.gcd p.1 p.2=Nat.gcd a b∧(words p.1).length≤2^44∧(words p.2).length≤2^44) C7 (fun p=>p.2) (fun p=>ar _ _ _) (by simp) (fun p g=>?_) (a,b) ⟨rfl,j,i⟩
 obtain⟨x,y⟩:=p;obtain⟨e,d,c⟩:=g;rcases alT y with h|h
 ·right
  subst h;have:x=Nat.gcd a b:=by rw[←e];exact(Nat.gcd_zero_right x).symm
  subst this;exact aav f _
 ·left
  refine⟨(y,x%y),⟨?_,c,?_⟩,al8 _ h,VC f h d c⟩
  ·show Nat.gcd y (x%y)=_
   rw[←e,aow x y,Nat.gcd_rec y x,aow]
  ·exact alJ (cE (Nat.mod_le _ _)) d
theorem tU{a b k:Nat}(d:(words a).length≤k)(c:(words b).length≤k):(words (Nat.gcd a b)).length≤k:=by
 rcases alT a with h|h
 ·subst h;rw[apq];exact c
 ·exact alJ (cE (Nat.gcd_le_left b h)) d
theorem ab5(c:aa G){i j:Int}(b:n8 i)(a:n8 j):Spec zZq G 108 [W i,W j] (W ((Int.gcd i j:Nat):Int)):=by
 obtain⟨s,m,rfl,f,h⟩:=mC i;obtain⟨t,n,rfl,d,g⟩:=mC j;unfold n8 at b a;rw[←h]at b;rw[←g]at a;rw[oD f,oD d,Ef];have e:Int.gcd (g' s m) (g' t n)=Nat.gcd m n:=by unfold Int.gcd;rw[←h,←g]
 rw[e];exact Spec.r c func108 [2,3] [.call (fq c f b.ba),.call (fq c d a.ba),.code (aau c b.ba a.ba),.call (kg c false (tU b.ba a.ba))]
theorem abC{n:Nat}(h:0<n):bl n=32*((words n).length-1)+bl ((words n).getD ((words n).length-1) 0):=by
 obtain⟨k,d⟩:∃k,(words n).length=k+1:=⟨(words n).length-1,by
  have:(words n).length≠0:=fun e=>by
   have a:=amu e;have:=aX n;rw[a]at this;have g:val []=0:=rfl;omega
  omega⟩
 have a:n<BP (k+1):=(aZ n _).1 (by omega)
 have c:BP k≤n:=by
  rcases alU n (BP k)with q|q
  ·have:=(aZ n k).2 q;omega
  ·exact q
 rw[d,aoo,lM];have b:BP k=2^(32*k):=by rw[Nat.pow_mul];rfl
 have f:n/BP k%4294967296=n/BP k:=ame (Nat.div_lt_of_lt_mul (by rw[df,alS]at a;exact a))
 rw[f];rw[b]at c⊢;rw[yh c];omega
theorem yr(i:Nat):BP i=2^(32*i):=by rw[Nat.pow_mul];rfl
theorem qI(n:Nat):words n=fc (words n).length n:=by
 refine anY (by rw[dz]) fun i c d=>?_
 have a:=lM n i;have b:=Dh (N:=(words n).length) (n:=n) c;rw[alD,alK c]at a;rw[alD,alK d]at b;exact a.trans b.symm
theorem KP{i c:Nat}(h:i<2^60):IntKind.wrap .i64 ((zNq i).tdiv (zNq c))=zNq (i/c):=by
 have a:=apH;have e:(zNq i).tdiv (zNq c)=zNq (i/c):=rfl;have b:=amC i c;generalize i/c=x at*;rw[e,py (by simp only[zKq];omega) (by simp only[zKq];omega)]
theorem KO(i c:Nat):(zNq i).tmod (zNq c)=zNq (i%c):=rfl
theorem acQ{k:Nat}(h:k<32):IntKind.wrap .u32 (1*2^min (zNq k).toNat (IntKind.bits .u32))=zNq (2^k):=by
 have e:min (zNq k).toNat (IntKind.bits .u32)=k:=by
  show min k 32=k;omega
 rw[e,Int.one_mul,J5];have b:2^k<2^32:=aoc (by omega) h
 have a:(2:Nat)^32=4294967296:=by decide
 have:((2:Int)^k)=((2^k:Nat):Int):=by rw[Int.natCast_pow];rfl
 rw[this];generalize 2^k=x at*;simp only[zKq];omega
def Full(l:List Nat):Bool:=decide (l=words (val l))
theorem Jw{l:List Nat}(c:fS l)(h:l≠[]):Full l= !(l.getD (l.length-1) 0==0):=by
 unfold Full;by_cases a:l.getD (l.length-1) 0=0
 ·have:¬l=words (val l):=fun e=>by
   have b:val l≠0:=fun d=>by rw[d]at e;exact h e
   have:=nk b;rw[←e]at this;exact this a
  rw[apE this,a];rfl
 ·rw[apD (DH c (fun _=>a)).symm]
  have:(l.getD (l.length-1) 0==0)=false:=by rw[beq_eq_false_iff_ne];exact a
  rw[this];rfl
theorem JX(a:aa G){l:List Nat}(c:fS l)(f:l.length≤2^44):Spec zZq G 107 [.agg [bool false,az l]] (bool (Full l)):=by
  have e:=apJ;by_cases h:l=[]
  · subst h
    exact Spec.r a func107 [1] []
  · have b:0<l.length:=amJ.2 h
    rw[Jw c h];have d:(zNq l.length==0)=false:=by simp;omega
    exact Spec.r a func107 [1] [.eb 6 d,.eq 15 (bQ (kG (i:=l.length) (by omega) b)),.prop (c9 (l:=l) (i:=l.length-1) (by omega)),.prop (bu (l:=l) (i:=l.length-1) (by omega)),.eq 17 (a8 (l:=l) (i:=l.length-1) (by omega)),
       .eb 18 (x:=(zNq (l.getD (l.length-1) 0) !=0)) (y:= !(l.getD (l.length-1) 0==0)) (by rw[am3];simp)]
end Lw
