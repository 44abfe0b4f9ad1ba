/- Part 7. -/
import Derived.Test.YtmcpfihkambgnaaGreatLw06
import Derived.ProofKit
import Derived.OpenShut
import Derived.Carry
open Int renaming ofNat→zNq
open Go.Proofs.Tryz renaming prog→zZq
open Go.Proofs.Tryz
namespace Lw
open Go Go.RowKit
structure Raw where
 s:Bool
 n:List Nat
 d:List Nat
def Raw.AH(r:Raw):D:=.agg [bool r.s,az r.n,az r.d]
def Raw.ok(k:Nat)(r:Raw):Prop:=fS r.n∧fS r.d∧r.n.length≤k∧r.d.length≤k∧0<k
def Raw.l7(r:Raw):Prop:=r.n≠[]∧r.d≠[]∧r.n=words (val r.n)∧r.d=words (val r.d)∧Nat.gcd (val r.n) (val r.d)=1
instance(r:Raw):Decidable r.l7:=by unfold Raw.l7;infer_instance
def Raw.valid(r:Raw):Bool:=if r.n=[]∧r.d=[]then !r.s else decide r.l7
def Raw.q(r:Raw):Rat:=if r.l7 then mkRat (g' r.s (val r.n)) (val r.d)else 0
def jR(q:Rat):Raw:=if q.num=0 then⟨false,[],[]⟩else⟨decide (q.num<0),words q.num.natAbs,words q.den⟩
def F(q:Rat):D:=(jR q).AH
def wZ(k:Nat)(x:D)(q:Rat):Prop:=∃r:Raw,x=r.AH∧r.ok k∧r.q=q
def gU(k:Nat)(q:Rat):Prop:=(words q.num.natAbs).length≤k∧(words q.den).length≤k∧0<k
theorem r8{n:Nat}(h:0<n):words n≠[]:=fun e=>by
 have:=aX n;rw[e]at this;have a:val []=0:=rfl;omega
theorem eK(s:Bool)(n:Nat):(g' s n).natAbs=n:=by cases s<;>simp[g']
theorem Raw.GO{r:Raw}(h:r.l7):0<val r.d:=by
 rcases alT (val r.d)with e|e
 ·obtain⟨-,b,-,a,-⟩:=h
  rw[e]at a;exact apC a b
 ·exact e
theorem Raw.GN{r:Raw}(h:r.l7):0<val r.n:=by
 rcases alT (val r.n)with e|e
 ·obtain⟨b,-,a,-,-⟩:=h
  rw[e]at a;exact apC a b
 ·exact e
theorem Raw.Bf{r:Raw}(h:r.l7):r.q.num=g' r.s (val r.n)∧r.q.den=val r.d:=by
 have b:=Raw.GO h;obtain⟨-,-,-,-,a⟩:=id h;unfold Raw.q;rw[apB h,Rat.num_mkRat,Rat.den_mkRat,apA (by omega),apA (by omega),eK,aow,a]
 exact⟨Int.ediv_one _,amN _⟩
theorem Raw.Qs{r:Raw}(h:¬r.l7):r.q=0:=by unfold Raw.q;rw[apA h]
theorem FY{q:Rat}(h:q.num≠0):(jR q).l7:=by
 unfold jR;rw[apA h];refine⟨r8 (by omega),r8 q.den_pos,?_,?_,?_⟩
 ·show words _=words (val (words _));rw[aX]
 ·show words _=words (val (words _));rw[aX]
 ·show Nat.gcd (val (words _)) (val (words _))=1
  rw[aX,aX];exact q.reduced
theorem adA(i:Int):g' (decide (i<0)) i.natAbs=i:=by
 by_cases h:i<0
 ·rw[apD h];show -(i.natAbs:Int)=i;omega
 ·rw[apE h];show(i.natAbs:Int)=i;omega
theorem ada(q:Rat):(jR q).q=q:=by
 by_cases h:q.num=0
 ·have:q=0:=ao8.1 h
  subst this;rfl
 ·have b:=FY h
  have a:=Raw.Bf b;refine Rat.ext ?_ ?_
  ·rw[a.1];unfold jR;rw[apA h]
   show g' _ (val (words _))=_;rw[aX,adA]
  ·rw[a.2];unfold jR;rw[apA h]
   exact aX _
theorem gU.ok{k:Nat}{q:Rat}(h:gU k q):(jR q).ok k:=by
 unfold jR;split
 ·exact⟨(fun x a=>by cases a),(fun x a=>by cases a),amd _,amd _,h.2.2⟩
 ·exact⟨bb _,bb _,h.1,h.2.1,h.2.2⟩
theorem gU.tW{k:Nat}{q:Rat}(h:gU k q):wZ k (F q) q:=⟨jR q,rfl,h.ok,ada q⟩
theorem EW:(words 1).length=1:=rfl
theorem Raw.ok.sz{k:Nat}{r:Raw}(h:r.ok k):gU k r.q:=by
 obtain⟨l,j,d,c,b⟩:=h;by_cases a:r.l7
 ·obtain⟨i,g⟩:=Raw.Bf a
  obtain⟨-,-,f,e,-⟩:=a;refine⟨?_,?_,b⟩
  ·rw[i,eK,←f];exact d
  ·rw[g,←e];exact c
 ·rw[Raw.Qs a]
  exact⟨amd _,by show(words 1).length≤k;rw[EW];omega,b⟩
theorem wZ.sz{k:Nat}{x:D}{q:Rat}(h:wZ k x q):gU k q:=by
 obtain⟨r,-,h,rfl⟩:=h;exact h.sz
theorem gU.mono{k l:Nat}{q:Rat}(h:gU k q)(a:k≤l):gU l q:=⟨alJ h.1 a,alJ h.2.1 a,by have:=h.2.2;omega⟩
theorem Kd{k:Nat}(h:0<k):gU k 0:=⟨amd _,by show(words 1).length≤k;rw[EW];omega,h⟩
theorem IP{k:Nat}{n d:Int}(b:0<k)(c:(words n.natAbs).length≤k)(f:(words d.natAbs).length≤k):gU k (Rat.divInt n d):=by
 by_cases a:d=0
 ·subst a;rw[Rat.divInt_zero];exact Kd b
 ·refine⟨?_,?_,b⟩
  ·rw[Rat.num_divInt]
   refine alJ (cE ?_) c;have h:d.sign*n=n∨d.sign*n= -n:=by
    rcases lU d with⟨_,e⟩|⟨_,e⟩|⟨_,e⟩
    ·right;rw[e];omega
    ·omega
    ·left;rw[e];omega
   have g:∀m:Int,(m/((d.gcd n:Nat):Int)).natAbs≤m.natAbs:=fun m=>Int.natAbs_ediv_le_natAbs m _
   have:=g (d.sign*n);rcases h with e|e
   ·rw[e]at this⊢;exact this
   ·rw[e,anZ]at this;rw[e];exact this
  ·rw[Rat.den_divInt,apA a]
   exact alJ (cE (amC _ _)) f
theorem XP{k:Nat}{n:Int}{d:Nat}(c:0<k)(a:(words n.natAbs).length≤k)(b:(words d).length≤k):gU k (mkRat n d):=by
 rw[←apv];exact IP c a b
theorem xQ{a b:Int}:(words (a*b).natAbs).length≤(words a.natAbs).length+(words b.natAbs).length:=by rw[anz];exact EX
theorem Nx{a b:Int}:(words (a+b).natAbs).length≤max (words a.natAbs).length (words b.natAbs).length+1:=by
 refine alJ (cE (Int.natAbs_add_le a b)) EY
theorem gU.neg{k:Nat}{a:Rat}(h:gU k a):gU k (-a):=by
 unfold gU;rw[Rat.neg_num,Rat.neg_den,anZ];exact h
theorem gU.add{k l:Nat}{a b:Rat}(d:gU k a)(c:gU l b):gU (k+l+1) (a+b):=by
 rw[Rat.add_def'];have f:=xQ (a:=a.num) (b:=(b.den:Int));have e:=xQ (a:=b.num) (b:=(a.den:Int));have h:=Nx (a:=a.num*b.den) (b:=b.num*a.den);have g:=EX (a:=a.den) (b:=b.den);rw[amW]at f e;unfold gU at d c;exact XP (by omega) (by omega) (by omega)
theorem gU.sub{k l:Nat}{a b:Rat}(d:gU k a)(c:gU l b):gU (k+l+1) (a-b):=by rw[aoj];exact d.add c.neg
theorem aeK{n d:Int}(i:n≠0)(j:0<d):F (Rat.divInt n d)=.agg [bool (decide (n<0)),az (words (n.natAbs/Int.gcd n d)),az (words (d.natAbs/Int.gcd n d))]:=by
 have s:0<Int.gcd n d:=by unfold Int.gcd;exact anV _ (by omega)
 have g:d.sign=1:=an0 j;have b:((Int.gcd n d:Nat):Int)∣n:=Int.gcd_dvd_left n d;have r:(Rat.divInt n d).num=n/(Int.gcd n d:Nat):=by rw[Rat.num_divInt,g,Int.one_mul,Int.gcd_comm]
 have q:(Rat.divInt n d).den=d.natAbs/Int.gcd n d:=by rw[Rat.den_divInt,apA (by omega),Int.gcd_comm]
 obtain⟨m,a⟩:=b;have p:n/((Int.gcd n d:Nat):Int)=m:=Int.ediv_eq_of_eq_mul_right (by omega) a
 have o:n.natAbs=Int.gcd n d*m.natAbs:=by have:=apF Int.natAbs a;rwa [anz,amW]at this
 have l:n.natAbs/Int.gcd n d=m.natAbs:=Nat.div_eq_of_eq_mul_right s o;have c:m≠0:=fun e=>by rw[e,Int.mul_zero]at a;exact i a
 have k:(m<0)↔(n<0):=by
  have f:(0:Int)<(Int.gcd n d:Nat):=by omega
  rcases Int.lt_or_gt_of_ne c with h|h
  ·have:=Int.mul_neg_of_pos_of_neg f h
   exact⟨fun _=>by rw[a];exact this,fun _=>h⟩
  ·have:=Int.mul_pos f h
   rw[←a]at this;constructor<;>intro<;>omega
 unfold F jR;rw[r,p,apA c,q,l];show D.agg [bool (decide (m<0)),_,_]=_;rw[decide_eq_decide.2 k]
def Dl(a b:Rat):Int:=if a<b then -1 else if b<a then 1 else 0
theorem RJ(a b:Rat):zx (a.num*b.den) (b.num*a.den)=Dl a b:=by
 unfold zx Dl;simp only[Rat.lt_iff]
def rW(a:Rat):Int:=a.num.sign
theorem Mw{a:Rat}:rW a=0↔a=0:=by unfold rW;rw[Int.sign_eq_zero_iff_zero,ao8]
theorem acT{a:Rat}:rW a<0↔a<0:=by
 unfold rW;rw[Rat.lt_iff];simp only[Rat.zero_num,Rat.zero_den,Int.zero_mul];rcases lU a.num with⟨h,e⟩|⟨h,e⟩|⟨h,e⟩<;>omega
theorem uP(a:Rat):(a<0∧rW a= -1)∨(a=0∧rW a=0)∨(0<a∧rW a=1):=by
 have f:=Mw (a:=a);have d:=acT (a:=a);rcases lU a.num with⟨h,e⟩|⟨h,e⟩|⟨h,e⟩
 ·exact .inl ⟨d.1 (by unfold rW;omega),e⟩
 ·exact .inr (.inl ⟨f.1 e,e⟩)
 ·refine .inr (.inr ⟨?_,e⟩)
  have c:¬a<0:=fun b=>by have:=d.2 b;unfold rW at this;omega
  have g:a≠0:=fun b=>by have:=f.2 b;unfold rW at this;omega
  rw[Rat.not_lt]at c;exact Rat.lt_of_le_of_ne c (anm g)
theorem abk(a b:Rat):rW (a-b)=Dl a b:=by
 unfold Dl;rcases uP (a-b)with⟨h,e⟩|⟨h,e⟩|⟨h,e⟩
 ·have:a<b:=by grind
  rw[apB this,e]
 ·have:a=b:=by grind
  subst this;rw[e,apA apj,apA apj]
 ·have d:b<a:=by grind
  have c:¬a<b:=by grind
  rw[apA c,apB d,e]
end Lw
namespace Lw
open Go Go.RowKit Go.Proofs
variable {G:World→Prop}
theorem Bl(a:aa G):Spec zZq G 72 [] (W 1):=
 Spec.r a func72 [] [.call (TW a (i:=1) (by omega) (by omega))]
theorem wP(n:Nat):Full (words n)=true:=by unfold Full;rw[aX];simp
theorem BU{l:List Nat}(h:Full l=true):∃n,l=words n:=⟨val l,by unfold Full at h;simpa using h⟩
theorem NY(s:Bool)(N M:Nat)(a:0<N)(b:0<M):(Raw.mk s (words N) (words M)).l7↔Nat.gcd N M=1:=by
 unfold Raw.l7;simp only[aX];exact⟨fun h=>h.2.2.2.2,fun h=>⟨r8 a,r8 b,trivial,trivial,h⟩⟩
theorem TI(g:Nat):(zx (g:Int) 1==0)=decide (g=1):=by
 unfold zx;by_cases h:g=1
 ·subst h;rfl
 ·rw[apE h]
  by_cases a:(g:Int)<1
  ·rw[apB a];rfl
  ·rw[apA a,apB (by omega)];rfl
theorem km{l:List Nat}(h:l≠[]):(zNq l.length==0)=false:=by
 rw[beq_eq_false_iff_ne];have:=amJ.2 h;simp only[Int.ofNat_eq_natCast];omega
def KB:Nat:=2199023255552
theorem pd:KB=2199023255552:=rfl
theorem Sb(f:aa G){s t:Bool}{m n:Nat}(b:s=true→0<m)(a:t=true→0<n)(d:Sz m)(c:Sz n):Spec zZq G 108 [wv s m,wv t n] (wv false (Nat.gcd m n)):=by
 have h:=ab5 (G:=G) f (i:=g' s m) (j:=g' t n) (by unfold n8;rw[eK];exact d) (by unfold n8;rw[eK];exact c)
 rw[oD b,oD a,Ef]at h;have e:Int.gcd (g' s m) (g' t n)=Nat.gcd m n:=by unfold Int.gcd;rw[eK,eK]
 rw[e]at h;exact h
theorem Fg(d:aa G){m n:Nat}(a:0<n)(c:Sz m)(b:Sz n):Spec zZq G 133 [wv false m,wv false n] (.aY [wv false (m/n),wv false (m%n),.lit .nilIface]):=
 ab8 d (s:=false) (t:=false) (by simp) (by simp) a c b (.inl rfl)
theorem aeL(a:aa G){g:Nat}(h:Sz g):Spec zZq G 67 [wv false g,W 1] (int (zx (g:Int) 1)):=by
 have:=yq (G:=G) a (i:=(g:Int)) (j:=1) h (by unfold n8 Sz;decide)
 rw[Ef]at this;exact this
theorem qC(a:aa G){r:Raw}{k:Nat}(q:r.ok k)(u:k≤KB):Spec zZq G 42 [r.AH] (bool r.valid):=by
 have x:=apK;have A:=apJ;obtain⟨s,n,d⟩:=r;obtain⟨j,l,o,p,-⟩:=q;simp only at j l o p;rw[pd]at u;by_cases b:n=[]
 ·subst b
  by_cases f:d=[]
  ·subst f
   exact Spec.r a func42 [1] []
  ·have c:(Raw.mk s [] d).valid=false:=by
    unfold Raw.valid;rw[apA (fun h=>f h.2)]
    exact apE fun h=>h.1 rfl
   rw[c];exact Spec.r a func42 [1] [.eb 13 (km f)]
 ·have g:(Raw.mk s n d).valid=decide (Raw.mk s n d).l7:=by unfold Raw.valid;rw[apA (fun h=>b h.1)]
  by_cases f:d=[]
  ·subst f
   have c:(Raw.mk s n []).valid=false:=by rw[g];exact apE fun h=>h.2.1 rfl
   rw[c];exact Spec.r a func42 [1] [.eb 8 (km b),.eb 27 (km b)]
  ·have v1:=JX (G:=G) a j (by omega)
   have v2:=JX (G:=G) a l (by omega)
   cases f1:Full n with
   |false=>
    rw[f1]at v1;have c:(Raw.mk s n d).valid=false:=by
     rw[g];refine apE fun h=>?_
     have i:n=words (val n):=h.2.2.1;rw[i,wP]at f1;cases f1
    rw[c];exact Spec.r a func42 [1] [.eb 8 (km b),.eb 27 (km b),.eb 32 (km f),.call v1]
   |true=>
    rw[f1]at v1;cases f2:Full d with
    |false=>
     rw[f2]at v2;have c:(Raw.mk s n d).valid=false:=by
      rw[g];refine apE fun h=>?_
      have i:d=words (val d):=h.2.2.2.1;rw[i,wP]at f2;cases f2
     rw[c];exact Spec.r a func42 [1] [.eb 8 (km b),.eb 27 (km b),.eb 32 (km f),.call v1,.call v2]
    |true=>
     rw[f2]at v2;obtain⟨N,rfl⟩:=BU f1;obtain⟨M,rfl⟩:=BU f2;have v:0<N:=by rcases alT N with e|e;(·subst e;exact apC rfl b);exact e
     have w:0<M:=by rcases alT M with e|e;(·subst e;exact apC rfl f);exact e
     have z:Sz (Nat.gcd N M):=by unfold Sz;exact tU (by omega) (by omega)
     have y:=Sb (G:=G) a (s:=false) (t:=false) (m:=N) (n:=M) (by simp) (by simp) (by unfold Sz;omega) (by unfold Sz;omega)
     have c:(Raw.mk s (words N) (words M)).valid=decide (Nat.gcd N M=1):=by rw[g];exact decide_eq_decide.2 (NY s N M v w)
     rw[c];exact Spec.r a func42 [1] [.eb 8 (km b),.eb 27 (km b),.eb 32 (km f),.call v1,.call v2,.call y,.call (Bl a),.call (aeL a z),.eb 49 (TI (Nat.gcd N M))]
theorem Hs(n:Nat)(h:n≤2^44)(l:List D)(c:l.length=n):([]:List D).length=0*1∧l.length=n*1∧0+n≤2^62∧(0+n)*4≤2^47:=by
 have b:=apJ;have a:=apN;have d:=apM;exact⟨rfl,by omega,by omega,by omega⟩
theorem zk(l:List Nat):D.row (0+l.length) false ([]++l.map u32)=az l:=by unfold az;rw[amv,anf]
theorem Raw.bad{r:Raw}(h:¬r.l7):r.valid=false∨r=⟨false,[],[]⟩:=by
 obtain⟨s,n,d⟩:=r;unfold Raw.valid;split
 ·rename_i a
  simp only at a;obtain⟨rfl,rfl⟩:=a;cases s with
  |true=>exact .inl rfl
  |false=>exact .inr rfl
 ·exact .inl (apE h)
theorem Raw.Ay{r:Raw}(h:r.l7):r.valid=true:=by
 unfold Raw.valid;rw[apA (fun a=>h.1 a.1)]
 exact apD h
theorem R8(b:aa G){r:Raw}{k:Nat}(f:r.ok k)(g:k≤KB):Spec zZq G 66 [r.AH] (.aY [W r.q.num,W r.q.den]):=by
 have y:=apJ;have c:=qC (G:=G) b f g;by_cases a:r.l7
 ·obtain⟨x,w⟩:=Raw.Bf a
  have e:=Raw.GN a;have q:=Raw.GO a;rw[Raw.Ay a]at c;rw[x,w,oD (fun _=>e),Ef]
  obtain⟨s,n,d⟩:=r;obtain⟨-,-,t,u,-⟩:=f;obtain⟨l,v,j,i,-⟩:=a;simp only at t u l v j i e q⊢;rw[pd]at g;have o:wv s (val n)=.agg [bool s,az n]:=by unfold wv;rw[←j]
  have m:wv (false&&decide (0<val d)) (val d)=.agg [bool false,az d]:=by unfold wv;rw[←i];rfl
  rw[o,m];exact Spec.r b func66 [1,20,26] [.call c,.eb 11 (km l),.prop (p:=0<1∧1≤3) (by decide),.prop (p:=0<1∧1≤2) (by decide),.prop (Hs n.length (by omega) (n.map u32) (by simp)),.eq 20 (zk n),.prop (p:=0+2≤2) (by decide),.prop (p:=0<2∧0+2≤2) (by decide),.prop (p:=0<1∧1≤1) (by decide),.prop (Hs d.length (by omega) (d.map u32) (by simp)),.eq 26 (zk d)]
 ·rw[Raw.Qs a]
  rcases Raw.bad a with h|h
  ·rw[h]at c
   exact Spec.r b func66 [1] [.call c,.call (Bl b)]
  ·subst h
   exact Spec.r b func66 [1] [.call c,.call (Bl b)]
theorem aaA(a:aa G){s:Bool}{m e:Nat}(d:0<m)(p:0<e)(b:Sz m)(f:Sz e):
  Spec zZq G 71 [wv s m,wv false e] (.agg [bool s,az (words (m/Nat.gcd m e)),az (words (e/Nat.gcd m e))]):=by
 have k:0<Nat.gcd m e:=anV _ d;have l:Sz (Nat.gcd m e):=by unfold Sz at*;exact tU b f
 have c:=yB (G:=G) a (s:=s) (n:=m) (fun _=>d) b.ba
 have g:=yB (G:=G) a (s:=false) (n:=e) (by simp) f.ba
 rw[apA (by omega)]at c g
 have j:=Sb (G:=G) a (s:=s) (t:=false) (m:=m) (n:=e) (fun _=>d) (by simp) b f
 have i:=Fg (G:=G) a k b l;have h:=Fg (G:=G) a k f l;cases s with
 |false=>exact Spec.r a func71 [] [.call c,.call g,.call j,.call c,.call i,.call h]
 |true=>
  have o:=HB (G:=G) a (s:=true) (n:=m) (fun _=>d) b.ba
  exact Spec.r a func71 [] [.call c,.call g,.call j,.call c,.call o,.call i,.call h]
theorem aaB(a:aa G){s:Bool}{m e:Nat}(b:0<m)(p:0<e)(c:Sz m)(f:Sz e):
  Spec zZq G 71 [wv s m,wv true e] (.agg [bool !s,az (words (m/Nat.gcd m e)),az (words (e/Nat.gcd m e))]):=by
 have q:0<Nat.gcd m e:=anV _ b;have r:Sz (Nat.gcd m e):=by unfold Sz at*;exact tU c f
 have i:=yB (G:=G) a (s:=s) (n:=m) (fun _=>b) c.ba
 have d:=yB (G:=G) a (s:= !s) (n:=m) (fun _=>b) c.ba
 have h:=yB (G:=G) a (s:=true) (n:=e) (fun _=>p) f.ba
 rw[apA (by omega)]at i d h
 have o:=Sb (G:=G) a (s:= !s) (t:=false) (m:=m) (n:=e) (fun _=>b) (by simp) c f
 have l:=Fg (G:=G) a q c r;have k:=Fg (G:=G) a q f r;have g:=HB (G:=G) a (s:=s) (n:=m) (fun _=>b) c.ba
 have j:=HB (G:=G) a (s:=true) (n:=e) (fun _=>p) f.ba
 have u:decide (0<m)=true:=apD b;rw[u,aoD]at g;cases s with
 |true=>exact Spec.r a func71 [] [.call i,.call h,.call g,.call j,.call o,.call d,.call l,.call k]
 |false=>
  have v:=HB (G:=G) a (s:=true) (n:=m) (fun _=>b) c.ba
  exact Spec.r a func71 [] [.call i,.call h,.call g,.call j,.call o,.call d,.call v,.call l,.call k]
theorem VF(a:aa G)(d:Int):Spec zZq G 71 [W 0,W d] (F 0):=by
 have b:=oz (G:=G) a (i:=0) (by unfold n8 Sz;decide)
 exact Spec.r a func71 [3] [.call b]
theorem B1(s:Bool){m:Nat}(h:0<m):decide (g' s m<0)=s:=by
 cases s with
 |false=>exact apE (by show¬(m:Int)<0;omega)
 |true=>exact apD (by show -(m:Int)<0;omega)
theorem Gk(s:Bool){m:Nat}(h:0<m):g' s m≠0:=by cases s<;>simp[g']<;>omega
theorem vf(f:aa G){n d:Int}(u:d≠0)(b:n8 n)(c:n8 d):Spec zZq G 71 [W n,W d] (F (Rat.divInt n d)):=by
 by_cases h:n=0
 ·subst h;rw[Rat.zero_divInt];exact VF f _
 ·obtain⟨s,m,rfl,k,l⟩:=mC n
  obtain⟨t,e,rfl,j,o⟩:=mC d;unfold n8 at b c;rw[←l]at b;rw[←o]at c;have a:0<m:=by rcases alT m with q|q;(·subst q;exact apC (by cases s<;>rfl) h);exact q
  have i:0<e:=by rcases alT e with q|q;(·subst q;exact apC (by cases t<;>rfl) u);exact q
  rw[oD k,oD j];cases t with
  |false=>
   rw[aeK (Gk s a) (by show(0:Int)<(e:Int);omega),B1 s a,eK,eK]
   have g:Int.gcd (g' s m) (g' false e)=Nat.gcd m e:=by unfold Int.gcd;rw[eK,eK]
   rw[g];exact aaA f a i b c
  |true=>
   have r:g' s m= -(g' (!s) m):=by cases s<;>simp[g']
   have p:g' true e= -(g' false e):=rfl;rw[r,p,Rat.neg_divInt_neg,aeK (Gk (!s) a) (by show(0:Int)<(e:Int);omega),B1 (!s) a,eK,eK]
   have g:Int.gcd (g' (!s) m) (g' false e)=Nat.gcd m e:=by unfold Int.gcd;rw[eK,eK]
   rw[g];exact aaB f a i b c
end Lw
namespace Lw
open Go Go.RowKit Go.Proofs
variable {G:World→Prop}
theorem JW(a b:Rat):Rat.divInt (a.num*b.den+b.num*a.den) ((a.den:Int)*b.den)=a+b:=by
 rw[Rat.add_def',←Int.natCast_mul,apv]
theorem U2(a b:Rat):Rat.divInt (a.num*b.num) ((a.den:Int)*b.den)=a*b:=by
 rw[Rat.mul_def',←Int.natCast_mul,apv]
theorem Jf(a:Rat):Rat.divInt (-a.num) a.den= -a:=by rw[←Rat.neg_divInt,aop]
theorem VR(a b:Rat):Rat.divInt (a.num*b.den) ((a.den:Int)*b.num)=a/b:=by
 rw[aoO,Rat.inv_def]
 conv=>rhs;rw[←aop a]
 rw[Rat.divInt_mul_divInt]
theorem AG(a:Rat):((a.den:Nat):Int)≠0:=by have:=a.den_pos;omega
theorem Ln(a b:Rat):((a.den:Nat):Int)*(b.den:Nat)≠0:=by rw[←Int.natCast_mul];have:=amK a.den_pos b.den_pos;omega
theorem H5(n:Int):Rat.divInt n 1=(n:Rat):=by
 have:=aop (n:Rat);rw[Rat.num_intCast,Rat.den_intCast]at this;exact this
theorem wZ.num{k:Nat}{x:D}{a:Rat}(h:wZ k x a)(b:k≤KB):n8 a.num:=by
 have d:=h.sz.1;rw[pd]at b;unfold n8 Sz;have c:=apK;omega
theorem wZ.den{k:Nat}{x:D}{a:Rat}(h:wZ k x a)(b:k≤KB):n8 ((a.den:Nat):Int):=by
 have d:=h.sz.2.1;rw[pd]at b;unfold n8 Sz;have c:=apK;rw[amW];omega
theorem m5{k l:Nat}{i j:Int}(g:(words i.natAbs).length≤k)(f:(words j.natAbs).length≤l)(d:k≤KB)(c:l≤KB):n8 (i*j):=by
 have:=xQ (a:=i) (b:=j);rw[pd]at d c;unfold n8 Sz;have e:=apK;omega
theorem wZ.zw{k:Nat}{x:D}{a:Rat}(h:wZ k x a):(words ((a.den:Nat):Int).natAbs).length≤k:=by rw[amW];exact h.sz.2.1
theorem Su{k l:Nat}{x y:D}{a b:Rat}(d:wZ k x a)(c:wZ l y b)(f:k≤KB)(e:l≤KB):n8 (a.num*b.den+b.num*a.den):=by
 have j:=xQ (a:=a.num) (b:=((b.den:Nat):Int));have i:=xQ (a:=b.num) (b:=((a.den:Nat):Int));have h:=Nx (a:=a.num*b.den) (b:=b.num*a.den);have:=d.sz.1;have:=c.sz.1;have:=d.zw;have:=c.zw;rw[pd]at f e;unfold n8 Sz;have g:=apK;omega
theorem wZ.parts{k:Nat}{x:D}{a:Rat}(d:aa G)(h:wZ k x a)(c:k≤KB):Spec zZq G 66 [x] (.aY [W a.num,W a.den]):=by
 obtain⟨r,rfl,b,rfl⟩:=h;exact R8 d b c
theorem vu(g:aa G){k l:Nat}{x y:D}{a b:Rat}(d:wZ k x a)(c:wZ l y b)(f:k≤KB)(e:l≤KB):Spec zZq G 112 [x,y] (F (a+b)):=by
 have i:=d.parts g f;have h:=c.parts g e;have n:=kP (G:=G) g (d.num f) (c.den e);have m:=kP (G:=G) g (c.num e) (d.den f);have j:=kP (G:=G) g (d.den f) (c.den e);have s1:=Cj (G:=G) g (m5 d.sz.1 c.zw f e) (m5 c.sz.1 d.zw e f);have f1:=vf (G:=G) g (Ln a b) (Su d c f e) (m5 d.zw c.zw f e);rw[JW]at f1;obtain⟨r,rfl,-,rfl⟩:=d;obtain⟨q,rfl,-,rfl⟩:=c;exact Spec.r g func112 [2,3] [.call i,.call h,.call n,.call m,.call s1,.call j,.call f1]
theorem DD(e:aa G){k l:Nat}{x y:D}{a b:Rat}(d:wZ k x a)(c:wZ l y b)(g:k≤KB)(f:l≤KB):Spec zZq G 45 [x,y] (F (a*b)):=by
 have i:=d.parts e g;have h:=c.parts e f;have m:=kP (G:=G) e (d.num g) (c.num f);have j:=kP (G:=G) e (d.den g) (c.den f);have f1:=vf (G:=G) e (Ln a b) (m5 d.sz.1 c.sz.1 g f) (m5 d.zw c.zw g f);rw[U2]at f1;obtain⟨r,rfl,-,rfl⟩:=d;obtain⟨q,rfl,-,rfl⟩:=c;exact Spec.r e func45 [2,3] [.call i,.call h,.call m,.call j,.call f1]
theorem J3(d:aa G){k:Nat}{x:D}{a:Rat}(b:wZ k x a)(c:k≤KB):Spec zZq G 134 [x] (F (-a)):=by
 have e:=b.parts d c;have f:=ym (G:=G) d (b.num c);have f1:=vf (G:=G) d (AG a) (n:= -a.num) (by have:=b.num c;unfold n8 at this⊢;rw[anZ];exact this) (b.den c)
 rw[Jf]at f1;obtain⟨r,rfl,-,rfl⟩:=b;exact Spec.r d func134 [1] [.call e,.call f,.call f1]
theorem J2(d:aa G){k l:Nat}{x y:D}{a b:Rat}(e:wZ k x a)(c:wZ l y b)(h:k≤KB)(f:l≤KB):Spec zZq G 70 [x,y] (F (a-b)):=by
 have g:=J3 d c f;have s1:=vu d e c.sz.neg.tW h f;rw[←aoj]at s1;obtain⟨r,rfl,-,rfl⟩:=e;obtain⟨q,rfl,-,rfl⟩:=c;exact Spec.r d func70 [2,3] [.call g,.call s1]
theorem tx(c:aa G){k:Nat}{x:D}{a:Rat}(b:wZ k x a)(d:k≤KB):Spec zZq G 43 [x] (int (rW a)):=by
 have e:=b.parts c d;have f:=oz (G:=G) c (b.num d);obtain⟨r,rfl,-,rfl⟩:=b;exact Spec.r c func43 [1] [.call e,.call f]
theorem J4(e:aa G){k l:Nat}{x y:D}{a b:Rat}(d:wZ k x a)(c:wZ l y b)(g:k≤KB)(f:l≤KB):Spec zZq G 25 [x,y] (int (Dl a b)):=by
 have j:=d.parts e g;have i:=c.parts e f;have n:=kP (G:=G) e (d.num g) (c.den f);have m:=kP (G:=G) e (c.num f) (d.den g);have h:=yq (G:=G) e (m5 d.sz.1 c.zw g f) (m5 c.sz.1 d.zw f g);rw[RJ]at h;obtain⟨r,rfl,-,rfl⟩:=d;obtain⟨q,rfl,-,rfl⟩:=c;exact Spec.r e func25 [2,3] [.call j,.call i,.call n,.call m,.call h]
theorem acw:n8 1:=by unfold n8 Sz;decide
theorem Uj{i:Int}(h: -9223372036854775808≤i)(c:i<9223372036854775808):n8 i:=by
 unfold n8 Sz;have b:(words i.natAbs).length≤2:=(aZ _ _).2 (by rw[show BP 2=18446744073709551616 from rfl];omega)
 have a:=apK;omega
theorem dA(a:aa G){i:Int}(h: -9223372036854775808≤i)(b:i<9223372036854775808):Spec zZq G 28 [int i] (F (i:Rat)):=by
 have f1:=vf (G:=G) a (n:=i) (d:=1) (by omega) (Uj h b) acw
 rw[H5]at f1;exact Spec.r a func28 [] [.call (TW a h b),.call (Bl a),.call f1]
theorem acN{i:Int}(h:i≠0):(i.sign==0)=false:=by rw[beq_eq_false_iff_ne];intro a;exact h (Int.sign_eq_zero_iff_zero.1 a)
theorem W8(a:aa G){n d:Int}(c:d≠0)(e:n8 n)(b:n8 d):Spec zZq G 61 [W n,W d] (.aY [F (Rat.divInt n d),.lit .nilIface]):=
 Spec.r a func61 [2,3] [.call (oz a b),.eb 8 (acN c),.call (vf a c e b)]
theorem DE(e:aa G){k l:Nat}{x y:D}{a b:Rat}(d:wZ k x a)(c:wZ l y b)(g:k≤KB)(f:l≤KB)(o:b≠0):
  Spec zZq G 320 [x,y] (.aY [F (a/b),.lit .nilIface]):=by
 have j:=d.parts e g;have i:=c.parts e f;have n:=kP (G:=G) e (d.num g) (c.den f);have m:=kP (G:=G) e (d.den g) (c.num f);have p:((a.den:Nat):Int)*b.num≠0:=Int.mul_ne_zero (AG a) (fun h=>o (ao8.1 h))
 have f1:=W8 (G:=G) e p (m5 d.sz.1 c.zw g f) (m5 d.zw c.sz.1 g f);rw[VR]at f1;obtain⟨r,rfl,-,rfl⟩:=d;obtain⟨q,rfl,-,rfl⟩:=c;exact Spec.r e func320 [2,3] [.call j,.call i,.call n,.call m,.call f1]
end Lw
namespace Lw
open Go Go.RowKit Go.Proofs
variable {G:World→Prop}
theorem CC(a:aa G):Spec zZq G 104 [] (W 1):=
 Spec.r a func104 [] [.call (abU a (i:=1) (by omega) (by omega))]
theorem I4(a:aa G):Spec zZq G 101 [az []] (bool false):=
 Spec.r a func101 [] []
theorem F5(c:aa G){l:List Nat}(b:fS l)(e:l.length≤2^44)(h:l≠[]):Spec zZq G 101 [az l] (bool (Full l)):=by
  have d:=apJ;have a:0<l.length:=amJ.2 h;rw[Jw b h];exact Spec.r c func101 [] [.eb 5 (x:=decide (zNq l.length>0)) (y:=true) (by simp;omega),.eq 10 (bQ (kG (i:=l.length) (by omega) a)),.prop (c9 (l:=l) (i:=l.length-1) (by omega)),.prop (bu (l:=l) (i:=l.length-1) (by omega)),.eq 12 (a8 (l:=l) (i:=l.length-1) (by omega)),
     .eb 13 (x:=(zNq (l.getD (l.length-1) 0) !=0)) (y:= !(l.getD (l.length-1) 0==0)) (by rw[am3];simp)]
theorem LP(f:aa G){s t:Bool}{m n:Nat}(b:s=true→0<m)(a:t=true→0<n)(d:Sz m)(c:Sz n):Spec zZq G 103 [wv s m,wv t n] (wv false (Nat.gcd m n)):=by
 have h:=WV (G:=G) f (i:=g' s m) (j:=g' t n) (by unfold n8;rw[eK];exact d) (by unfold n8;rw[eK];exact c)
 rw[oD b,oD a,Ef]at h;have e:Int.gcd (g' s m) (g' t n)=Nat.gcd m n:=by unfold Int.gcd;rw[eK,eK]
 rw[e]at h;exact h
theorem abV(a:aa G){g:Nat}(h:(words g).length<2^43):Spec zZq G 102 [wv false g,W 1] (int (zx (g:Int) 1)):=by
 have:=WX (G:=G) a (i:=(g:Int)) (j:=1) h (by decide)
 rw[Ef]at this;exact this
theorem mB(a:aa G){r:Raw}{k:Nat}(q:r.ok k)(u:k≤KB):Spec zZq G 40 [r.AH] (bool r.valid):=by
 have x:=apK;have A:=apJ;obtain⟨s,n,d⟩:=r;obtain⟨o,p,j,l,-⟩:=q;simp only at o p j l;rw[pd]at u;by_cases c:n=[]
 ·subst c
  by_cases f:d=[]
  ·subst f
   exact Spec.r a func40 [1] []
  ·have b:(Raw.mk s [] d).valid=false:=by
    unfold Raw.valid;rw[apA (fun h=>f h.2)]
    exact apE fun h=>h.1 rfl
   rw[b];exact Spec.r a func40 [1] [.eb 11 (km f),.call (I4 a)]
 ·have g:(Raw.mk s n d).valid=decide (Raw.mk s n d).l7:=by unfold Raw.valid;rw[apA (fun h=>c h.1)]
  have v1:=F5 (G:=G) a o (by omega) c
  cases f1:Full n with
  |false=>
   rw[f1]at v1;have b:(Raw.mk s n d).valid=false:=by
    rw[g];refine apE fun h=>?_
    have i:n=words (val n):=h.2.2.1;rw[i,wP]at f1;cases f1
   rw[b];exact Spec.r a func40 [1] [.eb 6 (km c),.call v1]
  |true=>
   rw[f1]at v1;by_cases f:d=[]
   ·subst f
    have b:(Raw.mk s n []).valid=false:=by rw[g];exact apE fun h=>h.2.1 rfl
    rw[b];exact Spec.r a func40 [1] [.eb 6 (km c),.call v1,.call (I4 a)]
   ·have v2:=F5 (G:=G) a p (by omega) f
    cases f2:Full d with
    |false=>
     rw[f2]at v2;have b:(Raw.mk s n d).valid=false:=by
      rw[g];refine apE fun h=>?_
      have i:d=words (val d):=h.2.2.2.1;rw[i,wP]at f2;cases f2
     rw[b];exact Spec.r a func40 [1] [.eb 6 (km c),.call v1,.call v2]
    |true=>
     rw[f2]at v2;obtain⟨N,rfl⟩:=BU f1;obtain⟨M,rfl⟩:=BU f2;have v:0<N:=by rcases alT N with e|e;(·subst e;exact apC rfl c);exact e
     have w:0<M:=by rcases alT M with e|e;(·subst e;exact apC rfl f);exact e
     have z:(words (Nat.gcd N M)).length<2^43:=by have:=tU (k:=k) j l;omega
     have y:=LP (G:=G) a (s:=false) (t:=false) (m:=N) (n:=M) (by simp) (by simp) (by unfold Sz;omega) (by unfold Sz;omega)
     have b:(Raw.mk s (words N) (words M)).valid=decide (Nat.gcd N M=1):=by rw[g];exact decide_eq_decide.2 (NY s N M v w)
     rw[b];exact Spec.r a func40 [1] [.eb 6 (km c),.call v1,.call v2,.call y,.call (CC a),.call (abV a z),.eb 34 (TI (Nat.gcd N M))]
theorem PD(b:aa G){r:Raw}{k:Nat}(o:r.ok k)(p:k≤KB):Spec zZq G 105 [r.AH] (.aY [W r.q.num,W r.q.den]):=by
 have c:=mB (G:=G) b o p;by_cases a:r.l7
 ·obtain⟨u,t⟩:=Raw.Bf a
  have e:=Raw.GN a;have m:=Raw.GO a;rw[Raw.Ay a]at c;rw[u,t,oD (fun _=>e),Ef]
  obtain⟨s,n,d⟩:=r;obtain⟨i,q,g,f,-⟩:=a;simp only at i q g f e m⊢;have l:wv s (val n)=.agg [bool s,az n]:=by unfold wv;rw[←g]
  have j:wv (false&&decide (0<val d)) (val d)=.agg [bool false,az d]:=by unfold wv;rw[←f];rfl
  rw[l,j];exact Spec.r b func105 [1] [.call c,.eb 11 (km i)]
 ·rw[Raw.Qs a]
  rcases Raw.bad a with h|h
  ·rw[h]at c
   exact Spec.r b func105 [1] [.call c,.call (CC b)]
  ·subst h
   exact Spec.r b func105 [1] [.call c,.call (CC b)]
theorem wM(i:aa G){s:Bool}{m g:Nat}(b:0<m)(a:0<g)(c:g∣m)(e:Sz m)(f:Sz g):
  Spec zZq G 326 [wv s m,wv false g] (.aY [wv s (m/g),wv (false&&decide (0<m%g)) (m%g),int 0]):=by
 have h:=WW (G:=G) i (s:=s) (t:=false) (m:=m) (n:=g) (fun _=>b) (by simp) a e f (.inr (aoN c))
 have d:0<m/g:=Nat.div_pos (Nat.le_of_dvd b c) a;rw[apD d,aoD,Bool.xor_false]at h;exact h
theorem UD(a:aa G){s:Bool}{m e:Nat}(b:0<m)(o:0<e)(c:Sz m)(d:Sz e):
  Spec zZq G 298 [wv s m,wv false e] (.agg [bool s,az (words (m/Nat.gcd m e)),az (words (e/Nat.gcd m e))]):=by
 have h:0<Nat.gcd m e:=anV _ b;have i:Sz (Nat.gcd m e):=by unfold Sz at*;exact tU c d
 have g:=tv (G:=G) a (s:=s) (n:=m) (fun _=>b) c.ba
 have f:=tv (G:=G) a (s:=false) (n:=e) (by simp) d.ba
 rw[apA (by omega)]at g f
 have l:=LP (G:=G) a (s:=s) (t:=false) (m:=m) (n:=e) (fun _=>b) (by simp) c d
 have k:=wM (G:=G) a (s:=s) b h (aoT m e) c i;have j:=wM (G:=G) a (s:=false) o h (aoL m e) d i;cases s<;>exact Spec.r a func298 [] [.call g,.call f,.call l,.call k,.call j]
theorem UE(a:aa G){s:Bool}{m e:Nat}(b:0<m)(f:0<e)(c:Sz m)(d:Sz e):
  Spec zZq G 298 [wv s m,wv true e] (.agg [bool !s,az (words (m/Nat.gcd m e)),az (words (e/Nat.gcd m e))]):=by
 have j:0<Nat.gcd m e:=anV _ b;have k:Sz (Nat.gcd m e):=by unfold Sz at*;exact tU c d
 have i:=tv (G:=G) a (s:=s) (n:=m) (fun _=>b) c.ba
 have h:=tv (G:=G) a (s:=true) (n:=e) (fun _=>f) d.ba
 rw[apA (by omega)]at i h
 have q:=LP (G:=G) a (s:= !s) (t:=false) (m:=m) (n:=e) (fun _=>b) (by simp) c d
 have p:=wM (G:=G) a (s:= !s) b j (aoT m e) c k;have o:=wM (G:=G) a (s:=false) f j (aoL m e) d k;have g:=LO (G:=G) a (s:=s) (n:=m) (fun _=>b) c.ba
 have l:=LO (G:=G) a (s:=true) (n:=e) (fun _=>f) d.ba
 rw[apD b,aoD]at g;cases s<;>exact Spec.r a func298 [] [.call i,.call h,.call g,.call l,.call q,.call p,.call o]
theorem Qm(a:aa G)(d:Int):Spec zZq G 298 [W 0,W d] (F 0):=by
 have b:=AP (G:=G) a (i:=0) (by unfold n8 Sz;decide)
 exact Spec.r a func298 [3] [.call b]
theorem IX(f:aa G){n d:Int}(u:d≠0)(b:n8 n)(c:n8 d):Spec zZq G 298 [W n,W d] (F (Rat.divInt n d)):=by
 by_cases h:n=0
 ·subst h;rw[Rat.zero_divInt];exact Qm f _
 ·obtain⟨s,m,rfl,k,l⟩:=mC n
  obtain⟨t,e,rfl,j,o⟩:=mC d;unfold n8 at b c;rw[←l]at b;rw[←o]at c;have a:0<m:=by rcases alT m with q|q;(·subst q;exact apC (by cases s<;>rfl) h);exact q
  have i:0<e:=by rcases alT e with q|q;(·subst q;exact apC (by cases t<;>rfl) u);exact q
  rw[oD k,oD j];cases t with
  |false=>
   rw[aeK (Gk s a) (by show(0:Int)<(e:Int);omega),B1 s a,eK,eK]
   have g:Int.gcd (g' s m) (g' false e)=Nat.gcd m e:=by unfold Int.gcd;rw[eK,eK]
   rw[g];exact UD f a i b c
  |true=>
   have r:g' s m= -(g' (!s) m):=by cases s<;>simp[g']
   have p:g' true e= -(g' false e):=rfl;rw[r,p,Rat.neg_divInt_neg,aeK (Gk (!s) a) (by show(0:Int)<(e:Int);omega),B1 (!s) a,eK,eK]
   have g:Int.gcd (g' (!s) m) (g' false e)=Nat.gcd m e:=by unfold Int.gcd;rw[eK,eK]
   rw[g];exact UE f a i b c
theorem wZ.Kl{k:Nat}{x:D}{a:Rat}(d:aa G)(h:wZ k x a)(c:k≤KB):Spec zZq G 105 [x] (.aY [W a.num,W a.den]):=by
 obtain⟨r,rfl,b,rfl⟩:=h;exact PD d b c
theorem R4(g:aa G){k l:Nat}{x y:D}{a b:Rat}(d:wZ k x a)(c:wZ l y b)(f:k≤KB)(e:l≤KB):Spec zZq G 241 [x,y] (F (a+b)):=by
 have i:=d.Kl g f;have h:=c.Kl g e;have n:=Dy (G:=G) g (d.num f) (c.den e);have m:=Dy (G:=G) g (c.num e) (d.den f);have j:=Dy (G:=G) g (d.den f) (c.den e);have s1:=JZ (G:=G) g (m5 d.sz.1 c.zw f e) (m5 c.sz.1 d.zw e f);have f1:=IX (G:=G) g (Ln a b) (Su d c f e) (m5 d.zw c.zw f e);rw[JW]at f1;obtain⟨r,rfl,-,rfl⟩:=d;obtain⟨q,rfl,-,rfl⟩:=c;exact Spec.r g func241 [2,3] [.call i,.call h,.call n,.call m,.call s1,.call j,.call f1]
theorem R3(d:aa G){k:Nat}{x:D}{a:Rat}(b:wZ k x a)(c:k≤KB):Spec zZq G 243 [x] (F (-a)):=by
 have e:=b.Kl d c;have f:=JY (G:=G) d (b.num c);have f1:=IX (G:=G) d (AG a) (n:= -a.num) (by have:=b.num c;unfold n8 at this⊢;rw[anZ];exact this) (b.den c)
 rw[Jf]at f1;obtain⟨r,rfl,-,rfl⟩:=b;exact Spec.r d func243 [1] [.call e,.call f,.call f1]
theorem R1(d:aa G){k l:Nat}{x y:D}{a b:Rat}(e:wZ k x a)(c:wZ l y b)(h:k≤KB)(f:l≤KB):Spec zZq G 244 [x,y] (F (a-b)):=by
 have g:=R3 d c f;have s1:=R4 d e c.sz.neg.tW h f;rw[←aoj]at s1;obtain⟨r,rfl,-,rfl⟩:=e;obtain⟨q,rfl,-,rfl⟩:=c;exact Spec.r d func244 [2,3] [.call g,.call s1]
theorem Eg(c:aa G){k:Nat}{x:D}{a:Rat}(b:wZ k x a)(d:k≤KB):Spec zZq G 41 [x] (int (rW a)):=by
 have e:=b.Kl c d;have f:=AP (G:=G) c (b.num d);obtain⟨r,rfl,-,rfl⟩:=b;exact Spec.r c func41 [1] [.call e,.call f]
theorem HA(e:aa G){k l:Nat}{x y:D}{a b:Rat}(d:wZ k x a)(c:wZ l y b)(g:k+l<KB):Spec zZq G 187 [x,y] (int (Dl a b)):=by
 have s1:=R1 e d c (by omega) (by omega)
 have f:=Eg e (d.sz.sub c.sz).tW (by omega)
 rw[abk]at f;obtain⟨r,rfl,-,rfl⟩:=d;obtain⟨q,rfl,-,rfl⟩:=c;exact Spec.r e func187 [2,3] [.call s1,.call f]
theorem Yw(a:Rat):a+0=a:=Rat.add_zero a
theorem Z5:wZ 1 (F 0) 0:=(Kd (by omega)).tW
end Lw
namespace Lw
open Go Go.RowKit Go.Proofs
variable {G:World→Prop}
theorem XQ{k:Nat}{n:Int}(a:0<k)(h:(words n.natAbs).length≤k):gU k (n:Rat):=by
 unfold gU;rw[Rat.num_intCast,Rat.den_intCast];exact⟨h,by rw[EW];omega,a⟩
end Lw
namespace Lw
open Go Go.RowKit Go.Proofs
variable {G:World→Prop}
theorem L_{r:Raw}(h:r.valid=true):r=jR r.q:=by
 by_cases a:r.l7
 ·obtain⟨g,f⟩:=Raw.Bf a
  have c:=Raw.GN a;obtain⟨-,-,e,d,-⟩:=id a;unfold jR;rw[g,f,apA (Gk _ c),B1 _ c,eK,←e,←d]
 ·rcases Raw.bad a with b|b
  ·rw[b]at h;cases h
  ·subst b;rfl
theorem DR(q:Rat):(jR q).valid=true:=by
 by_cases h:q.num=0
 ·have e:jR q=⟨false,[],[]⟩:=by unfold jR;rw[apB h]
  rw[e];rfl
 ·exact Raw.Ay (FY h)
theorem Raw.ok.tW{k:Nat}{r:Raw}(h:r.ok k):wZ k r.AH r.q:=⟨r,rfl,h,rfl⟩
theorem afD(d:aa G){k:Nat}{x:D}{a:Rat}(b:wZ k x a)(c:k≤KB):Spec zZq G 112 [x,F 0] (F a):=by
 have:=vu d b Z5 c (by rw[pd];omega)
 rwa [Yw]at this
end Lw
namespace Lw
open Go Go.RowKit Go.Proofs
variable {G:World→Prop}
def cF(q:Rat):List D:=[bool (jR q).s,az (jR q).n,az (jR q).d]
def DG:List D:=[bool false,az [],az []]
end Lw
namespace Lw
open Go Go.RowKit Go.Proofs
variable {G:World→Prop}
theorem afU{k:Nat}(h:0<k):gU k ((1:Int):Rat):=XQ h (by show(words 1).length≤k;rw[EW];omega)
end Lw
namespace Lw
namespace fL
open zY fw
abbrev aS:=List (List Rat)
section val
variable {K:Type} [fw K] (ι:r7 Rat K) (s:Nat→K)
def V:Nat→(Nat→Rat)→K
 |0,f=>ι.φ (f 0)
 |k+1,f=>V k f+V k (fun i=>f (i+2^k))*s k
theorem qb:∀(k:Nat)(f g:Nat→Rat),(∀i,i<2^k→f i=g i)→V ι s k f=V ι s k g
 |0,f,g,h=>by simp only[V];rw[h 0 (by simp)]
 |k+1,f,g,h=>by
  have e:2^(k+1)=2^k+2^k:=by rw[al5];omega
  simp only[V];rw[qb k f g fun i a=>h i (by omega),qb k _ (fun i=>g (i+2^k)) fun i a=>h _ (by omega)]
theorem LM:∀k,V ι s k (fun _=>0)=0
 |0=>ι.zero
 |k+1=>by simp only[V,LM k];exact rg [s k]
theorem abQ:∀(k:Nat)(f g:Nat→Rat),V ι s k (fun i=>f i+g i)=V ι s k f+V ι s k g
 |0,f,g=>ι.add _ _
 |k+1,f,g=>by
  simp only[V];rw[abQ k f g,abQ k (fun i=>f (i+2^k)) (fun i=>g (i+2^k))]
  exact rg [V ι s k f,V ι s k g,V ι s k (fun i=>f (i+2^k)),V ι s k (fun i=>g (i+2^k)),s k]
theorem abP:∀(k:Nat)(f:Nat→Rat),V ι s k (fun i=> -(f i))= -V ι s k f
 |0,f=>ι.neg _
 |k+1,f=>by
  simp only[V];rw[abP k f,abP k (fun i=>f (i+2^k))]
  exact rg [V ι s k f,V ι s k (fun i=>f (i+2^k)),s k]
theorem aj0{k:Nat}{f:Nat→Rat}(h:∀i,2^k≤i→i<2^(k+1)→f i=0):V ι s (k+1) f=V ι s k f:=by
 have e:2^(k+1)=2^k+2^k:=by rw[al5];omega
 simp only[V];rw[qb ι s k (fun i=>f (i+2^k)) (fun _=>0) fun i a=>h _ (by omega) (by omega),LM]
 exact rg [V ι s k f,s k]
theorem alx{j:Nat}:∀{k:Nat}{f:Nat→Rat},j≤k→(∀i,2^j≤i→f i=0)→V ι s k f=V ι s j f:=by
 intro k f b h;obtain⟨d,rfl⟩:∃d,k=j+d:=⟨k-j,by omega⟩
 clear b;induction d with
 |zero=>rfl
 |succ d a=>
  rw[←a];refine aj0 ι s fun i c _=>h i ?_
  exact alJ (al3 (by omega) (aoA j d)) c
def lv(k:Nat)(l:List Rat):K:=V ι s k fun i=>l.getD i 0
theorem Al(k:Nat):lv ι s k []=0:=by
 show V ι s k (fun i=>([]:List Rat).getD i 0)=0
 have:(fun i=>([]:List Rat).getD i 0)=fun _=>(0:Rat):=by funext i;simp
 rw[this,LM]
theorem o4{l:List Rat}{i:Nat}(h:l.length≤i):l.getD i 0=0:=by rw[alD,alX h];rfl
theorem mD{j k:Nat}{l:List Rat}(b:l.length≤2^j)(a:j≤k):lv ι s k l=lv ι s j l:=alx ι s a fun _ c=>o4 (by omega)
theorem ZL(q:Rat):lv ι s 0 [q]=ι.φ q:=rfl
theorem yJ{k:Nat}(l:List Rat):lv ι s (k+1) l=lv ι s k (l.take (2^k))+lv ι s k (l.drop (2^k))*s k:=by
 unfold lv;simp only[V];congr 1
 ·refine qb ι s k _ _ fun i a=>?_
  simp only[List.getD_eq_getElem?_getD,List.getElem?_take,if_pos a]
 ·congr 1
  refine qb ι s k _ _ fun i a=>?_
  simp only[List.getD_eq_getElem?_getD,List.getElem?_drop,Nat.add_comm]
theorem Jj{k:Nat}{a b:List Rat}(c:a.length=2^k):lv ι s (k+1) (a++b)=lv ι s k a+lv ι s k b*s k:=by
 rw[yJ,←c,apf,List.drop_left]
end val
def eV(a:List Rat):Bool:=a.all fun q=>decide (q=0)
def bA(a:List Rat)(n:Nat):List Rat:=(List.range n).map fun i=>a.getD i 0
def dJ(a b:List Rat):List Rat:=(List.range (max a.length b.length)).map fun i=>a.getD i 0+b.getD i 0
def fp(a:List Rat):List Rat:=a.map fun q=> -q
def fH(a b:List Rat)(n:Nat):List Rat:=bA a n++bA b n
def EA:Nat→List Rat→List Rat
 |0,a=>if eV a then []else a
 |k+1,a=>if eV (a.drop (2^k))then EA k (a.take (2^k))else a
def dO(a:List Rat):List Rat:=if a.length=0 then []else EA (Nat.log2 a.length) a
def bR(t:aS):Nat→List Rat→List Rat→List Rat
 |0,a,b=>if eV a||eV b then []else [a.getD 0 0*b.getD 0 0]
 |k+1,a,b=>
  if eV a||eV b then []else
  let p:=if a.length<b.length then b else a
  let q:=if a.length<b.length then a else b
  if p.length=1 then [p.getD 0 0*q.getD 0 0]else
  let n:=p.length/2
  if q.length≤n then fH (bR t k (p.take n) q) (bR t k (p.drop n) q) n else
  fH (dJ (bR t k (p.take n) (q.take n)) (bR t k (bR t k (p.drop n) (q.drop n)) (t.getD (Nat.log2 n) [])))
   (dJ (bR t k (p.take n) (q.drop n)) (bR t k (p.drop n) (q.take n))) n
def fZ(t:aS)(k:Nat)(a:List Rat):List Rat:=
 let n:=a.length/2
 dJ (bR t k (a.take n) (a.take n)) (fp (bR t k (bR t k (a.drop n) (a.drop n)) (t.getD (Nat.log2 n) [])))
def iu(t:aS):Nat→List Rat→Int
 |0,a=>rW (a.getD 0 0)
 |k+1,a=>
  let a:=dO a
  if a.length=0 then 0 else
  if a.length=1 then rW (a.getD 0 0)else
  let n:=a.length/2
  let x:=iu t k (a.take n)
  let y:=iu t k (a.drop n)
  if iu t k (t.getD (Nat.log2 n) [])=0 then x else
  if x=y∨y=0 then x else
  if x=0 then y else x*iu t k (fZ t k a)
def Sh(k:Nat)(a:List Rat):Prop:=a=[]∨∃j,j≤k∧a.length=2^j
def iU(k:Nat)(t:aS):Prop:=∀j,j<k→(t.getD j []).length=2^j
theorem Sh.nil(k:Nat):Sh k []:=.inl rfl
theorem Sh.mono{k m:Nat}{a:List Rat}(h:Sh k a)(c:k≤m):Sh m a:=by
 rcases h with h|⟨j,d,b⟩
 ·exact .inl h
 ·exact .inr ⟨j,by omega,b⟩
theorem Sh.len{k:Nat}{a:List Rat}(h:Sh k a):a.length≤2^k:=by
 rcases h with rfl|⟨j,c,b⟩
 ·simp
 ·rw[b];exact al3 (by omega) c
theorem Sh.of{k:Nat}{a:List Rat}(h:a.length=2^k):Sh k a:=.inr ⟨k,alE _,h⟩
theorem pB{a:List Rat}:eV a=true↔∀i,a.getD i 0=0:=by
 unfold eV;rw[al9];constructor
 ·intro h i
  rcases alU i a.length with b|b
  ·rw[alD,alK b]
   exact of_decide_eq_true (h _ (al2 b))
  ·exact o4 b
 ·intro h q c
  obtain⟨i,b,rfl⟩:=alZ.1 c;have:=h i;rw[alD,alK b]at this;exact apD this
theorem jd:eV []=true:=rfl
theorem fe(a:List Rat)(n:Nat):(bA a n).length=n:=by simp[bA]
theorem ke(a:List Rat)(n i:Nat):(bA a n).getD i 0=if i<n then a.getD i 0 else 0:=by
 unfold bA;rw[alD,ane];by_cases h:i<n
 ·rw[apB h,List.getElem?_range h];rfl
 ·rw[apA h,alX (by simpa using h)];rfl
theorem uU(a b:List Rat):(dJ a b).length=max a.length b.length:=by simp[dJ]
theorem F4(a b:List Rat)(i:Nat):(dJ a b).getD i 0=a.getD i 0+b.getD i 0:=by
 unfold dJ;rw[alD,ane];by_cases h:i<max a.length b.length
 ·rw[List.getElem?_range h];rfl
 ·rw[alX (by simpa using h),o4 (by omega),o4 (l:=b) (by omega)]
  show(0:Rat)=0+0;rw[Rat.add_zero]
theorem vR(a:List Rat):(fp a).length=a.length:=by simp[fp]
theorem DX(a:List Rat)(i:Nat):(fp a).getD i 0= -(a.getD i 0):=by
 unfold fp;rw[alD,ane,alD];cases a[i]?with
 |none=>show(0:Rat)= -0;rw[Rat.neg_zero]
 |some q=>rfl
theorem iw(k:Nat):Nat.log2 (2^k)=k:=Nat.log2_two_pow
theorem fI(k:Nat):2^(k+1)/2=2^k:=by rw[al5];omega
theorem dg(k:Nat):0<2^k:=am2 (by omega)
theorem Sh.plus{k:Nat}{a b:List Rat}(l:Sh k a)(e:Sh k b):Sh k (dJ a b):=by
 rcases l with rfl|⟨i,g,f⟩
 ·rcases e with rfl|⟨j,d,c⟩
  ·exact .inl rfl
  ·exact .inr ⟨j,d,by rw[uU,c];simp⟩
 ·rcases e with rfl|⟨j,d,c⟩
  ·exact .inr ⟨i,g,by rw[uU,f];simp⟩
  ·rw[Sh,uU,f,c]
   right
   rcases Nat.le_total i j with h|h
   ·exact⟨j,d,apu (al3 (by omega) h)⟩
   ·exact⟨i,g,Nat.max_eq_left (al3 (by omega) h)⟩
theorem Sh.minus{k:Nat}{a:List Rat}(b:Sh k a):Sh k (fp a):=by
 rcases b with rfl|⟨i,d,c⟩
 ·exact .inl rfl
 ·exact .inr ⟨i,d,by rw[vR,c]⟩
theorem TD:∀(k:Nat)(a:List Rat),a.length=2^k→Sh k (EA k a)
 |0,a,h=>by
  unfold EA;split
  ·exact .inl rfl
  ·exact .of h
 |k+1,a,h=>by
  unfold EA;have e:2^(k+1)=2^k+2^k:=by rw[al5];omega
  split
  ·exact(TD k _ (by rw[alO];omega)).mono (by omega)
  ·exact .of h
theorem JJ:∀(k:Nat)(a:List Rat),a.length=2^k→∀i,(EA k a).getD i 0=a.getD i 0
 |0,a,h,i=>by
  unfold EA;split
  ·rename_i b;rw[pB.1 b i];rfl
  ·rfl
 |k+1,a,h,i=>by
  unfold EA;have e:2^(k+1)=2^k+2^k:=by rw[al5];omega
  split
  ·rename_i b
   rw[JJ k _ (by rw[alO];omega)]
   by_cases c:i<2^k
   ·simp only[List.getD_eq_getElem?_getD,List.getElem?_take,if_pos c]
   ·have:=pB.1 b (i-2^k)
    simp only[List.getD_eq_getElem?_getD,List.getElem?_drop,List.getElem?_take,if_neg c]at this⊢;rw[show 2^k+(i-2^k)=i by omega]at this
    rw[this];rfl
  ·rfl
theorem g9{k:Nat}{a:List Rat}(h:Sh k a):Sh k (dO a):=by
 unfold dO;rcases h with rfl|⟨j,c,b⟩
 ·exact .inl rfl
 ·have:=dg j
  rw[apA (by omega),b,iw]
  exact(TD j a b).mono c
theorem j5{k:Nat}{a:List Rat}(h:Sh k a)(i:Nat):(dO a).getD i 0=a.getD i 0:=by
 unfold dO;rcases h with rfl|⟨j,c,b⟩
 ·rfl
 ·have:=dg j
  rw[apA (by omega),b,iw]
  exact JJ j a b i
section ake
variable {K:Type} [fw K] (ι:r7 Rat K) (s:Nat→K)
theorem ae_{k:Nat}{a b:List Rat}(h:∀i,a.getD i 0=b.getD i 0):lv ι s k a=lv ι s k b:=qb ι s k _ _ fun i _=>h i
theorem oU(k:Nat)(a b:List Rat):lv ι s k (dJ a b)=lv ι s k a+lv ι s k b:=by
 unfold lv;rw[←abQ];exact qb ι s k _ _ fun i _=>F4 a b i
theorem qv(k:Nat)(a:List Rat):lv ι s k (fp a)= -lv ι s k a:=by
 unfold lv;rw[←abP];exact qb ι s k _ _ fun i _=>DX a i
theorem BB{k:Nat}(a:List Rat):lv ι s k (bA a (2^k))=lv ι s k a:=qb ι s k _ _ fun i b=>by rw[ke,apB b]
theorem S8{k:Nat}(a b:List Rat):lv ι s (k+1) (fH a b (2^k))=lv ι s k a+lv ι s k b*s k:=by
 unfold fH;rw[Jj ι s (fe a _),BB,BB]
theorem EV{k:Nat}{a:List Rat}(h:eV a=true):lv ι s k a=0:=by
 unfold lv;rw[qb ι s k _ (fun _=>0) fun i _=>pB.1 h i,LM]
theorem mQ{k j:Nat}{a:List Rat}(h:Sh j a):lv ι s k (dO a)=lv ι s k a:=ae_ ι s (j5 h)
theorem jS(a b:List Rat)(n:Nat):(fH a b n).length=n+n:=by unfold fH;rw[amj,fe,fe]
structure Model(t:aS)(n:Nat):Prop where
 nn:∀k,k<n→fw.nn (s k)
 sq:∀k,k<n→s k*s k=lv ι s k (t.getD k [])
theorem gD{t:aS}:∀(k:Nat)(a b:List Rat),iU k t→Model ι s t k→Sh k a→Sh k b→
  Sh k (bR t k a b)∧lv ι s k (bR t k a b)=lv ι s k a*lv ι s k b∧(bR t k a b).length≤max a.length b.length
 |0,a,b,_,_,m,n=>by
  unfold bR;have la:=m.len;have lb:=n.len;split
  ·rename_i h
   rw[amo]at h;refine⟨.inl rfl,?_,by simp⟩
   rw[Al];rcases h with h|h
   ·rw[EV ι s h,i_]
   ·rw[EV ι s h,cO]
  ·rename_i h
   refine⟨.of rfl,ι.mul _ _,?_⟩;rcases m with rfl|⟨j,o,h2⟩
   ·exact apC (by rw[jd];rfl) h
   ·have:=dg j;simp only[List.length_cons,List.length_nil];omega
 |k+1,a,b,H,z,m,n=>by
  have d:iU k t:=fun j G=>H j (by omega)
  have c:Model ι s t k:=⟨fun j G=>z.nn j (by omega),fun j G=>z.sq j (by omega)⟩
  unfold bR;split
  ·rename_i h
   rw[amo]at h;refine⟨.inl rfl,?_,by simp⟩
   rw[Al];rcases h with h|h
   ·rw[EV ι s h,i_]
   ·rw[EV ι s h,cO]
  ·rename_i x
   rw[amo]at x;have key:∀p q:List Rat,Sh (k+1) p→Sh (k+1) q→q.length≤p.length→p≠[]→
     Sh (k+1) (if p.length=1 then [p.getD 0 0*q.getD 0 0]else if q.length≤p.length/2 then fH (bR t k (p.take (p.length/2)) q) (bR t k (p.drop (p.length/2)) q) (p.length/2)else
      fH (dJ (bR t k (p.take (p.length/2)) (q.take (p.length/2))) (bR t k (bR t k (p.drop (p.length/2)) (q.drop (p.length/2))) (t.getD (Nat.log2 (p.length/2)) [])))
       (dJ (bR t k (p.take (p.length/2)) (q.drop (p.length/2))) (bR t k (p.drop (p.length/2)) (q.take (p.length/2)))) (p.length/2))∧
     lv ι s (k+1) (if p.length=1 then [p.getD 0 0*q.getD 0 0]else if q.length≤p.length/2 then fH (bR t k (p.take (p.length/2)) q) (bR t k (p.drop (p.length/2)) q) (p.length/2)else
      fH (dJ (bR t k (p.take (p.length/2)) (q.take (p.length/2))) (bR t k (bR t k (p.drop (p.length/2)) (q.drop (p.length/2))) (t.getD (Nat.log2 (p.length/2)) [])))
       (dJ (bR t k (p.take (p.length/2)) (q.drop (p.length/2))) (bR t k (p.drop (p.length/2)) (q.take (p.length/2)))) (p.length/2))=lv ι s (k+1) p*lv ι s (k+1) q∧
     (if p.length=1 then [p.getD 0 0*q.getD 0 0]else if q.length≤p.length/2 then fH (bR t k (p.take (p.length/2)) q) (bR t k (p.drop (p.length/2)) q) (p.length/2)else
      fH (dJ (bR t k (p.take (p.length/2)) (q.take (p.length/2))) (bR t k (bR t k (p.drop (p.length/2)) (q.drop (p.length/2))) (t.getD (Nat.log2 (p.length/2)) [])))
       (dJ (bR t k (p.take (p.length/2)) (q.drop (p.length/2))) (bR t k (p.drop (p.length/2)) (q.take (p.length/2)))) (p.length/2)).length≤p.length:=by
    intro p q S F hle Z;rcases S with rfl|⟨j,V,w⟩
    ·exact apC rfl Z
    ·cases j with
     |zero=>
      have o:p.length=1:=w;rw[apB o];refine⟨.inr ⟨0,by omega,rfl⟩,?_,by rw[o];simp⟩
      rw[mD ι s (j:=0) (by simp) (by omega),mD ι s (j:=0) (l:=p) (by rw[o];simp) (by omega),mD ι s (j:=0) (l:=q) (by simp;omega) (by omega)]
      exact ι.mul _ _
     |succ j=>
      have T:p.length/2=2^j:=by rw[w,fI]
      have e2:2^(j+1)=2^j+2^j:=by rw[al5];omega
      have pj:=dg j;rw[apA (by omega),T,iw]
      have v:Sh k (p.take (2^j)):=.inr ⟨j,by omega,by rw[alO];omega⟩
      have u:Sh k (p.drop (2^j)):=.inr ⟨j,by omega,by rw[alP];omega⟩
      have lx:(p.take (2^j)).length=2^j:=by rw[alO];omega
      have ly:(p.drop (2^j)).length=2^j:=by rw[alP];omega
      have low:∀l:List Rat,l.length≤2^j→lv ι s k l=lv ι s j l:=fun l U=>mD ι s U (by omega)
      have C:lv ι s (k+1) p=lv ι s k (p.take (2^j))+lv ι s k (p.drop (2^j))*s j:=by
       rw[mD ι s (j:=j+1) (by omega) (by omega),yJ,low _ (by omega),low _ (by omega)]
      have fin:∀A B:List Rat,A.length≤2^j→B.length≤2^j→Sh (k+1) (fH A B (2^j))∧lv ι s (k+1) (fH A B (2^j))=lv ι s k A+lv ι s k B*s j:=fun A B Y X=>
       ⟨.inr ⟨j+1,by omega,by rw[jS];omega⟩,by
        rw[mD ι s (j:=j+1) (by rw[jS];omega) (by omega),S8,low _ Y,low _ X]⟩
      by_cases f:q.length≤2^j
      ·rw[apB f]
       have sq:Sh k q:=by
        rcases F with rfl|⟨i,y,r⟩
        ·exact .inl rfl
        ·refine .inr ⟨i,?_,r⟩
         rw[r]at f;have:=(aof (a:=2) (by omega)).1 f
         omega
       obtain⟨s1,v1,Q⟩:=gD k _ q d c v sq;obtain⟨s2,v2,P⟩:=gD k _ q d c u sq;obtain⟨f1,f2⟩:=fin (bR t k (p.take (2^j)) q) (bR t k (p.drop (2^j)) q) (by omega) (by omega)
       refine⟨f1,?_,by rw[jS];omega⟩
       rw[f2,v1,v2,C,mD ι s (j:=k) (k:=k+1) (l:=q) sq.len (by omega)]
       exact rg [lv ι s k (p.take (2^j)),lv ι s k (p.drop (2^j)),lv ι s k q,s j]
      ·rw[apA f]
       have R:q.length=2^(j+1):=by
        rcases F with rfl|⟨i,y,r⟩
        ·simp at f
        ·rw[r]at hle f⊢
         rw[w]at hle;have g1:=(aof (a:=2) (by omega)).1 hle
         have g2:j<i:=(Nat.pow_lt_pow_iff_right (a:=2) (by omega)).1 (by omega)
         rw[show i=j+1 by omega]
       have E:Sh k (q.take (2^j)):=.inr ⟨j,by omega,by rw[alO];omega⟩
       have D:Sh k (q.drop (2^j)):=.inr ⟨j,by omega,by rw[alP];omega⟩
       have lu:(q.take (2^j)).length=2^j:=by rw[alO];omega
       have lw:(q.drop (2^j)).length=2^j:=by rw[alP];omega
       have W:=H j (by omega)
       have N:Sh k (t.getD j []):=.inr ⟨j,by omega,W⟩
       obtain⟨s1,v1,Q⟩:=gD k _ _ d c v E;obtain⟨s2,v2,P⟩:=gD k _ _ d c u D;obtain⟨s3,M,l3⟩:=gD k _ _ d c s2 N;obtain⟨s4,v4,l4⟩:=gD k _ _ d c v D;obtain⟨s5,L,l5⟩:=gD k _ _ d c u E;obtain⟨f1,f2⟩:=fin (dJ (bR t k (p.take (2^j)) (q.take (2^j))) (bR t k (bR t k (p.drop (2^j)) (q.drop (2^j))) (t.getD j [])))
        (dJ (bR t k (p.take (2^j)) (q.drop (2^j))) (bR t k (p.drop (2^j)) (q.take (2^j)))) (by rw[uU];omega) (by rw[uU];omega)
       refine⟨f1,?_,by rw[jS];omega⟩
       have J:lv ι s (k+1) q=lv ι s k (q.take (2^j))+lv ι s k (q.drop (2^j))*s j:=by
        rw[mD ι s (j:=j+1) (by omega) (by omega),yJ,low _ (by omega),low _ (by omega)]
       have g:=z.sq j (by omega)
       rw[←mD ι s (k:=k) (by omega) (by omega)]at g
       rw[f2,oU,oU,v1,M,v2,v4,L,C,J];exact rg1 [lv ι s k (p.take (2^j)),lv ι s k (p.drop (2^j)),lv ι s k (q.take (2^j)),lv ι s k (q.drop (2^j)),s j,lv ι s k (t.getD j [])]
        (-(lv ι s k (p.drop (2^j))*lv ι s k (q.drop (2^j)))) g (by kernel_rfl)
   have E4:a≠[]:=fun e=>x (.inl (by rw[e];rfl))
   have O:b≠[]:=fun e=>x (.inr (by rw[e];rfl))
   by_cases I:a.length<b.length
   ·simp only[if_pos I]
    obtain⟨k1,k2,k3⟩:=key b a n m (by omega) O
    refine⟨k1,by rw[k2,jf],by omega⟩
   ·simp only[if_neg I]
    obtain⟨k1,k2,k3⟩:=key a b m n (by omega) E4
    exact⟨k1,k2,by omega⟩
theorem Zp{t:aS}{k j:Nat}{a:List Rat}(g:iU k t)(h:Model ι s t k)(p:j<k)(q:a.length=2^(j+1)):
  Sh j (fZ t j a)∧lv ι s j (fZ t j a)=lv ι s j (a.take (2^j))*lv ι s j (a.take (2^j))-lv ι s j (a.drop (2^j))*lv ι s j (a.drop (2^j))*lv ι s j (t.getD j []):=by
 have r:2^(j+1)=2^j+2^j:=by rw[al5];omega
 have o:a.length/2=2^j:=by rw[q,fI]
 have c:iU j t:=fun i f=>g i (by omega)
 have b:Model ι s t j:=⟨fun i f=>h.nn i (by omega),fun i f=>h.sq i (by omega)⟩
 have e:Sh j (a.take (2^j)):=.of (by rw[alO];omega)
 have d:Sh j (a.drop (2^j)):=.of (by rw[alP];omega)
 have m:Sh j (t.getD j []):=.of (g j p);obtain⟨s1,v1,-⟩:=gD ι s j _ _ c b e e;obtain⟨s2,v2,-⟩:=gD ι s j _ _ c b d d;obtain⟨n,l,-⟩:=gD ι s j _ _ c b s2 m;unfold fZ;simp only[o,iw];refine⟨s1.plus n.minus,?_⟩;rw[oU,qv,v1,l,v2,sub_def']
theorem Cy(q:Rat):rW q=sg (ι.φ q):=by
 rw[ι.rW];rcases uP q with⟨h,e⟩|⟨h,e⟩|⟨h,e⟩
 ·rw[e,xl (show(0:Rat)< -q by grind)]
 ·rw[e,h,iE]
 ·rw[e,sG (show(0:Rat)<q from h)]
theorem af0{X Y r D:K}(j:fw.nn r)(h:r*r=D):sg (X+Y*r)=
  if sg D=0 then sg X else if sg X=sg Y∨sg Y=0 then sg X else if sg X=0 then sg Y else sg X*sg (X*X-Y*Y*D):=by
 by_cases f:sg D=0
 ·rw[apB f]
  have e:r=0:=sE (by rw[h];exact ny.1 f)
  rw[e,cO,add_zero']
 ·rw[apA f]
  have d:fw.pos r:=by
   rcases j with g|g
   ·exact g
   ·exfalso;apply f;rw[←h,g,cO,iE]
  have e:(X+Y*r)*(X-Y*r)=X*X-Y*Y*D:=rg1 [X,Y,r,D] (-(Y*Y)) h;have i:sg (Y*r)=sg Y:=by rw[Ki,sG d];simp
  rcases qf X with⟨a,ex⟩|⟨a,ex⟩|⟨a,ex⟩<;>rcases qf Y with⟨b,c⟩|⟨b,c⟩|⟨b,c⟩<;>rw[ex,c]
  ·simp;exact sG (fY a (dV b d))
  ·simp;rw[b,i_,add_zero',ex]
  ·simp
   have hm:fw.pos (X-Y*r):=of_eq (fY a (of_eq (dV b d) rfl)) (by rw[xH];exact sub_def' _ _)
   rw[←e,Ki,sG hm];simp
  ·simp;rw[a,g8,i,c]
  ·simp;rw[a,g8,i,c]
  ·simp;rw[a,g8,i,c]
  ·simp
   have hm:fw.pos (-(X-Y*r)):=of_eq (fY a (dV b d)) (rg [X,Y,r]);rw[←e,Ki,xl hm];simp
  ·simp;rw[b,i_,add_zero',ex]
  ·simp
   exact xl (of_eq (fY a (of_eq (dV b d) rfl)) (rg [X,Y,r]))
theorem mO{t:aS}:∀(k:Nat)(a:List Rat),iU k t→Model ι s t k→Sh k a→iu t k a=sg (lv ι s k a)
 |0,a,_,_,i=>by
  unfold iu;exact Cy ι _
 |k+1,a,m,e,i=>by
  have d:iU k t:=fun j q=>m j (by omega)
  have c:Model ι s t k:=⟨fun j q=>e.nn j (by omega),fun j q=>e.sq j (by omega)⟩
  unfold iu;have o:=g9 i;rw[←mQ ι s i];generalize dO a=b at o;rcases o with rfl|⟨j,y,h⟩
  ·simp only[List.length_nil,if_pos]
   rw[Al,iE]
  ·have D:=dg j
   simp only;rw[apA (by omega)]
   cases j with
   |zero=>
    have A:b.length=1:=h;rw[apB A,mD ι s (j:=0) (by omega) (by omega)]
    exact Cy ι _
   |succ j=>
    have F:2^(j+1)=2^j+2^j:=by rw[al5];omega
    have w:=dg j;have p:b.length/2=2^j:=by rw[h,fI]
    rw[apA (by omega),p,iw]
    have low:∀l:List Rat,l.length≤2^j→lv ι s k l=lv ι s j l:=fun l x=>mD ι s x (by omega)
    have g:Sh k (b.take (2^j)):=.inr ⟨j,by omega,by rw[alO];omega⟩
    have f:Sh k (b.drop (2^j)):=.inr ⟨j,by omega,by rw[alP];omega⟩
    have z:=m j (by omega)
    have n:Sh k (t.getD j []):=.inr ⟨j,by omega,z⟩
    obtain⟨C,B⟩:=Zp ι s m e (by omega) h
    have E:fZ t k b=fZ t j b∨True:=.inr trivial;have r:Sh k (fZ t k b)∧lv ι s k (fZ t k b)=lv ι s j (b.take (2^j))*lv ι s j (b.take (2^j))-lv ι s j (b.drop (2^j))*lv ι s j (b.drop (2^j))*lv ι s j (t.getD j []):=by
     obtain⟨s1,v1,-⟩:=gD ι s k _ _ d c g g;obtain⟨s2,v2,-⟩:=gD ι s k _ _ d c f f;obtain⟨v,u,-⟩:=gD ι s k _ _ d c s2 n;unfold fZ;simp only[p,iw];refine⟨s1.plus v.minus,?_⟩;rw[oU,qv,v1,u,v2,sub_def',low (b.take (2^j)) (by rw[alO];omega),low (b.drop (2^j)) (by rw[alP];omega),low (t.getD j []) (by omega)]
    rw[mO k _ d c g,mO k _ d c f,mO k _ d c n,mO k _ d c r.1,r.2,mD ι s (j:=j+1) (k:=k+1) (l:=b) (by omega) (by omega),yJ ι s b,
     low (b.take (2^j)) (by rw[alO];omega),low (b.drop (2^j)) (by rw[alP];omega),low (t.getD j []) (by omega),af0 (e.nn j (by omega)) (e.sq j (by omega))]
end ake
end fL
end Lw
namespace Lw
namespace fL
open zY fw
section akd
variable {K:Type} [fw K] (ι:r7 Rat K) (s:Nat→K)
theorem CW(k:Nat)(q:Rat):lv ι s k [q]=ι.φ q:=by
 rw[mD ι s (j:=0) (by simp) (by omega),ZL]
theorem Sh.single(k:Nat)(q:Rat):Sh k [q]:=.inr ⟨0,by omega,rfl⟩
end akd
end fL
end Lw
namespace Lw
open Go Go.RowKit Go.Proofs
variable {G:World→Prop}
theorem Ke{k:Nat}{n:Int}(a:0<k)(h: -4294967296<n)(b:n<4294967296):gU k (n:Rat):=XQ a (alJ ((aZ _ 1).2 (by rw[show BP 1=4294967296 from rfl];omega)) a)
end Lw
namespace Lw
open Go Go.RowKit Go.Proofs Go.ChangeShapes Go.WideShapes Go.ChangeAt
section
variable {H:Type} {enc:TypeId×Value→H} {W:World} {fuel:Nat} {cs:List Value} {x:DataW H×List MemPlace}
def HQ:Nat→Prop:=fun _=>False
theorem Wz:Tryz.prog.cellsOf 206=1:=by kernel_rfl
theorem zd:Tryz.prog.cellsOf 51=3:=by kernel_rfl
theorem Ea:Tryz.prog.cellsOf 49=1:=by kernel_rfl
theorem G9:Tryz.prog.cellsOf 4=1:=by kernel_rfl
theorem wf_u32{n:Int}(h:(Lit.int .u32 n).wf=true):0≤n∧n<4294967296:=by
 simp[Lit.wf,IntKind.min,IntKind.max,IntKind.signed,IntKind.bits]at h;omega
theorem F'(h:DataW.trod enc zZq W 0 (fun _=>true) true fuel 49 cs=some x):∃l:List Nat,fS l∧a9 W HQ cs [az l]:=by
 rcases open_ints Tryz.underlying49 Tryz.underlying206 Wz h with⟨rfl,-⟩|⟨a,len,g,b,rfl,-,v,u,q,-,p,f⟩
 ·exact⟨[],(fun x r=>by cases r),a9.cons (Bu W HQ false) a9.nil⟩
 ·simp only[if_true]at q
  have m:∀i(c:i<len),∃n:Nat,b.getD i 0=(n:Int)∧n<4294967296:=fun i c=>by
   have o:i<b.length:=by omega
   have z:b.getD i 0∈b:=by rw[alD,alK o];exact al2 o
   obtain⟨B,A⟩:=wf_u32 (f _ z);exact⟨(b.getD i 0).toNat,by omega,by omega⟩
  let l:=(List.range len).map fun i=>(b.getD i 0).toNat
  have d:l.length=len:=by simp[l]
  refine⟨l,fun y k=>?_,a9.cons ?_ a9.nil⟩
  ·simp only[l,List.mem_map,List.mem_range]at k
   obtain⟨i,c,rfl⟩:=k;obtain⟨n,e,t⟩:=m i c;rw[e];omega
  ·have s:=cU.row (w:=W) (X:=HQ) (some a) len g false (l.map fun n=>Value.int .u32 (zNq n)) (l.map u32) (by simp) v u (fun h=>by cases h)
    (fun i c=>by
     have j:i<len:=by simpa [d]using c
     obtain⟨n,e,t⟩:=m i j;refine⟨a,rfl,fun h=>h,?_⟩
     rw[p i (by omega),e]
     simp only[List.getElem_map,l,List.getElem_range,e];rfl)
    (fun i c j=>by
     simp only[List.getElem_map];exact .lit _)
   unfold az;rw[d];exact s
theorem three{α:Type}{l:List α}(h:l.length=3):∃a b c,l=[a,b,c]:=by
 match l,h with
 |[a,b,c],_=>exact⟨a,b,c,rfl⟩
theorem fV{α:Type}{l:List α}{i:Nat}(h:i<l.length):∃y,l[i]? =some y:=⟨l[i],alK h⟩
theorem cI{fs:Array Field}{xs:List (DataW H×List MemPlace)}{n:Nat}(c:∀(i:Nat)(f:Field),fs[i]? =some f→DataW.trod enc zZq W 0 (fun _=>true) true n f.type ((cs.drop f.offset).take (Tryz.prog.cellsOf f.type))=xs[i]?)
  (i:Nat) (f:Field) (h:fs[i]? =some f) {t:TypeId} {off sz:Nat} (a:f.type=t) (b:f.offset=off) (d:Tryz.prog.cellsOf t=sz):DataW.trod enc zZq W 0 (fun _=>true) true n t ((cs.drop off).take sz)=xs[i]? :=by
 subst a b d;exact c i f h
end
end Lw
namespace Lw
open Go Go.RowKit Go.Proofs
variable {G:World→Prop}
def Raw.cells(r:Raw):List D:=[bool r.s,az r.n,az r.d]
end Lw
