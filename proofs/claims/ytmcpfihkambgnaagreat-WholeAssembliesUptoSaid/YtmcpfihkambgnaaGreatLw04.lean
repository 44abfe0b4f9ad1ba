/- Part 4. -/
import Derived.Test.YtmcpfihkambgnaaGreatLw03
import Derived.KernelRfl
import Derived.Test.YtmcpfihkambgnaaGreatProg
open Int renaming ofNat→zNq
open Int renaming ofNat_eq_natCast→zKq
open Go.Proofs.Tryz renaming prog→zZq
open Go.Proofs.Tryz
namespace Lw
open Go Go.RowKit
variable {P:Program} {Good:World→Prop}
def rz(P:Program){Good:World→Prop}(m:Nat)(ro:List Nat)(gb:Nat)(k:Code)(s:St)(d:List (Item P Good))(a c f:List Nat):Option (o_×List D×List (Option (List D))×List (Item P Good)×List (de×de)):=
 match oA P m ro gb k s d with
 |some (e,s1,tr',eqs)=>if vS gb a c f s1 then some (e,a.map (fun t=>s1.tmps.getD t .any),c.map (fun b=>s1.blks.getD b none),tr',eqs)else none
 |none=>none
def ak(P:Program)(Good:World→Prop)(gb:Nat)(k:Code)(s:St)(e:o_)(s':St):Prop:=
 ∃s1 a c b,apL P Good gb k s e s1∧vS gb a c b s1=true∧(s1.mask a c b).fs=s'.fs
theorem ak.ae(g:aa Good){ro:List Nat}{gb m n:Nat}{k:Code}{s:St}{l:List (Nat×D)}{bl:List (Nat×List D)}{ns:List Nat}{e:o_}(f:s.tmps.length=n)(a:List (Item P Good))
  (h:rz P m ro gb k s a (l.map (·.1)) (bl.map (·.1)) ns=some (e,l.map (·.2),bl.map (fun p=>some p.2),[],said a):=by kernel_rfl):ak P Good gb k s e (lay n l bl ns):=by
 unfold rz at h;split at h
 ·rename_i r s1 o q d
  split at h
  ·rename_i c
   simp only[Option.some.injEq,Prod.mk.injEq,List.map_map]at h;obtain⟨rfl,j,i,rfl,rfl⟩:=h;have b:=apL.ae g a d;exact⟨s1,_,_,_,b,c,qu (b.1.trans f) j i⟩
  ·cases h
 ·cases h
theorem ak.r(c:aa Good){gb n:Nat}{k:Code}{s:St}{l:List (Nat×D)}{bl:List (Nat×List D)}{ns:List Nat}{e:o_}(a:List (Item P Good))(b:s.tmps.length=n:=by exact af ..)
  (h:rz P 60 [] gb k s a (l.map (·.1)) (bl.map (·.1)) ns=some (e,l.map (·.2),bl.map (fun p=>some p.2),[],said a):=by kernel_rfl):ak P Good gb k s e (lay n l bl ns):=ak.ae c b a h
theorem bT.count{gb:Nat}{body:Code}(inv:Nat→St)(n:Nat){len:Nat}{e:o_}{s':St}(a:∀i,(inv i).tmps.length=len)(f:e≠.normal)
  (round:∀i,i<n→ak P Good gb body (inv i) .normal (inv (i+1))) (last:ak P Good gb body (inv n) e s'):bT P Good len gb (.loop body) (inv 0) e s':=by
 refine apL.loop (fun i=>i≤n) inv (fun i=>n-i) a f (fun i l=>?_) 0 (amd _)
 rcases alU i n with h|h
 ·obtain⟨s1,b,d,c,k,j,g⟩:=round i h
  exact .inl ⟨i+1,s1,b,d,c,h,by omega,k,j,g⟩
 ·have:i=n:=by omega
  subst this;exact .inr last
theorem bT.c{gb:Nat}{body:Code}(inv:Nat→St)(n:Nat){len:Nat}{e:o_}{s':St}
  (round:∀i,i<n→ak P Good gb body (inv i) .normal (inv (i+1))) (last:ak P Good gb body (inv n) e s') (a:∀i,(inv i).tmps.length=len:=by intro i;exact af ..) (he:e≠.normal:=by intro h;cases h):bT P Good len gb (.loop body) (inv 0) e s':=bT.count inv n a he round last
theorem bT.z(P:Program)(Good:World→Prop)(body:Code)(e:o_)(s':St)(inv:Nat→St)(n:Nat){len:Nat}
  (round:∀i,i<n→ak P Good 0 body (inv i) .normal (inv (i+1))) (last:ak P Good 0 body (inv n) e s') (a:∀i,(inv i).tmps.length=len:=by intro i;exact af ..) (he:e≠.normal:=by intro h;cases h):bT P Good len 0 (.loop body) (inv 0) e s':=bT.count inv n a he round last
theorem bT.rounds{ι:Type}{gb:Nat}{body:Code}(R:ι→Prop)(inv:ι→St)(μ:ι→Nat){len:Nat}{e:o_}{s':St}(a:∀i,(inv i).tmps.length=len)(g:e≠.normal)
  (round:∀i,R i→(∃j,R j∧μ j<μ i∧ak P Good gb body (inv i) .normal (inv j))∨ak P Good gb body (inv i) e s') (i:ι) (b:R i):bT P Good len gb (.loop body) (inv i) e s':=by
 refine apL.loop R inv μ a g (fun i b=>?_) i b
 rcases round i b with⟨j,o,n,s1,c,f,d,m,l,k⟩|h
 ·exact .inl ⟨j,s1,c,f,d,o,n,m,l,k⟩
 ·exact .inr h
def Code.loops:Code→List Code
 |.seq x y=>Code.loops x++Code.loops y
 |.cond _ x y=>Code.loops x++Code.loops y
 |.block _ x=>Code.loops x
 |.loop x=>x::Code.loops x
 |_=>[]
def ah(fn:Func)(i:Nat):Code:=((fn.body.map Code.loops).getD []).getD i .skip
theorem au{x y:Bool}(h:x=y):D.lit (.bool x)=D.lit (.bool y):=by rw[h]
def Item.eb{P:Program}{Good:World→Prop}(t:Tmp){x y:Bool}(h:x=y):Item P Good:=.eq t (au h)
def Item.er{P:Program}{Good:World→Prop}(t:Tmp)(d:D):Item P Good:=.eq t (Eq.refl d)
theorem pU{n:Int}:IntKind.wrap .u64 n=n%18446744073709551616:=by
 have e:(2^IntKind.bits .u64:Int)=18446744073709551616:=by decide
 simp only[IntKind.wrap,IntKind.signed,e,Bool.false_and,Bool.false_eq_true,if_false]
theorem J5{n:Int}:IntKind.wrap .u32 n=n%4294967296:=by
 have e:(2^IntKind.bits .u32:Int)=4294967296:=by decide
 simp only[IntKind.wrap,IntKind.signed,e,Bool.false_and,Bool.false_eq_true,if_false]
theorem wrap64{n:Nat}(h:n<18446744073709551616):IntKind.wrap .u64 (n:Int)=(n:Int):=by rw[pU];omega
theorem wrap32{n:Nat}:IntKind.wrap .u32 (n:Int)=((n%4294967296:Nat):Int):=by rw[J5];omega
theorem py{n:Int}(h: -9223372036854775808≤n)(c:n<9223372036854775808):IntKind.wrap .i64 n=n:=by
 have e:(2^IntKind.bits .i64:Int)=18446744073709551616:=by decide
 have b:(2^(IntKind.bits .i64-1):Int)=9223372036854775808:=by decide
 simp only[IntKind.wrap,IntKind.signed,e,b,Bool.true_and];by_cases a:n%18446744073709551616≥9223372036854775808
 ·rw[apB (by simpa using a)];omega
 ·rw[apA (by simpa using a)];omega
end Lw
namespace Lw
open Go Go.RowKit
def val:List Nat→Nat
 |[]=>0
 |d::l=>d+4294967296*val l
def fS(l:List Nat):Prop:=∀x∈l,x<4294967296
def Ct:Nat→Nat→List Nat
 |0,_=>[]
 |f+1,n=>if n=0 then []else n%4294967296::Ct f (n/4294967296)
def words(n:Nat):List Nat:=Ct n n
theorem DI:∀(f g n:Nat),n≤f→n≤g→Ct f n=Ct g n
 |0,0,_,_,_=>rfl
 |0,g+1,n,h,_=>by
   have:n=0:=by omega
   subst this;rfl
 |f+1,0,n,_,h=>by
   have:n=0:=by omega
   subst this;rfl
 |f+1,g+1,n,h,a=>by
  simp only[Ct];split
  ·rfl
  ·rw[DI f g _ (by omega) (by omega)]
theorem pC:words 0=[]:=rfl
theorem rP{n:Nat}(h:n≠0):words n=n%4294967296::words (n/4294967296):=by
 cases n with
 |zero=>exact apC rfl h
 |succ n=>
  show(if n+1=0 then []else(n+1)%4294967296::Ct n ((n+1)/4294967296))=_
  rw[apA h];congr 1;exact DI _ _ _ (by omega) (alE _)
theorem aX(n:Nat):val (words n)=n:=by
 induction n using Nat.strongRecOn with
 |_ n a=>
  by_cases h:n=0
  ·subst h;rfl
  ·rw[rP h]
   simp only[val];rw[a _ (by omega)]
   omega
theorem bb(n:Nat):fS (words n):=by
 induction n using Nat.strongRecOn with
 |_ n b=>
  by_cases h:n=0
  ·subst h;intro x a;cases a
  ·rw[rP h]
   intro x a;rcases alM.1 a with rfl|a
   ·omega
   ·exact b _ (by omega) x a
theorem fS.tail{d:Nat}{l:List Nat}(h:fS (d::l)):fS l:=fun x a=>h x (al_ _ a)
theorem fS.head{d:Nat}{l:List Nat}(h:fS (d::l)):d<4294967296:=h d (by simp)
theorem fS.take{l:List Nat}(h:fS l)(k:Nat):fS (l.take k):=fun x a=>h x (anv a)
theorem fS.getD{l:List Nat}(h:fS l)(i:Nat):l.getD i 0<4294967296:=by
 rw[alD];cases a:l[i]?with
 |none=>simp
 |some x=>exact h x (aoz a)
theorem rO:∀{l:List Nat},fS l→(words (val l)).length≤l.length∧words (val l)=l.take (words (val l)).length∧(∀i,(words (val l)).length≤i→l.getD i 0=0)∧
  (0<(words (val l)).length→l.getD ((words (val l)).length-1) 0≠0)
 |[],_=>by
  refine⟨alE _,rfl,fun i _=>by simp,fun h=>?_⟩
  exact apC h (by simp[val,pC])
 |d::l,h=>by
  obtain⟨o,k,b,j⟩:=rO h.tail;have n:=h.head;by_cases c:d+4294967296*val l=0
  ·have e:words (val (d::l))=[]:=by
    show words (d+4294967296*val l)=[];rw[c];rfl
   have a:val l=0:=by omega
   rw[a]at b;rw[e];refine⟨amd _,rfl,fun i _=>?_,fun h=>apC h (by simp)⟩
   cases i with
   |zero=>simp;omega
   |succ i=>simpa using b i (by simp[pC])
  ·have e:words (val (d::l))=d::words (val l):=by
    show words (d+4294967296*val l)=_;rw[rP c];congr 1
    ·omega
    ·congr 1;omega
   rw[e];refine⟨by simp;omega,?_,fun i f=>?_,fun _=>?_⟩
   ·simp only[List.length_cons,List.take_succ_cons]
    rw[←k]
   ·cases i with
    |zero=>simp at f
    |succ i=>simpa using b i (by simpa using f)
   ·by_cases g:0<(words (val l)).length
    ·have:=j g
     have m:(d::words (val l)).length-1=((words (val l)).length-1)+1:=by simp;omega
     rw[m,amP];exact this
    ·have a:words (val l)=[]:=amu (by omega)
     have:val l=0:=by rw[←aX (val l),a];rfl
     rw[a];simp;omega
theorem nk{n:Nat}(h:n≠0):(words n).getD ((words n).length-1) 0≠0:=by
 have:=(rO (bb n)).2.2.2;rw[aX]at this;refine this ?_;rw[rP h];simp
theorem DH{l:List Nat}(h:fS l)(a:l≠[]→l.getD (l.length-1) 0≠0):words (val l)=l:=by
 obtain⟨g,c,b,-⟩:=rO h;rcases alU (words (val l)).length l.length with e|f
 ·exfalso
  have d:l≠[]:=by rintro rfl;simp at e
  exact a d (b _ (by omega))
 ·rw[c,al4 f]
theorem T2{n:Nat}:words n=[]↔n=0:=by
 constructor
 ·intro h;rw[←aX n,h];rfl
 ·rintro rfl;rfl
theorem ef{n:Nat}(h:n≠0):0<(words n).length:=by rw[rP h];simp
def BP(i:Nat):Nat:=4294967296^i
theorem ig:BP 0=1:=by unfold BP;exact ant _
theorem df(i:Nat):BP (i+1)=4294967296*BP i:=by unfold BP;rw[al5,alS]
theorem cQ(i:Nat):0<BP i:=am2 (by omega)
theorem kA(i j:Nat):BP (i+j)=BP i*BP j:=by unfold BP;exact amr _ _ _
theorem ni{i j:Nat}(h:i≤j):BP i≤BP j:=al3 (by omega) h
theorem mG{l:List Nat}(h:fS l):val l<BP l.length:=by
 induction l with
 |nil=>simp[val,ig]
 |cons d l a=>
  have c:=a h.tail;have b:=h.head;simp only[val,List.length_cons,df];omega
theorem dh{l:List Nat}(h:fS l)(i:Nat):l.getD i 0=val l/BP i%4294967296:=by
 induction l generalizing i with
 |nil=>simp[val]
 |cons d l a=>
  have b:=h.head;cases i with
  |zero=>simp only[List.getD_cons_zero,val,ig,Nat.div_one];omega
  |succ i=>
   rw[amP,a h.tail,df,←al7];simp only[val];congr 2;omega
theorem aZ(n k:Nat):(words n).length≤k↔n<BP k:=by
 induction k generalizing n with
 |zero=>
  rw[ig];constructor
  ·intro h
   have:=T2.1 (amu (Nat.le_zero.1 h));omega
  ·intro h
   have:n=0:=by omega
   subst this;simp[pC]
 |succ k a=>
  by_cases h:n=0
  ·subst h;simp[pC,cQ]
  ·rw[rP h,amm,Nat.add_le_add_iff_right,a,df,amk (by omega),alS]
def fc(N n:Nat):List Nat:=(List.range N).map fun j=>n/BP j%4294967296
theorem dz(N n:Nat):(fc N n).length=N:=by simp[fc]
theorem jx(N n:Nat):fS (fc N n):=by
 intro x a;simp only[fc,List.mem_map]at a;obtain⟨j,_,rfl⟩:=a;exact al8 _ (by omega)
theorem Dh{N n i:Nat}(h:i<N):(fc N n).getD i 0=n/BP i%4294967296:=by simp[fc,List.getD_eq_getElem?_getD,h]
theorem VT(N n:Nat):fc (N+1) n=n%4294967296::fc N (n/4294967296):=by
 unfold fc;rw[List.range_succ_eq_map,amt,anD];have a:n/BP 0%4294967296=n%4294967296:=by rw[ig,amN]
 rw[a];refine apF _ (amQ fun j _=>?_)
 rw[Function.comp_apply,Nat.succ_eq_add_one,df,al7]
theorem AX{N n:Nat}(h:n<BP N):val (fc N n)=n:=by
 induction N generalizing n with
 |zero=>rw[ig]at h;simp[fc,val];omega
 |succ N a=>
  rw[df]at h;rw[VT];simp only[val];rw[a (by rw[amk (by omega),alS];exact h)]
  omega
end Lw
namespace Lw
theorem fT(a P:Nat):a=P*(a/P)+a%P:=(am4 a P).symm
theorem jq(a i:Nat):a%BP (i+1)=BP i*(a/BP i%4294967296)+a%BP i:=by
 rw[df,alS,Nat.mod_mul];omega
theorem eh{P:Nat}(a:0<P)(x y:Nat):(P*x+y)/P=x+y/P:=by rw[amR,Nat.add_mul_div_left _ _ a,amR]
theorem g_(a i:Nat):a%BP i<BP i:=al8 _ (cQ i)
theorem jw(a i:Nat):a/BP (i+1)=a/BP i/4294967296:=by rw[df,alS,al7]
def mz(a b i:Nat):Nat:=(a%BP i+b%BP i)/BP i
theorem Ds(a b:Nat):mz a b 0=0:=by unfold mz;rw[ig,anO,anO]
theorem Lv(a b i:Nat):mz a b i≤1:=by
 unfold mz;have d:=g_ a i;have c:=g_ b i;rw[←Nat.lt_succ_iff,amk (cQ i)];omega
theorem Dt(a b i:Nat):mz a b (i+1)=(mz a b i+(a/BP i%4294967296+b/BP i%4294967296))/4294967296:=by
 unfold mz;rw[jq,jq,jw];congr 1;have e:BP i*(a/BP i%4294967296)+a%BP i+(BP i*(b/BP i%4294967296)+b%BP i)=BP i*(a/BP i%4294967296+b/BP i%4294967296)+(a%BP i+b%BP i):=by rw[amO];omega
 rw[e,eh (cQ i)];omega
theorem Hi(a b i:Nat):(mz a b i+(a/BP i%4294967296+b/BP i%4294967296))%4294967296=(a+b)/BP i%4294967296:=by
 unfold mz;have e:a+b=BP i*(a/BP i+b/BP i)+(a%BP i+b%BP i):=by
  have f:=fT a (BP i);have d:=fT b (BP i);rw[amO];omega
 have c:(a+b)/BP i=a/BP i+b/BP i+(a%BP i+b%BP i)/BP i:=by
  conv=>lhs;rw[e]
  rw[eh (cQ i)]
 rw[c];omega
def fB(a b i:Nat):Nat:=if a%BP i<b%BP i then 1 else 0
theorem vj(a b:Nat):fB a b 0=0:=by unfold fB;rw[ig,anO,anO];rfl
theorem wD(a b i:Nat):fB a b i≤1:=by unfold fB;split<;>omega
theorem Dm(a b i:Nat):fB a b (i+1)=if a/BP i%4294967296<b/BP i%4294967296+fB a b i then 1 else 0:=by
 unfold fB;rw[jq,jq];have e:=g_ a i;have d:=g_ b i;generalize a/BP i%4294967296=x;generalize b/BP i%4294967296=y;generalize a%BP i=r at*;generalize b%BP i=t at*;generalize BP i=P at*;rcases ano x y with h|h|h
 ·have:P*(x+1)≤P*y:=amc _ h
  rw[amO,amH]at this;rw[apB (by omega),apB (by split<;>omega)]
 ·subst h
  by_cases c:r<t
  ·rw[apB (by omega),apB c,apB (by omega)]
  ·rw[apA (by omega),apA c,apA (by omega)]
 ·have:P*(y+1)≤P*x:=amc _ h
  rw[amO,amH]at this;rw[apA (by omega),apA (by split<;>omega)]
theorem Hb{a b:Nat}(h:b≤a)(i:Nat):((a/BP i%4294967296:Nat)-(b/BP i%4294967296:Nat)-(fB a b i:Nat):Int)%4294967296=((a-b)/BP i%4294967296:Nat):=by
 unfold fB;have o:=g_ a i;have n:=g_ b i;have e:(a-b)/BP i=if a%BP i<b%BP i then a/BP i-b/BP i-1 else a/BP i-b/BP i:=by
  have c:=fT a (BP i);have k:=fT b (BP i);have g:b/BP i≤a/BP i:=ao3 h;generalize a/BP i=x at*;generalize b/BP i=y at*;generalize a%BP i=r at*;generalize b%BP i=t at*;generalize m:BP i=P at*;have d:0<P:=by rw[←m];exact cQ i
  obtain⟨z,rfl⟩:=Nat.exists_eq_add_of_le g;rw[amO]at c;split
  ·rename_i l
   have f:0<z:=by
    rcases alT z with f|f
    ·subst f;rw[Nat.mul_zero]at c;omega
    ·exact f
   obtain⟨u,rfl⟩:∃u,z=u+1:=⟨z-1,by omega⟩
   rw[amO,amH]at c;have:a-b=P*u+(P+r-t):=by omega
   rw[this,eh d,amn (by omega)];omega
  ·have:a-b=P*z+(r-t):=by omega
   rw[this,eh d,amn (by omega)];omega
 rw[e];have g:b/BP i≤a/BP i:=ao3 h;have j:a%BP i<b%BP i→b/BP i<a/BP i:=by
  intro l;have c:=fT a (BP i);have k:=fT b (BP i);rcases alU (b/BP i) (a/BP i)with h|h
  ·exact h
  ·have:a/BP i=b/BP i:=by omega
   rw[this]at c;omega
 split
 ·have:=j (by assumption);omega
 ·omega
def vm(T x b k:Nat):Nat:=(T%BP k+x*(b%BP k))/BP k
theorem Dp(T x b:Nat):vm T x b 0=0:=by unfold vm;rw[ig,anO,anO];simp
theorem Ca{x:Nat}(T b k:Nat)(a:x<4294967296):vm T x b k<4294967296:=by
 unfold vm;rw[amk (cQ k)];have e:=g_ T k;have d:=g_ b k;have c:x*(b%BP k)≤4294967295*(b%BP k):=alV _ (by omega)
 omega
theorem abx(T x b k:Nat):(T%BP (k+1)+x*(b%BP (k+1)))/BP k=vm T x b k+(x*(b/BP k%4294967296)+T/BP k%4294967296):=by
 unfold vm;rw[jq,jq];have e:BP k*(T/BP k%4294967296)+T%BP k+x*(BP k*(b/BP k%4294967296)+b%BP k)=BP k*(x*(b/BP k%4294967296)+T/BP k%4294967296)+(T%BP k+x*(b%BP k)):=by
  rw[amO,amO,anp x];omega
 rw[e,eh (cQ k)];omega
theorem Dq(T x b k:Nat):vm T x b (k+1)=(vm T x b k+(x*(b/BP k%4294967296)+T/BP k%4294967296))/4294967296:=by
 rw[←abx];unfold vm;rw[jw]
theorem Hf(T x b k:Nat):(vm T x b k+(x*(b/BP k%4294967296)+T/BP k%4294967296))%4294967296=(T+x*b)/BP k%4294967296:=by
 unfold vm;have c:=fT T (BP k);have a:=fT b (BP k);have e:T+x*b=BP k*(T/BP k+x*(b/BP k))+(T%BP k+x*(b%BP k)):=by
  conv=>lhs;rw[c,a]
  rw[amO,amO,anp x];omega
 have d:(T+x*b)/BP k=T/BP k+x*(b/BP k)+(T%BP k+x*(b%BP k))/BP k:=by
  conv=>lhs;rw[e]
  rw[eh (cQ k)]
 rw[d];have f:x*(b/BP k%4294967296)%4294967296=x*(b/BP k)%4294967296:=by rw[Nat.mul_mod,Nat.mod_mod,←Nat.mul_mod]
 omega
theorem Ow{T x b k:Nat}(c:T<BP k)(a:b<BP k):vm T x b k=(T+x*b)/BP k:=by
 unfold vm;rw[ame c,ame a]
theorem P9{d:Nat}(a i:Nat)(b:0<d):((a/BP (i+1)%d)*4294967296+a/BP i%4294967296)/d%4294967296=a/d/BP i%4294967296∧
  ((a/BP (i+1)%d)*4294967296+a/BP i%4294967296)%d=a/BP i%d∧((a/BP (i+1)%d)*4294967296+a/BP i%4294967296)/d<4294967296:=by
 rw[al7 a d,alS d,←al7 a _ d,jw];generalize a/BP i=A;have h:=fT (A/4294967296) d;have g:=al8 (A/4294967296) b;have f:A=4294967296*(A/4294967296)+A%4294967296:=fT _ _;generalize A/4294967296/d=q at*;generalize A/4294967296%d=r at*;have k:r*4294967296+A%4294967296<d*4294967296:=by
  have:(r+1)*4294967296≤d*4294967296:=alV _ g;omega
 have e:A=d*(4294967296*q)+(r*4294967296+A%4294967296):=by
  conv=>lhs;rw[f,h]
  rw[amO,anp];omega
 have c:(r*4294967296+A%4294967296)/d<4294967296:=by rw[amk b];omega
 have j:A/d=4294967296*q+(r*4294967296+A%4294967296)/d:=by
  conv=>lhs;rw[e]
  rw[eh b]
 refine⟨by rw[j];omega,?_,c⟩
 conv=>rhs;rw[e]
 rw[Nat.mul_add_mod]
end Lw
namespace Lw
structure dn where
 W:Nat
 V:Nat
 P:Nat
 top:Nat
 next:Nat
 v0:Nat
 head:Nat
 w2:Nat
 w0:Nat
structure dn.ok(p:dn):Prop where
 hV:p.V=(p.top*4294967296+p.next)*p.P+p.v0
 Rf:p.v0<p.P
 hW:p.W=(p.head*4294967296+p.w2)*p.P+p.w0
 hw0:p.w0<p.P
 ph:2147483648≤p.top
 Z9:p.top<4294967296
 NO:p.next<4294967296
 BN:p.w2<4294967296
 cM:p.W<4294967296*p.V
def dn.g(p:dn)(t:Nat):Nat:=p.head/p.top-t
def dn.r(p:dn)(t:Nat):Nat:=p.head%p.top+t*p.top
def dn.more(p:dn)(t:Nat):Prop:=p.r t<4294967296∧(4294967296≤p.g t∨p.r t*4294967296+p.w2<p.g t*p.next)
theorem dn.sum{p:dn}{t:Nat}(b:t≤p.head/p.top):p.g t*p.top+p.r t=p.head:=by
 unfold dn.g dn.r;have c:=am4 p.head p.top;obtain⟨q,a⟩:=Nat.exists_eq_add_of_le b;rw[a,amO]at c;rw[a,Nat.add_sub_cancel_left,alS q,alS t];omega
theorem dn.aiS{p:dn}(a:p.ok){G:Nat}(h:p.head*4294967296+p.w2+1≤G*(p.top*4294967296+p.next)):p.W<G*p.V:=by
 have b:=alV p.P h;have d:G*(p.top*4294967296+p.next)*p.P≤G*p.V:=by
  rw[alQ,a.hV];exact amc _ (aoA _ _)
 have c:=a.hw0;rw[a.hW];rw[amT (p.head*4294967296+p.w2) 1,amU]at b;omega
theorem dn.inv{p:dn}(a:p.ok){T:Nat}(b:∀t,t<T→p.more t):∀t,t≤T→t≤p.head/p.top∧p.W<(p.g t+1)*p.V
 |0,_=>by
  refine⟨amd _,dn.aiS a ?_⟩;have m:0<p.top:=by have:=a.ph;omega
  have l:p.head<(p.g 0+1)*p.top:=by
   have c:=dn.sum (p:=p) (t:=0) (amd _);have k:p.r 0<p.top:=by unfold dn.r;rw[am6,ans];exact al8 _ m
   rw[amT,amU];omega
  have c:=alV 4294967296 l;have k:=a.BN;have j:(p.g 0+1)*(p.top*4294967296+p.next)=(p.g 0+1)*p.top*4294967296+(p.g 0+1)*p.next:=by rw[amO,alQ]
  rw[j];have i:(p.head+1)*4294967296=p.head*4294967296+4294967296:=by rw[amT,amU]
  rw[Nat.succ_eq_add_one,i]at c;omega
 |t+1,n=>by
  obtain⟨i1,i2⟩:=dn.inv a b t (by omega)
  have hm:=b t (by omega)
  have e:=dn.sum (p:=p) i1;have key:p.W<p.g t*p.V:=by
   rcases hm.2 with h|h
   ·exact ami a.cM (alV _ h)
   ·refine dn.aiS a ?_
    rw[amO,←alQ];have g:=apF (·*4294967296) e;simp only[Nat.add_mul]at g;omega
  have d:0<p.g t:=by
   rcases alT (p.g t)with h|h
   ·rw[h,am6]at key;omega
   ·exact h
  have f:p.g (t+1)=p.g t-1:=by unfold dn.g;omega
  refine⟨by unfold dn.g at d;omega,?_⟩
  rw[f,show p.g t-1+1=p.g t by omega];exact key
theorem dn.stops{p:dn}(d:p.ok):∃T,(∀t,t<T→p.more t)∧¬p.more T:=by
 have e:¬p.more 2:=by
  intro h;have b:=h.1;have f:=d.ph;unfold dn.r at b;omega
 by_cases c:p.more 0
 ·by_cases b:p.more 1
  ·exact⟨2,fun t a=>by rcases(by omega:t=0∨t=1)with rfl|rfl<;>assumption,e⟩
  ·exact⟨1,fun t a=>by rw[show t=0 by omega];exact c,b⟩
 ·exact⟨0,fun t a=>apC a (by omega),c⟩
theorem dn.end{p:dn}(a:p.ok){T:Nat}(n:∀t,t<T→p.more t)(f:¬p.more T):p.g T<4294967296∧p.W<(p.g T+1)*p.V∧(p.g T-1)*p.V≤p.W:=by
 obtain⟨i1,i2⟩:=dn.inv a n T (alE _);have k:=dn.sum (p:=p) i1;have q:0<p.P:=by have:=a.Rf;omega
 have o:p.g T<4294967296:=by
  rcases alU (p.g T) 4294967296 with h|h
  ·exact h
  ·exfalso
   refine f ⟨?_,.inl h⟩;have c:4294967296*p.top≤p.g T*p.top:=alV _ h;have b:(p.head*4294967296+p.w2)*p.P<(4294967296*(p.top*4294967296+p.next+1))*p.P:=by
    have e:=a.cM;have d:=a.hW;have i:=a.hV;have g:=a.Rf;have r:4294967296*p.V≤(4294967296*(p.top*4294967296+p.next+1))*p.P:=by
     rw[alQ];refine amc _ ?_;rw[amT _ 1,amU];omega
    omega
   have e:=Nat.lt_of_mul_lt_mul_right b;have d:=a.NO;omega
 refine⟨o,i2,?_⟩;rcases alT (p.g T)with j|j
 ·rw[j];simp
 have s:(p.g T-1)*p.V≤p.g T*p.V:=alV _ (anF _ _);by_cases l:p.r T<4294967296
 ·have m:p.g T*p.next≤p.r T*4294967296+p.w2:=by
   rcases alU (p.r T*4294967296+p.w2) (p.g T*p.next)with h|h
   ·exact apC ⟨l,.inr h⟩ f
   ·exact h
  have c:p.g T*(p.top*4294967296+p.next)≤p.head*4294967296+p.w2:=by
   rw[amO,←alQ];have g:=apF (·*4294967296) k;simp only[Nat.add_mul]at g;omega
  have b:=alV p.P c;have e:(p.g T-1)*p.V≤(p.g T-1)*((p.top*4294967296+p.next)*p.P)+(p.g T-1)*p.P:=by
   rw[←amO];refine amc _ ?_;have:=a.hV;have:=a.Rf;omega
  have d:(p.g T-1)*p.P≤(p.top*4294967296+p.next)*p.P:=by
   refine alV _ ?_;have:=a.ph;omega
  have i:(p.g T-1)*((p.top*4294967296+p.next)*p.P)+(p.top*4294967296+p.next)*p.P=p.g T*(p.top*4294967296+p.next)*p.P:=by
   have:p.g T=(p.g T-1)+1:=by omega
   conv=>rhs;rw[this]
   rw[alQ];generalize(p.top*4294967296+p.next)*p.P=z
   rw[amT,amU]
  have:=a.hW;omega
 ·have c:p.V≤(p.top+1)*4294967296*p.P:=by
   have b:(p.top*4294967296+p.next+1)*p.P≤((p.top+1)*4294967296)*p.P:=by
    refine alV _ ?_;have:=a.NO;omega
   rw[amT _ 1,amU]at b;have:=a.hV;have:=a.Rf;omega
  have b:p.g T*p.V≤p.g T*((p.top+1)*4294967296*p.P):=amc _ c;have e:p.g T*((p.top+1)*4294967296*p.P)=(p.g T*p.top+p.g T)*4294967296*p.P:=by
   rw[←alQ,←alQ,amO,amH]
  have d:(p.g T*p.top+p.g T)*4294967296*p.P≤p.head*4294967296*p.P:=by
   refine alV _ (alV _ ?_);omega
  have i:p.head*4294967296*p.P≤(p.head*4294967296+p.w2)*p.P:=alV _ (aoA _ _);have:=a.hW;omega
theorem dn.digit{p:dn}(c:p.ok){T:Nat}(e:∀t,t<T→p.more t)(d:¬p.more T):
  (p.W<p.g T*p.V→p.W/p.V=p.g T-1∧0<p.g T)∧(¬p.W<p.g T*p.V→p.W/p.V=p.g T):=by
 obtain⟨i,g,f⟩:=dn.end c e d;refine⟨fun h=>?_,fun h=>?_⟩
 ·have b:0<p.g T:=by
   rcases alT (p.g T)with a|a
   ·rw[a,am6]at h;omega
   ·exact a
  refine⟨ape ?_ ?_,b⟩
  ·exact f
  ·rw[show p.g T-1+1=p.g T by omega];exact h
 ·exact ape (by omega) g
def bl(x:Nat):Nat:=if x=0 then 0 else x.log2+1
theorem TL(x:Nat):x<2^bl x:=by
 unfold bl;split
 ·rename_i h;subst h;decide
 ·rename_i h;exact(Nat.log2_lt h).1 (Nat.lt_succ_self _)
theorem Hm{x:Nat}(h:x≠0):2^(bl x-1)≤x:=by
 unfold bl;rw[apA h,aoo];exact(Nat.le_log2 h).1 (alE _)
theorem RX{x:Nat}(h:x≠0):0<bl x:=by unfold bl;rw[apA h];omega
theorem ajW{x k:Nat}(c:2^k≤x)(b:x<2^(k+1)):bl x=k+1:=by
 have a:x≠0:=by have:=am2 (n:=k) (show 0<2 by omega);omega
 unfold bl;rw[apA a];have:=(Nat.le_log2 a).2 c;have:=(Nat.log2_lt a).2 b;omega
theorem yh{x k:Nat}(h:2^k≤x):bl x=bl (x/2^k)+k:=by
 have a:0<2^k:=am2 (by omega)
 have d:x/2^k≠0:=by
  have:1≤x/2^k:=(aou a).2 (by omega)
  omega
 have c:=Hm d;have b:=TL (x/2^k);have e:=RX d;obtain⟨m,hm⟩:∃m,bl (x/2^k)=m+1:=⟨bl (x/2^k)-1,by omega⟩
 rw[hm]at c b⊢;rw[aoo,aou a,←amr]at c;rw[amk a,←amr]at b;rw[ajW (k:=m+k) c (by rw[show m+k+1=m+1+k by omega];exact b)];omega
theorem agH(R i V:Nat):R%(BP i*V)=BP i*(R/BP i%V)+R%BP i:=by rw[Nat.mod_mul];omega
theorem S9{i k:Nat}(h:k<i)(x y:Nat):(BP i*x+y)/BP k%4294967296=y/BP k%4294967296:=by
 have e:BP i*x=BP k*(4294967296*(BP (i-k-1)*x)):=by
  conv=>lhs;rw[show i=(k+(i-k-1))+1 by omega,df,kA]
  simp only[Nat.mul_assoc,Nat.mul_comm,Nat.mul_left_comm]
 rw[e,eh (cQ k)];omega
structure aE where
 a:Nat
 b:Nat
 n:Nat
 la:Nat
 lb:Nat
def aE.U(d:aE):Nat:=d.a*2^d.n
def aE.V(d:aE):Nat:=d.b*2^d.n
def aE.R(d:aE)(c:Nat):Nat:=d.U%(BP c*d.V)
def aE.W(d:aE)(i:Nat):Nat:=d.R (i+1)/BP i
structure aE.ok(d:aE):Prop where
 hn:d.n≤31
 L3:2≤d.lb
 hle:d.lb≤d.la
 ha:d.a<BP d.la
 hV:d.V<BP d.lb
 hV':2147483648*BP (d.lb-1)≤d.V
def aE.ju(d:aE)(i:Nat):dn where
 W:=d.W i
 V:=d.V
 P:=BP (d.lb-2)
 top:=d.V/BP (d.lb-1)
 next:=d.V/BP (d.lb-2)%4294967296
 v0:=d.V%BP (d.lb-2)
 head:=d.W i/BP (d.lb-1)
 w2:=d.W i/BP (d.lb-2)%4294967296
 w0:=d.W i%BP (d.lb-2)
theorem aE.afv{d:aE}(a:d.ok):0<d.V:=by have:=a.hV';have:=cQ (d.lb-1);omega
theorem aE.ah4{d:aE}(a:d.ok)(c:Nat):d.R c<BP c*d.V:=al8 _ (amK (cQ c) (aE.afv a))
theorem aE.ajZ{d:aE}(a:d.ok)(i:Nat):d.W i<4294967296*d.V:=by
 have h:=aE.ah4 a (i+1);unfold aE.W;rw[amk (cQ i)];rw[df,alS 4294967296,alQ,alS]at h;exact h
theorem aE.abN{d:aE}(a:d.ok)(i:Nat):d.W i<BP (d.lb+1):=by
 have:=aE.ajZ a i;have b:=a.hV;rw[df];omega
theorem Me(x lb:Nat)(h:2≤lb):x/BP (lb-1)=x/BP (lb-2)/4294967296:=by
 rw[←jw,show lb-2+1=lb-1 by omega]
theorem aE.ve{d:aE}(a:d.ok)(i:Nat):(d.ju i).ok where
 hV:=by
  show d.V=(d.V/BP (d.lb-1)*4294967296+d.V/BP (d.lb-2)%4294967296)*BP (d.lb-2)+d.V%BP (d.lb-2);rw[Me _ _ a.L3,alS (d.V/BP (d.lb-2)/4294967296),am4,alS,am4]
 Rf:=g_ _ _
 hW:=by
  show d.W i=(d.W i/BP (d.lb-1)*4294967296+d.W i/BP (d.lb-2)%4294967296)*BP (d.lb-2)+d.W i%BP (d.lb-2);rw[Me _ _ a.L3,alS (d.W i/BP (d.lb-2)/4294967296),am4,alS,am4]
 hw0:=g_ _ _
 ph:=(aou (cQ _)).2 a.hV'
 Z9:=by
  show d.V/BP (d.lb-1)<4294967296;have:=a.hV;rw[amk (cQ _),←df,show d.lb-1+1=d.lb by have:=a.L3;omega];exact this
 NO:=al8 _ (by omega)
 BN:=al8 _ (by omega)
 cM:=aE.ajZ a i
theorem aE.head_eq{d:aE}(a:d.ok)(i:Nat):d.W i/BP (d.lb-1)=d.W i/BP d.lb%4294967296*4294967296+d.W i/BP (d.lb-1)%4294967296:=by
 have b:=aE.abN a i;have e:d.W i/BP d.lb<4294967296:=by rw[amk (cQ _),←df];exact b
 have c:d.W i/BP d.lb=d.W i/BP (d.lb-1)/4294967296:=by rw[←jw,show d.lb-1+1=d.lb by have:=a.L3;omega]
 clear b;generalize d.W i/BP d.lb=x at*;generalize d.W i/BP (d.lb-1)=y at*;omega
theorem aE.digit(d:aE)(i:Nat):d.U/d.V/BP i%4294967296=d.W i/d.V%4294967296:=by
 unfold aE.W aE.R;rw[al7,alS d.V,df];have h:=am4 d.U (4294967296*BP i*d.V);have e:4294967296*BP i*d.V=BP i*d.V*4294967296:=by rw[alQ,alS]
 have a:d.U/(BP i*d.V)%4294967296=d.U%(BP i*d.V*4294967296)/(BP i*d.V)%4294967296:=by
  rw[Nat.mod_mul_right_div_self,Nat.mod_mod]
 rw[a,e,←al7]
theorem aE.abT(d:aE)(i:Nat):d.R i=BP i*(d.W i%d.V)+d.R (i+1)%BP i:=by
 have h:d.R i=d.R (i+1)%(BP i*d.V):=by
  unfold aE.R;rw[Nat.mod_mod_of_dvd];rw[df,alQ];exact Nat.dvd_mul_left _ _
 rw[h,agH];rfl
theorem aE.aj5(d:aE){i k:Nat}(h:k<i):d.R i/BP k%4294967296=d.R (i+1)/BP k%4294967296:=by
 rw[aE.abT,S9 h]
 conv=>rhs;rw[←am4 (d.R (i+1)) (BP i)]
 rw[S9 h]
theorem aE.aj4(d:aE){i r:Nat}:d.R i/BP (i+r)=d.W i%d.V/BP r:=by
 rw[aE.abT,kA,←al7,eh (cQ i),amn (g_ _ _),ans]
theorem aE.LN(d:aE){i r:Nat}:d.R (i+1)/BP (i+r)=d.W i/BP r:=by
 unfold aE.W;rw[kA,al7]
theorem aE.ah5{d:aE}(a:d.ok){i k:Nat}(h:i+d.lb+1≤k):d.R i/BP k=0∧d.R (i+1)/BP k=0:=by
 have l:=aE.ah4 a i;have j:=aE.ah4 a (i+1);have b:=a.hV;have e:BP (i+1+d.lb)≤BP k:=ni (by omega)
 have c:BP (i+d.lb)≤BP k:=ni (by omega)
 rw[kA]at e c;have g:BP i*d.V≤BP i*BP d.lb:=amc _ (amb b);have f:BP (i+1)*d.V≤BP (i+1)*BP d.lb:=amc _ (amb b);exact⟨amn (by omega),amn (by omega)⟩
theorem aE.start{d:aE}(a:d.ok):d.U<BP (d.la+1-d.lb)*d.V∧d.U<BP (d.la+1):=by
 have g:=a.ha;have b:2^d.n≤2147483648:=by
  have:=al3 (n:=2) (by omega) a.hn
  simpa using this
 have f:d.U<BP d.la*2147483648:=by
  unfold aE.U
  calc d.a*2^d.n≤d.a*2147483648:=amc _ b
   _<BP d.la*2147483648:=by omega
 have e:BP (d.la+1-d.lb)*(2147483648*BP (d.lb-1))≤BP (d.la+1-d.lb)*d.V:=amc _ a.hV';have c:BP (d.la+1-d.lb)*(2147483648*BP (d.lb-1))=BP d.la*2147483648:=by
  rw[anp,←kA,alS,show d.la+1-d.lb+(d.lb-1)=d.la by have:=a.L3;have:=a.hle;omega]
 refine⟨by omega,?_⟩
 rw[df];omega
theorem aE.ah3{d:aE}:d.R 0/2^d.n=d.a%d.b:=by
 unfold aE.R aE.U aE.V;rw[ig,amU,aoX,aoH _ (am2 (by omega))]
theorem aE.quot{d:aE}:d.U/d.V=d.a/d.b:=by
 unfold aE.U aE.V;rw[Nat.mul_div_mul_right _ _ (am2 (by omega))]
theorem aE.normal{a b:Nat}(g:2≤(words b).length)(q:b≤a):
  aE.ok ⟨a,b,32-bl ((words b).getD ((words b).length-1) 0),(words a).length,(words b).length⟩:=by
 have i:b≠0:=by rintro rfl;simp[pC]at g
 have f:=nk i;generalize j:(words b).getD ((words b).length-1) 0=x at f⊢;have c:x=b/BP ((words b).length-1)%4294967296:=by rw[←j,dh (bb b),aX]
 have p:=(aZ b (words b).length).1 (alE _);have hdiv:b/BP ((words b).length-1)<4294967296:=by
  rw[amk (cQ _),←df,show(words b).length-1+1=(words b).length by omega];exact p
 rw[ame hdiv]at c;have o:=TL x;have n:=Hm f;have s:=RX f;have r:bl x≤32:=by
  rcases alU 32 (bl x)with h|h
  ·have:2^32≤2^(bl x-1):=al3 (by omega) (by omega)
   have:(2:Nat)^32=4294967296:=by decide
   omega
  ·exact h
 have k:0<2^(32-bl x):=am2 (by omega)
 refine⟨by show 32-bl x≤31;omega,g,?_,(aZ a _).1 (alE _),?_,?_⟩
 ·exact(aZ b _).2 (amD q ((aZ a _).1 (alE _)))
 ·show b*2^(32-bl x)<BP (words b).length
  have e:BP (words b).length=4294967296*BP ((words b).length-1):=by rw[←df,show(words b).length-1+1=(words b).length by omega]
  have d:b<2^bl x*BP ((words b).length-1):=by
   rw[←amk (cQ _),←c];exact o
  have m:=ani d k;rw[e];have l:2^bl x*BP ((words b).length-1)*2^(32-bl x)=4294967296*BP ((words b).length-1):=by
   rw[Nat.mul_right_comm,←amr,show bl x+(32-bl x)=32 by omega]
  omega
 ·show 2147483648*BP ((words b).length-1)≤b*2^(32-bl x)
  have d:2^(bl x-1)*BP ((words b).length-1)≤b:=by
   rw[←aou (cQ _),←c];exact n
  have m:=alV (2^(32-bl x)) d;have l:2^(bl x-1)*BP ((words b).length-1)*2^(32-bl x)=2147483648*BP ((words b).length-1):=by
   rw[Nat.mul_right_comm,←amr,show bl x-1+(32-bl x)=31 by omega]
  omega
end Lw
namespace Lw
open Go Go.RowKit Go.Proofs
variable {G:World→Prop}
def u32(n:Nat):D:=.lit (.int .u32 (zNq n))
def u64(n:Nat):D:=.lit (.int .u64 (zNq n))
def int(n:Int):D:=.lit (.int .i64 n)
def nat(n:Nat):D:=.lit (.int .i64 (zNq n))
def bool(b:Bool):D:=.lit (.bool b)
def az(l:List Nat):D:=.row l.length false (l.map u32)
theorem C5{l:List Nat}{i:Nat}(h:i<l.length):((l.map u32).drop (i*1)).headD .any=u32 (l.getD i 0):=by
 rw[amH,List.headD_eq_head?_getD,List.head?_drop,ane,alK h,alD,alK h];rfl
theorem bO{x y:Int}(h:x=y):D.lit (.int .u64 x)=D.lit (.int .u64 y):=by rw[h]
theorem gB{x y:Int}(h:x=y):D.lit (.int .u32 x)=D.lit (.int .u32 y):=by rw[h]
theorem bQ{x y:Int}(h:x=y):D.lit (.int .i64 x)=D.lit (.int .i64 y):=by rw[h]
theorem c9{l:List Nat}{i:Nat}(h:i<l.length):((0:Int)≤zNq i∧zNq i<(l.length:Int))∧(zNq i).toNat*1<(l.map u32).length:=by
 simp only[List.length_map,zKq,Int.toNat_natCast];omega
theorem bu{l:List Nat}{i:Nat}(h:i<l.length):0<1∧1≤((l.map u32).drop ((zNq i).toNat*1)).length:=by
 simp only[List.length_drop,List.length_map,zKq,Int.toNat_natCast];omega
theorem a8{l:List Nat}{i:Nat}(h:i<l.length):((l.map u32).drop ((zNq i).toNat*1)).headD .any=u32 (l.getD i 0):=C5 h
theorem Xr(a:aa G)(l:List Nat)(i:Nat)(h:l.length≤i):Spec zZq G 183 [az l,nat i] (u64 0):=
 Spec.r a func183 [] [.eb 8 (x:=decide (zNq i<zNq l.length)) (y:=false) (by simp;omega)]
theorem acd(b:aa G)(l:List Nat)(a:fS l)(i:Nat)(h:i<l.length):Spec zZq G 183 [az l,nat i] (u64 (l.getD i 0)):=
  Spec.r b func183 [] [.eb 8 (x:=decide (zNq i<zNq l.length)) (y:=true) (by simp;omega),.prop (c9 h),.prop (bu h),.eq 12 (a8 h),
     .eq 13 (bO (x:=IntKind.wrap .u64 (zNq (l.getD i 0))) (y:=zNq (l.getD i 0)) (wrap64 (by have:=a.getD i;omega)))]
theorem rQ(a:aa G)(l:List Nat)(b:fS l)(i:Nat):Spec zZq G 183 [az l,nat i] (u64 (l.getD i 0)):=by
 rcases alU i l.length with h|h
 ·exact acd a l b i h
 ·have:=Xr a l i h
  rwa [show l.getD i 0=0 by simp[List.getD_eq_getElem?_getD,List.getElem?_eq_none h]]
def vD(l:List Nat)(i:Nat):St:=lay 25 [(0,az l),(3,nat (l.length-i))] []
theorem PU(d:aa G){l:List Nat}{i:Nat}(e:i<l.length-(words (val l)).length)(c:fS l)(f:l.length<2^60):
    ak zZq G 0 (ah f182 0) (vD l i) .normal (vD l (i+1)):=by
  have b:l.getD (l.length-(i+1)) 0=0:=(rO c).2.2.1 _ (by omega)
  have a:l.length-(i+1)<l.length:=by omega
  exact ak.r d [.eb 7 (x:=decide (zNq (l.length-i)>0)) (y:=true) (by simp;omega),
     .eq 11 (bQ (x:=IntKind.wrap .i64 (zNq (l.length-i)-1)) (y:=zNq (l.length-(i+1))) (by rw[py (by simp;omega) (by simp;omega)];simp;omega)),
     .prop (c9 a),.prop (bu a),.eq 13 (a8 a),.eb 14 (x:=zNq (l.getD (l.length-(i+1)) 0)==0) (y:=true) (by rw[b];rfl),
     .eq 17 (bQ (x:=IntKind.wrap .i64 (zNq (l.length-i)-1)) (y:=zNq (l.length-(i+1))) (by rw[py (by simp;omega) (by simp;omega)];simp;omega))]
theorem T_(b:aa G){l:List Nat}(d:fS l)(g:l.length<2^60):
    ak zZq G 0 (ah f182 0) (vD l (l.length-(words (val l)).length)) (.exit 0) (vD l (l.length-(words (val l)).length)):=by
  obtain⟨i,-,h,e⟩:=rO d;rcases alT (words (val l)).length with f|c
  · exact ak.r b [.eb 7 (x:=decide (zNq (l.length-(l.length-(words (val l)).length))>0)) (y:=false) (by simp;omega)]
  · have a:(words (val l)).length-1<l.length:=by omega
    exact ak.r b [.eb 7 (x:=decide (zNq (l.length-(l.length-(words (val l)).length))>0)) (y:=true) (by simp;omega),
       .eq 11 (bQ (x:=IntKind.wrap .i64 (zNq (l.length-(l.length-(words (val l)).length))-1)) (y:=zNq ((words (val l)).length-1)) (by rw[py (by simp;omega) (by simp;omega)];simp;omega)),
       .prop (c9 a),.prop (bu a),.eq 13 (a8 a),.eb 14 (x:=zNq (l.getD ((words (val l)).length-1) 0)==0) (y:=false) (by rw[beq_eq_false_iff_ne];have:=e c;simp only[zKq];omega)]
theorem IH(c:aa G){l:List Nat}(a:fS l)(b:l.length<2^60):
  bT zZq G 25 0 (.loop (ah f182 0)) (vD l 0) (.exit 0) (vD l (l.length-(words (val l)).length)):=
 bT.count (vD l) _ (fun i=>ar _ _ _) (by simp) (fun i d=>PU c d a b) (T_ c a b)
theorem mf(c:aa G){l:List Nat}(g:fS l)(m:l.length≤2^45):Spec zZq G 182 [az l] (az (words (val l))):=by
  have i:l.length<2^60:=by omega
  obtain⟨n,k,-,-⟩:=rO g;have f:l.length-(l.length-(words (val l)).length)=(words (val l)).length:=by omega
  by_cases e:words (val l)=[]
  · have h:(words (val l)).length=0:=by rw[e];rfl
    have:=Spec.r c func182 [] (args:=[az l]) (r:=az [])
      [.code (IH c g i),.eb 19 (x:=zNq (l.length-(l.length-(words (val l)).length))==0) (y:=true) (by rw[f,h];rfl)]
    rw[e];exact this
  · have h:0<(words (val l)).length:=by cases j:words (val l)with|nil=>exact apC j e|cons a b=>simp
    refine Spec.r c func182 [24] (args:=[az l]) (r:=az (words (val l)))
      [.code (IH c g i),.eb 19 (x:=zNq (l.length-(l.length-(words (val l)).length))==0) (y:=false) (by rw[f];simp;omega),
       .eq 22 (d:=nat (l.length-(l.length-(words (val l)).length))) (d':=nat (words (val l)).length) (by rw[f]),
       .prop (p:=(0:Int)≤0∧0≤zNq (words (val l)).length∧zNq (words (val l)).length≤zNq l.length) (by simp;omega),
       .eq 23 (d:=.row ((zNq (words (val l)).length).toNat-(0:Int).toNat) (false&&false) (((l.map u32).drop ((0:Int).toNat*1)).take (((zNq (words (val l)).length).toNat-(0:Int).toNat)*1))) (d':=az (words (val l))) ?_,
       .prop (p:=([]:List D).length=0*1∧((words (val l)).map u32).length=(words (val l)).length*1∧0+(words (val l)).length≤2^62∧(0+(words (val l)).length)*4≤2^47) (by simp;omega),
       .eq 24 (d:=.row (0+(words (val l)).length) false ([]++(words (val l)).map u32)) (d':=az (words (val l))) (by simp[az])]
    simp only[zKq,Int.toNat_natCast,Int.toNat_zero,Nat.mul_one,Nat.sub_zero,List.drop_zero,Bool.false_and];rw[←aoi,←k];rfl
end Lw
namespace Lw
open Go Go.RowKit Go.Proofs
variable {G:World→Prop}
def cK(N:Nat)(f:Nat→Nat):List D:=(List.range N).map fun j=>u32 (f j)
theorem du(N:Nat)(f:Nat→Nat):(cK N f).length=N:=by simp[cK]
theorem a_{N:Nat}{f g:Nat→Nat}(h:∀j,j<N→f j=g j):cK N f=cK N g:=amQ fun j a=>by rw[h j (by simpa using a)]
theorem mX(N:Nat):List.replicate N (u32 0)=cK N (fun _=>0):=by
 apply anY
 ·simp[cK]
 ·intro i b a;simp[cK]
theorem fE{N i:Nat}(f:Nat→Nat)(v:Nat)(h:i<N):aF (cK N f) i [u32 v]=cK N (fun j=>if j=i then v else f j):=by
 apply apn;intro k;simp only[aF,cK,List.length_singleton];by_cases c:k<i
 ·rw[amp (by simp;omega),amA,apB c]
  have:k<N:=by omega
  simp[this,Nat.ne_of_lt c]
 ·by_cases b:k=i
  ·subst b
   rw[aml (by simp;omega)]
   simp[h,Nat.min_eq_left (Nat.le_of_lt h)]
  ·rw[aml (by simp;omega)]
   have e:k-((List.map (fun j=>u32 (f j)) (List.range N)).take i).length=(k-i-1)+1:=by simp;omega
   rw[e,List.singleton_append,List.getElem?_cons_succ,anh];have d:i+1+(k-i-1)=k:=by omega
   rw[d];by_cases a:k<N
   ·simp[a,b]
   ·simp[a]
theorem B'(N s:Nat):cK N (fun j=>s/BP j%4294967296)=(fc N s).map u32:=by simp[cK,fc]
theorem kM{N:Nat}{f:Nat→Nat}{i:Nat}(h:i<N):((cK N f).drop i).headD .any=u32 (f i):=by
 rw[List.headD_eq_head?_getD,List.head?_drop];simp[cK,h]
theorem p9(N s:Nat):D.row N false (((cK N (fun j=>s/BP j%4294967296)).drop 0).take N)=az (fc N s):=by
 rw[B',amS,al4 (by simp[dz])]
 unfold az;rw[dz]
theorem iN{N s:Nat}(h:s<BP N):words (val (fc N s))=words s:=by rw[AX h]
theorem fdiv_pow(s k:Nat):(zNq s).fdiv (2^k)=zNq (s/2^k):=by
 have e:(2:Int)^k=zNq (2^k):=by simp
 rw[e];exact(Int.ofNat_fdiv s (2^k)).symm
theorem qY(s:Nat):(zNq s).fdiv (2^min (Int.toNat 32) (IntKind.bits .u64))=zNq (s/4294967296):=by
 rw[show min (Int.toNat 32) (IntKind.bits .u64)=32 by decide,fdiv_pow]
theorem aeW(s:Nat):(zNq s).fdiv (2^min (Int.toNat 63) (IntKind.bits .u64))=zNq (s/9223372036854775808):=by
 rw[show min (Int.toNat 63) (IntKind.bits .u64)=63 by decide,fdiv_pow]
theorem cw{i:Nat}(h:i<2^60):IntKind.wrap .i64 (zNq i+1)=zNq (i+1):=by
 have a:=apH;rw[py (by simp;omega) (by simp;omega)];simp
theorem kG{i:Nat}(h:i<2^60)(b:0<i):IntKind.wrap .i64 (zNq i-1)=zNq (i-1):=by
 have a:=apH;rw[py (by simp;omega) (by simp;omega)];simp;omega
theorem ay{i N:Nat}(h:i<N):decide (zNq i<zNq N)=true:=by simpa using h
theorem aH{i N:Nat}(h:N≤i):decide (zNq i<zNq N)=false:=by simpa using h
theorem jC(b i:Nat):D.ptr b (0+(zNq i).toNat*1)=.ptr b i:=by simp
theorem dp{i N:Nat}(h:i<N):(0:Int)≤zNq i∧zNq i<(N:Int):=by simp;omega
theorem kQ{N:Nat}(h:N≤2^45):zNq N=zNq N∧0≤zNq N∧zNq N*4≤2^47∧zNq N≤2^62:=by
 have c:=apI;have b:(2:Int)^47=140737488355328:=by decide
 have a:(2:Int)^62=4611686018427387904:=by decide
 rw[b,a];simp;omega
def I3(a b i j:Nat):Nat:=if j<i then(a+b)/BP j%4294967296 else 0
def dI(l m:List Nat):Nat:=max l.length m.length+1
def pY(l m:List Nat)(i:Nat):St:=
 lay 39 [(0,az l),(1,az m),(5,.bz 0 0 (dI l m) (dI l m)),(6,u64 (mz (val l) (val m) i)),(16,nat (dI l m)),(17,nat i)] [(0,cK (dI l m) (I3 (val l) (val m) i))]
theorem Qy(d:aa G){l m:List Nat}(b:fS l)(a:fS m){i:Nat}(c:i<dI l m)(q:dI l m<2^60):
    ak zZq G 0 (ah f126 0) (pY l m i) .normal (pY l m (i+1)):=by
  have g:=Dt (val l) (val m) i;have k:=Hi (val l) (val m) i;rw[←dh b,←dh a]at g k;have t:=b.getD i;have s:=a.getD i;have r:=Lv (val l) (val m) i;have e:pY l m (i+1)=lay 39 [(0,az l),(1,az m),(5,.bz 0 0 (dI l m) (dI l m)),(6,u64 (mz (val l) (val m) (i+1))),(16,nat (dI l m)),(17,nat (i+1))]
      [(0,aF (cK (dI l m) (I3 (val l) (val m) i)) i [u32 ((val l+val m)/BP i%4294967296)])]:=by
    rw[fE _ _ c];unfold pY;congr 3;refine a_ fun j o=>?_
    unfold I3;by_cases f:j=i
    · subst f;simp
    · rw[apA f];by_cases h:j<i
      · rw[apB h,apB (by omega)]
      · rw[apA h,apA (by omega)]
  rw[e];exact ak.r d [.eb 18 (ay c),.call (rQ d l b i),.call (rQ d m a i),
     .eq 27 (bO (x:=IntKind.wrap .u64 (zNq (l.getD i 0)+zNq (m.getD i 0))) (y:=zNq (l.getD i 0+m.getD i 0)) (wrap64 (n:=l.getD i 0+m.getD i 0) (by omega))),
     .eq 28 (bO (x:=IntKind.wrap .u64 (zNq (mz (val l) (val m) i)+zNq (l.getD i 0+m.getD i 0))) (y:=zNq (mz (val l) (val m) i+(l.getD i 0+m.getD i 0))) (wrap64 (n:=mz (val l) (val m) i+(l.getD i 0+m.getD i 0)) (by omega))),
     .eq 32 (gB (x:=IntKind.wrap .u32 (zNq (mz (val l) (val m) i+(l.getD i 0+m.getD i 0)))) (y:=zNq ((val l+val m)/BP i%4294967296)) (by rw[←k];exact wrap32)),
     .prop (dp c),.eq 33 (jC 0 i),.prop (p:=i+1≤(cK (dI l m) (I3 (val l) (val m) i)).length) (by rw[du];omega),
     .eq 35 (bO (x:=(zNq (mz (val l) (val m) i+(l.getD i 0+m.getD i 0))).fdiv (2^min (Int.toNat 32) (IntKind.bits .u64))) (y:=zNq (mz (val l) (val m) (i+1))) (by rw[qY,←g])),
     .eq 36 (bQ (cw (i:=i) (by omega)))]
theorem UN(a:aa G){l m:List Nat}:ak zZq G 0 (ah f126 0) (pY l m (dI l m)) (.exit 0) (pY l m (dI l m)):=
 ak.r a [.eb 18 (aH (alE (dI l m)))]
theorem UM(a:aa G){l m:List Nat}(c:fS l)(b:fS m)(f:dI l m<2^60):
  bT zZq G 39 0 (.loop (ah f126 0)) (lay 39 [(0,az l),(1,az m),(5,.bz 0 0 (dI l m) (dI l m)),(6,u64 0),(16,nat (dI l m)),(17,nat 0)] [(0,List.replicate (dI l m) (u32 0))]) (.exit 0)
   (pY l m (dI l m)):=by
 have h:=bT.count (pY l m) (dI l m) (fun i=>ar _ _ _) (by simp) (fun i d=>Qy a c b d f) (UN a)
 have e:pY l m 0=lay 39 [(0,az l),(1,az m),(5,.bz 0 0 (dI l m) (dI l m)),(6,u64 0),(16,nat (dI l m)),(17,nat 0)] [(0,List.replicate (dI l m) (u32 0))]:=by
  rw[mX];unfold pY;rw[Ds];congr 3
 rw[e]at h;exact h
theorem EU(l m:List Nat):(if zNq m.length>zNq l.length then zNq m.length else zNq l.length)=zNq (max l.length m.length):=by
 split
 ·rename_i h;simp at h;rw[apu (by omega)]
 ·rename_i h;simp at h;rw[Nat.max_eq_left (by omega)]
theorem I2{l m:List Nat}(b:fS l)(a:fS m):val l+val m<BP (dI l m):=by
 have f:=mG b;have e:=mG a;have d:BP l.length≤BP (max l.length m.length):=ni (aol _ _);have c:BP m.length≤BP (max l.length m.length):=ni (aoe _ _);unfold dI;rw[df];omega
theorem UL(a:aa G){l m:List Nat}(e:fS l)(c:fS m)(p:l.length≤2^44)(o:m.length≤2^44):
    Spec zZq G 126 [az l,az m] (az (words (val l+val m))):=by
  have n:=apJ;have k:=apI;have f:dI l m≤2^45:=by unfold dI;omega
  have g:=I2 e c;have b:=mf (G:=G) a (l:=fc (dI l m) (val l+val m)) (jx _ _) (by rw[dz];exact f)
  rw[iN g]at b;refine Spec.r a func126 [] (args:=[az l,az m])
    [.eq 12 (bQ (EU l m)),.eq 13 (bQ (cw (i:=max l.length m.length) (by omega))),.prop (kQ f),.code (UM a e c (by omega)),.freeze 0,
     .eq 37 (d:=D.row (dI l m) false (((cK (dI l m) (I3 (val l) (val m) (dI l m))).drop 0).take (dI l m))) (d':=az (fc (dI l m) (val l+val m))) ?_,.call b]
  rw[←p9];congr 3;exact a_ fun j h=>by unfold I3;rw[apB h]
end Lw
namespace Lw
open Go Go.RowKit Go.Proofs
variable {G:World→Prop}
def w6(x y:Nat):Nat:=(x+18446744073709551616-y)%18446744073709551616
theorem AV{x y:Nat}(h:y≤18446744073709551616):IntKind.wrap .u64 (zNq x-zNq y)=zNq (w6 x y):=by
 rw[pU];unfold w6;simp only[zKq];omega
theorem Sw{x y c:Nat}(b:x<4294967296)(a:y<4294967296)(d:c≤1):w6 (w6 x y) c/9223372036854775808=if x<y+c then 1 else 0:=by
 unfold w6;split<;>omega
theorem Sv{x y c:Nat}(b:x<4294967296)(a:y<4294967296)(d:c≤1):((w6 (w6 x y) c%4294967296:Nat):Int)=((x:Int)-y-c)%4294967296:=by
 unfold w6;omega
def Jm(a b i j:Nat):Nat:=if j<i then(a-b)/BP j%4294967296 else 0
theorem afk{N i:Nat}(b:i<N)(g:Nat→Nat):aF (cK N (fun j=>if j<i then g j else 0)) i [u32 (g i)]=cK N (fun j=>if j<i+1 then g j else 0):=by
 rw[fE _ _ b];refine a_ fun j _=>?_
 by_cases a:j=i
 ·subst a;simp
 ·rw[apA a];by_cases h:j<i
  ·rw[apB h,apB (by omega)]
  ·rw[apA h,apA (by omega)]
def p7(l m:List Nat)(i:Nat):St:=
 lay 38 [(0,az l),(1,az m),(5,.bz 0 0 l.length l.length),(6,u64 (fB (val l) (val m) i)),(13,nat l.length),(14,nat i)] [(0,cK l.length (Jm (val l) (val m) i))]
theorem agW{l:List Nat}(a:fS l)(i:Nat):IntKind.wrap .u64 (zNq (l.getD i 0))=zNq (l.getD i 0):=wrap64 (by have:=a.getD i;omega)
theorem Q5(g:aa G){l m:List Nat}(c:fS l)(b:fS m)(hle:val m≤val l){i:Nat}(a:i<l.length)(q:l.length<2^60):
    ak zZq G 0 (ah f128 0) (p7 l m i) .normal (p7 l m (i+1)):=by
  have d:=Dm (val l) (val m) i;have f:=Hb hle i;rw[←dh c,←dh b]at d f;have n:=c.getD i;have k:=b.getD i;have h:=wD (val l) (val m) i;have e:p7 l m (i+1)=lay 38 [(0,az l),(1,az m),(5,.bz 0 0 l.length l.length),(6,u64 (fB (val l) (val m) (i+1))),(13,nat l.length),(14,nat (i+1))]
      [(0,aF (cK l.length (Jm (val l) (val m) i)) i [u32 ((val l-val m)/BP i%4294967296)])]:=by
    unfold p7;have:=afk a (fun j=>(val l-val m)/BP j%4294967296)
    have o:Jm (val l) (val m) i=fun j=>if j<i then(val l-val m)/BP j%4294967296 else 0:=rfl
    rw[o,this];rfl
  rw[e];exact ak.r g [.eb 15 (ay a),.prop (c9 a),.prop (bu a),.eq 20 (a8 a),.eq 21 (bO (agW c i)),.call (rQ g m b i),
     .eq 25 (bO (x:=IntKind.wrap .u64 (zNq (l.getD i 0)-zNq (m.getD i 0))) (AV (by omega))),
     .eq 27 (bO (x:=IntKind.wrap .u64 (zNq (w6 (l.getD i 0) (m.getD i 0))-zNq (fB (val l) (val m) i))) (AV (by omega))),
     .eq 31 (gB (x:=IntKind.wrap .u32 (zNq (w6 (w6 (l.getD i 0) (m.getD i 0)) (fB (val l) (val m) i)))) (y:=zNq ((val l-val m)/BP i%4294967296)) (by
        rw[show zNq ((val l-val m)/BP i%4294967296)=(((val l-val m)/BP i%4294967296:Nat):Int)from rfl,←f,←Sv n k h];exact wrap32)),
     .prop (dp a),.eq 32 (jC 0 i),.prop (p:=i+1≤(cK l.length (Jm (val l) (val m) i)).length) (by rw[du];omega),
     .eq 34 (bO (x:=(zNq (w6 (w6 (l.getD i 0) (m.getD i 0)) (fB (val l) (val m) i))).fdiv (2^min (Int.toNat 63) (IntKind.bits .u64))) (y:=zNq (fB (val l) (val m) (i+1))) (by rw[aeW,Sw n k h,←d])),
     .eq 35 (bQ (cw (i:=i) (by omega)))]
theorem Vd(a:aa G){l m:List Nat}:ak zZq G 0 (ah f128 0) (p7 l m l.length) (.exit 0) (p7 l m l.length):=
 ak.r a [.eb 15 (aH (alE l.length))]
theorem Vc(a:aa G){l m:List Nat}(c:fS l)(b:fS m)(hle:val m≤val l)(f:l.length<2^60):
  bT zZq G 38 0 (.loop (ah f128 0)) (lay 38 [(0,az l),(1,az m),(5,.bz 0 0 l.length l.length),(6,u64 0),(13,nat l.length),(14,nat 0)] [(0,List.replicate l.length (u32 0))]) (.exit 0)
   (p7 l m l.length):=by
 have h:=bT.count (p7 l m) l.length (fun i=>ar _ _ _) (by simp) (fun i d=>Q5 a c b hle d f) (Vd a)
 have e:p7 l m 0=lay 38 [(0,az l),(1,az m),(5,.bz 0 0 l.length l.length),(6,u64 0),(13,nat l.length),(14,nat 0)] [(0,List.replicate l.length (u32 0))]:=by
  rw[mX];unfold p7;rw[vj];congr 3
 rw[e]at h;exact h
theorem Vb(a:aa G){l m:List Nat}(c:fS l)(g:fS m)(hle:val m≤val l)(n:l.length≤2^44):
    Spec zZq G 128 [az l,az m] (az (words (val l-val m))):=by
  have k:=apJ;have i:=apI;have e:l.length≤2^45:=by omega
  have f:val l-val m<BP l.length:=amD (anF _ _) (mG c);have b:=mf (G:=G) a (l:=fc l.length (val l-val m)) (jx _ _) (by rw[dz];exact e)
  rw[iN f]at b;refine Spec.r a func128 [] (args:=[az l,az m])
    [.prop (kQ e),.code (Vc a c g hle (by omega)),.freeze 0,
     .eq 36 (d:=D.row l.length false (((cK l.length (Jm (val l) (val m) l.length)).drop 0).take l.length)) (d':=az (fc l.length (val l-val m))) ?_,.call b]
  rw[←p9];congr 3;exact a_ fun j h=>by unfold Jm;rw[apB h]
def JO:Nat→Int
 |0=> -1
 |i+1=>zNq i
theorem ahD(c:Nat):JO c=(c:Int)-1:=by
 cases c with
 |zero=>rfl
 |succ i=>show zNq i=_;simp
theorem lh{n:Nat}(h:n<2^60):IntKind.wrap .i64 (zNq n-1)=JO n:=by
 have a:=apH;rw[py (by simp;omega) (by simp;omega),ahD];rfl
def jK(a b:Nat):Int:=if a<b then -1 else if b<a then 1 else 0
theorem y8{a b i:Nat}(h:a/BP (i+1)=b/BP (i+1)):(a/BP i%4294967296=b/BP i%4294967296→a/BP i=b/BP i)∧(a/BP i%4294967296<b/BP i%4294967296→a<b):=by
 rw[jw,jw]at h;refine⟨fun e=>by omega,fun e=>?_⟩
 have f:a/BP i<b/BP i:=by omega
 rcases alU a b with d|d
 ·exact d
 ·have:=ao3 (c:=BP i) d;omega
theorem AW{a b:Nat}(h:(words a).length<(words b).length):a<b:=by
 rcases alU a b with c|c
 ·exact c
 ·exfalso
  have d:=(aZ a (words a).length).1 (alE _);have e:=(aZ b (words a).length).2 (amD c d);omega
theorem lM(a i:Nat):(words a).getD i 0=a/BP i%4294967296:=by rw[dh (bb a),aX]
theorem Iw(a:Nat):a/BP (words a).length=0:=amn ((aZ a _).1 (alE _))
def td(a b c:Nat):St:=lay 41 [(0,az (words a)),(1,az (words b)),(5,int (JO c))] []
theorem yb(f:aa G){a b i:Nat}(d:i<(words a).length)(c:i<(words b).length)(e:(words a).getD i 0=(words b).getD i 0)(g:(words a).length<2^60):
    ak zZq G 0 (ah f127 0) (td a b (i+1)) .normal (td a b i):=
  ak.r f [.eb 20 (x:=decide (zNq i≥0)) (y:=true) (by simp),.prop (c9 d),.prop (bu d),.eq 26 (a8 d),.prop (c9 c),.prop (bu c),.eq 30 (a8 c),
     .eb 31 (x:=zNq ((words a).getD i 0) !=zNq ((words b).getD i 0)) (y:=false) (by rw[e];simp),.eq 22 (bQ (lh (n:=i) (by omega)))]
theorem ahE(f:aa G){a b i:Nat}(d:i<(words a).length)(c:i<(words b).length)(e:(words a).getD i 0<(words b).getD i 0):
    ak zZq G 0 (ah f127 0) (td a b (i+1)) .ret (lay 41 [(4,int (-1))] []):=
  ak.r f [.eb 20 (x:=decide (zNq i≥0)) (y:=true) (by simp),.prop (c9 d),.prop (bu d),.eq 26 (a8 d),.prop (c9 c),.prop (bu c),.eq 30 (a8 c),
     .eb 31 (x:=zNq ((words a).getD i 0) !=zNq ((words b).getD i 0)) (y:=true) (by simp only[bne_iff_ne,zKq];omega),
     .prop (c9 d),.prop (bu d),.eq 35 (a8 d),.prop (c9 c),.prop (bu c),.eq 39 (a8 c),
     .eb 40 (x:=decide (zNq ((words a).getD i 0)<zNq ((words b).getD i 0))) (y:=true) (ay e)]
theorem ahF(f:aa G){a b i:Nat}(d:i<(words a).length)(c:i<(words b).length)(e:(words b).getD i 0<(words a).getD i 0):
    ak zZq G 0 (ah f127 0) (td a b (i+1)) .ret (lay 41 [(4,int 1)] []):=
  ak.r f [.eb 20 (x:=decide (zNq i≥0)) (y:=true) (by simp),.prop (c9 d),.prop (bu d),.eq 26 (a8 d),.prop (c9 c),.prop (bu c),.eq 30 (a8 c),
     .eb 31 (x:=zNq ((words a).getD i 0) !=zNq ((words b).getD i 0)) (y:=true) (by simp only[bne_iff_ne,zKq];omega),
     .prop (c9 d),.prop (bu d),.eq 35 (a8 d),.prop (c9 c),.prop (bu c),.eq 39 (a8 c),
     .eb 40 (x:=decide (zNq ((words a).getD i 0)<zNq ((words b).getD i 0))) (y:=false) (aH (amb e))]
theorem aee(c:aa G){a b:Nat}:ak zZq G 0 (ah f127 0) (td a b 0) (.exit 0) (td a b 0):=
 ak.r c []
theorem Ol(d:aa G){a:Nat}(e:(words a).length<2^60):
  bT zZq G 41 0 (.loop (ah f127 0)) (td a a (words a).length) (.exit 0) (td a a 0):=
 bT.rounds (fun c=>c≤(words a).length) (td a a) id (fun i=>ar _ _ _) (by simp) (fun c b=>by
  cases c with
  |zero=>exact .inr (aee d)
  |succ i=>exact .inl ⟨i,by omega,by simp,yb d b b rfl e⟩) _ (alE _)
theorem Oj(f:aa G){a b:Nat}(k:a≠b)(g:(words a).length=(words b).length)(j:(words a).length<2^60):
  bT zZq G 41 0 (.loop (ah f127 0)) (td a b (words a).length) .ret (lay 41 [(4,int (jK a b))] []):=
 bT.rounds (fun c=>c≤(words a).length∧a/BP c=b/BP c) (td a b) id (fun i=>ar _ _ _) (by simp) (fun c d=>by
  obtain⟨d,e⟩:=d;cases c with
  |zero=>exact apC (by rw[ig,amN,amN]at e;exact e) k
  |succ i=>
   obtain⟨d1,d2⟩:=y8 e;obtain⟨-,d3⟩:=y8 e.symm;rw[←lM,←lM]at d1 d2 d3;rcases ano ((words a).getD i 0) ((words b).getD i 0)with h|h|h
   ·right
    have:=ahE (G:=G) f d (by omega) h
    rw[show jK a b= -1 by unfold jK;rw[apB (d2 h)]];exact this
   ·exact .inl ⟨i,⟨by omega,d1 h⟩,by simp,yb f d (by omega) h j⟩
   ·right
    have:=ahF (G:=G) f d (by omega) h
    rw[show jK a b=1 by unfold jK;have:=d3 h;rw[apA (by omega),apB this]];exact this) _ ⟨alE _,by rw[Iw,g,Iw]⟩
theorem my(c:aa G)(a b:Nat)(g:(words a).length≤2^44)(f:(words b).length≤2^44):
  Spec zZq G 127 [az (words a),az (words b)] (int (jK a b)):=by
 have d:=apJ;have e:=apH;rcases ano (words a).length (words b).length with h|h|h
 ·have:=AW h
  rw[show jK a b= -1 by unfold jK;rw[apB this]]
  exact Spec.r c func127 [] [.eb 10 (x:=zNq (words a).length !=zNq (words b).length) (y:=true) (by simp only[bne_iff_ne,zKq];omega),.eb 15 (ay h)]
 ·by_cases he:a=b
  ·subst he
   rw[show jK a a=0 by unfold jK;rw[apA (by omega),apA (by omega)]]
   exact Spec.r c func127 [] [.eb 10 (x:=zNq (words a).length !=zNq (words a).length) (y:=false) (by simp),.eq 18 (bQ (lh (n:=(words a).length) (by omega))),.code (Ol (a:=a) c (by omega))]
  ·exact Spec.r c func127 [] [.eb 10 (x:=zNq (words a).length !=zNq (words b).length) (y:=false) (by rw[h];simp),.eq 18 (bQ (lh (n:=(words a).length) (by omega))),.code (Oj c he h (by omega))]
 ·have:=AW h
  rw[show jK a b=1 by unfold jK;rw[apA (by omega),apB this]]
  exact Spec.r c func127 [] [.eb 10 (x:=zNq (words a).length !=zNq (words b).length) (y:=true) (by simp only[bne_iff_ne,zKq];omega),.eb 15 (aH (amb h))]
end Lw
namespace Lw
open Go Go.RowKit Go.Proofs
variable {G:World→Prop}
def ir(l m:List Nat)(i:Nat):Nat:=val l%BP i*val m
def z_(l m:List Nat)(i:Nat):Nat:=ir l m i+l.getD i 0*val m*BP i
theorem Sp{l:List Nat}(a:fS l)(m:List Nat)(i:Nat):z_ l m i=ir l m (i+1):=by
 unfold z_ ir;rw[jq,←dh a,amT,alQ,alS (val m) (BP i),←alQ,alS (l.getD i 0),amR]
theorem A1(l m:List Nat)(i k:Nat):z_ l m i/BP (i+k)=(ir l m i/BP i+l.getD i 0*val m)/BP k:=by
 unfold z_;rw[kA,←al7,anr _ _ (cQ i)]
theorem Ml(l m:List Nat)(i k:Nat):ir l m i/BP (i+k)=ir l m i/BP i/BP k:=by rw[kA,al7]
theorem EM{l m:List Nat}(b:fS m)(i:Nat)(a:0<BP m.length):ir l m i<BP (i+m.length):=by
 unfold ir;rw[kA];have d:=g_ (val l) i;have c:=mG b
 calc val l%BP i*val m≤val l%BP i*BP m.length:=amc _ (amb c)
  _<BP i*BP m.length:=ani d a
def rn(l m:List Nat)(i k j:Nat):Nat:=if j<i+k then z_ l m i/BP j%4294967296 else ir l m i/BP j%4294967296
def mH(l m:List Nat)(i k:Nat):Nat:=vm (ir l m i/BP i) (l.getD i 0) (val m) k
def da(l m:List Nat):Nat:=l.length+m.length
def zF(l m:List Nat)(i k:Nat):St:=
 lay 67 [(0,az l),(1,az m),(5,.bz 0 0 (da l m) (da l m)),(6,nat i),(7,u32 (l.getD i 0)),(8,u64 (mH l m i k)),(17,az l),(18,nat l.length),(19,nat i),(24,az m),(25,nat m.length),(26,nat k)]
  [(0,cK (da l m) (rn l m i k))]
theorem oR{i k:Nat}(h:i+k<2^60):IntKind.wrap .i64 (zNq i+zNq k)=zNq (i+k):=by
 have a:=apH;rw[py (by simp;omega) (by simp;omega)];simp
theorem wrap_add{x y:Nat}(h:x+y<18446744073709551616):IntKind.wrap .u64 (zNq x+zNq y)=zNq (x+y):=wrap64 (n:=x+y) h
theorem wrap_mul{x y:Nat}(h:x*y<18446744073709551616):IntKind.wrap .u64 (zNq x*zNq y)=zNq (x*y):=wrap64 (n:=x*y) h
theorem iZ{x:Nat}(h:x<4294967296):IntKind.wrap .u64 (zNq x)=zNq x:=wrap64 (by omega)
theorem il(x:Nat):IntKind.wrap .u32 (zNq x)=zNq (x%4294967296):=wrap32
theorem xK{x y:Nat}(b:x<4294967296)(a:y<4294967296):x*y≤18446744065119617025:=by
 have:x*y≤4294967295*4294967295:=al' (by omega) (by omega)
 omega
theorem Ue(u:aa G){l m:List Nat}(t:fS l)(n:fS m){i k:Nat}(z:i<l.length)(a:k<m.length)(B:da l m<2^60):
    ak zZq G 0 (ah f136 1) (zF l m i k) .normal (zF l m i (k+1)):=by
  have w:=apH;have b:i+k<da l m:=by unfold da;omega
  have c:=t.getD i;have g:=n.getD k;have h:=Dq (ir l m i/BP i) (l.getD i 0) (val m) k;have f:=Hf (ir l m i/BP i) (l.getD i 0) (val m) k;rw[←dh n,←Ml]at h f;rw[←A1]at f;have A:=Ca (ir l m i/BP i) (val m) k c;have r:=xK c g;have s:ir l m i/BP (i+k)%4294967296<4294967296:=al8 _ (by omega)
  have v:rn l m i k (i+k)=ir l m i/BP (i+k)%4294967296:=by unfold rn;rw[apA (by omega)]
  have e:zF l m i (k+1)=lay 67 [(0,az l),(1,az m),(5,.bz 0 0 (da l m) (da l m)),(6,nat i),(7,u32 (l.getD i 0)),(8,u64 (mH l m i (k+1))),(17,az l),(18,nat l.length),(19,nat i),(24,az m),(25,nat m.length),(26,nat (k+1))]
      [(0,aF (cK (da l m) (rn l m i k)) (i+k) [u32 (z_ l m i/BP (i+k)%4294967296)])]:=by
    rw[fE _ _ b];unfold zF;congr 3;refine a_ fun j _=>?_
    unfold rn;by_cases o:j=i+k
    · subst o;rw[apB (by omega),apB rfl]
    · rw[apA o]
      by_cases q:j<i+k
      · rw[apB q,apB (by omega)]
      · rw[apA q,apA (by omega)]
  rw[e];exact ak.r u [.eb 27 (ay a),.prop (c9 a),.prop (bu a),.eq 30 (a8 a),.eq 33 (bO (iZ c)),.eq 35 (bO (iZ g)),.eq 36 (bO (wrap_mul (x:=l.getD i 0) (y:=m.getD k 0) (by omega))),
     .eq 40 (bQ (oR (i:=i) (k:=k) (by omega))),.prop (dp b),.eq 41 (jC 0 (i+k)),.prop (p:=0<1∧i+k+1≤(cK (da l m) (rn l m i k)).length) (by rw[du];omega),
     .eq 42 (d:=((cK (da l m) (rn l m i k)).drop (i+k)).headD .any) (d':=u32 (ir l m i/BP (i+k)%4294967296)) (by rw[kM b,v]),.eq 43 (bO (iZ s)),
     .eq 44 (bO (wrap_add (x:=l.getD i 0*m.getD k 0) (y:=ir l m i/BP (i+k)%4294967296) (by omega))),
     .eq 45 (bO (wrap_add (x:=mH l m i k) (y:=l.getD i 0*m.getD k 0+ir l m i/BP (i+k)%4294967296) (by unfold mH;omega))),
     .eq 49 (bQ (oR (i:=i) (k:=k) (by omega))),.eq 51 (gB (x:=IntKind.wrap .u32 (zNq (mH l m i k+(l.getD i 0*m.getD k 0+ir l m i/BP (i+k)%4294967296)))) (y:=zNq (z_ l m i/BP (i+k)%4294967296)) (by rw[il,←f];rfl)),
     .prop (dp b),.eq 52 (jC 0 (i+k)),.prop (p:=i+k+1≤(cK (da l m) (rn l m i k)).length) (by rw[du];omega),
     .eq 54 (bO (x:=(zNq (mH l m i k+(l.getD i 0*m.getD k 0+ir l m i/BP (i+k)%4294967296))).fdiv (2^min (Int.toNat 32) (IntKind.bits .u64))) (y:=zNq (mH l m i (k+1))) (by rw[qY];unfold mH;rw[h])),
     .eq 55 (bQ (cw (i:=k) (by omega)))]
theorem Fz(a:aa G){l m:List Nat}{i:Nat}:ak zZq G 0 (ah f136 1) (zF l m i m.length) (.exit 2) (zF l m i m.length):=
 ak.r a [.eb 27 (aH (alE m.length))]
def ue(l m:List Nat)(i:Nat):St:=
 lay 67 [(0,az l),(1,az m),(5,.bz 0 0 (da l m) (da l m)),(17,az l),(18,nat l.length),(19,nat i)] [(0,cK (da l m) (fun j=>ir l m i/BP j%4294967296))]
theorem Fy(b:aa G){l m:List Nat}(f:fS l)(d:fS m){i:Nat}(n:i<l.length)(o:da l m<2^60):
  bT zZq G 67 0 (.loop (ah f136 1))
   (lay 67 [(0,az l),(1,az m),(5,.bz 0 0 (da l m) (da l m)),(6,nat i),(7,u32 (l.getD i 0)),(8,u64 0),(17,az l),(18,nat l.length),(19,nat i),(24,az m),(25,nat m.length),(26,nat 0)]
    [(0,cK (da l m) (fun j=>ir l m i/BP j%4294967296))]) (.exit 2) (zF l m i m.length):=by
 have h:=bT.count (zF l m i) m.length (fun k=>ar _ _ _) (by simp) (fun k g=>Ue b f d n g o) (Fz b)
 have e:zF l m i 0=lay 67 [(0,az l),(1,az m),(5,.bz 0 0 (da l m) (da l m)),(6,nat i),(7,u32 (l.getD i 0)),(8,u64 0),(17,az l),(18,nat l.length),(19,nat i),(24,az m),(25,nat m.length),(26,nat 0)]
    [(0,cK (da l m) (fun j=>ir l m i/BP j%4294967296))]:=by
  unfold zF mH;rw[Dp];congr 3;refine a_ fun j _=>?_
  unfold rn;by_cases a:j<i+0
  ·rw[apB a]
   unfold z_;have c:i=j+(i-j-1)+1:=by omega
   have p:ir l m i+l.getD i 0*val m*BP i=ir l m i+(l.getD i 0*val m*BP (i-j-1)*4294967296)*BP j:=by
    conv=>lhs;arg 2;rw[c]
    rw[df,kA];simp only[Nat.mul_assoc,Nat.mul_comm,Nat.mul_left_comm];rw[←c]
   rw[p,anr _ _ (cQ j)];omega
  ·rw[apA a]
 rw[e]at h;exact h
theorem Ud(h:aa G){l m:List Nat}(c:fS l)(b:fS m){i:Nat}(a:i<l.length)(r:da l m<2^60):
    ak zZq G 0 (ah f136 0) (ue l m i) .normal (ue l m (i+1)):=by
  have t:=apH;have g:i+m.length<da l m:=by unfold da;omega
  have s:=EM (l:=l) b i (cQ _);have q:=c.getD i;have n:mH l m i m.length=z_ l m i/BP (i+m.length):=by
    unfold mH;rw[A1];refine Ow ?_ (mG b);rw[amk (cQ i),←kA,amR];exact s
  have d:mH l m i m.length<4294967296:=by unfold mH;exact Ca _ _ _ q
  have e:ue l m (i+1)=lay 67 [(0,az l),(1,az m),(5,.bz 0 0 (da l m) (da l m)),(17,az l),(18,nat l.length),(19,nat (i+1))]
      [(0,aF (cK (da l m) (rn l m i m.length)) (i+m.length) [u32 (mH l m i m.length%4294967296)])]:=by
    rw[fE _ _ g];unfold ue;congr 3;refine a_ fun j _=>?_
    rw[←Sp c];unfold rn;by_cases f:j=i+m.length
    · subst f;rw[apB rfl,n]
    · rw[apA f]
      by_cases o:j<i+m.length
      · rw[apB o]
      · rw[apA o]
        have w:BP (i+m.length+1)≤BP j:=ni (by omega)
        have v:z_ l m i<BP (i+m.length+1):=by
          have:=d;rw[n,amk (cQ _)]at this;rw[df];exact this
        have u:BP (i+m.length)≤BP j:=ni (by omega)
        rw[amn (by omega),amn (by omega)]
  rw[e];exact ak.r h [.eb 20 (ay a),.prop (c9 a),.prop (bu a),.eq 23 (a8 a),.code (Fy h c b a r),
     .eq 60 (bQ (oR (i:=i) (k:=m.length) (by omega))),.eq 62 (gB (il (mH l m i m.length))),.prop (dp g),.eq 63 (jC 0 (i+m.length)),
     .prop (p:=i+m.length+1≤(cK (da l m) (rn l m i m.length)).length) (by rw[du];omega),.eq 64 (bQ (cw (i:=i) (by omega)))]
theorem Fx(a:aa G){l m:List Nat}:ak zZq G 0 (ah f136 0) (ue l m l.length) (.exit 0) (ue l m l.length):=
 ak.r a [.eb 20 (aH (alE l.length))]
theorem XN(a:aa G){l m:List Nat}(c:fS l)(b:fS m)(f:da l m<2^60):
  bT zZq G 67 0 (.loop (ah f136 0))
   (lay 67 [(0,az l),(1,az m),(5,.bz 0 0 (da l m) (da l m)),(17,az l),(18,nat l.length),(19,nat 0)] [(0,List.replicate (da l m) (u32 0))]) (.exit 0) (ue l m l.length):=by
 have h:=bT.count (ue l m) l.length (fun k=>ar _ _ _) (by simp) (fun i d=>Ud a c b d f) (Fx a)
 have e:ue l m 0=lay 67 [(0,az l),(1,az m),(5,.bz 0 0 (da l m) (da l m)),(17,az l),(18,nat l.length),(19,nat 0)] [(0,List.replicate (da l m) (u32 0))]:=by
  rw[mX];unfold ue ir;rw[ig,anO,am6];congr 3;exact a_ fun j _=>by rw[aov]
 rw[e]at h;exact h
theorem fU(a:aa G){l m:List Nat}(e:fS l)(c:fS m)(r:l.length≤2^44)(q:m.length≤2^44):
    Spec zZq G 136 [az l,az m] (az (words (val l*val m))):=by
  have o:=apJ;have n:=apI;have p:=apH;have g:da l m≤2^45:=by unfold da;omega
  have f:ir l m l.length=val l*val m:=by unfold ir;rw[ame (mG e)]
  have h:val l*val m<BP (da l m):=by rw[←f];exact EM c _ (cQ _)
  have b:=mf (G:=G) a (l:=fc (da l m) (val l*val m)) (jx _ _) (by rw[dz];exact g)
  rw[iN h]at b;refine Spec.r a func136 [] (args:=[az l,az m])
    [.eq 15 (bQ (oR (i:=l.length) (k:=m.length) (by omega))),.prop (kQ g),.code (XN a e c (by omega)),.freeze 0,
     .eq 65 (d:=D.row (da l m) false (((cK (da l m) (fun j=>ir l m l.length/BP j%4294967296)).drop 0).take (da l m))) (d':=az (fc (da l m) (val l*val m))) (by rw[f];exact p9 _ _),.call b]
end Lw
namespace Lw
open Go Go.RowKit Go.Proofs
variable {G:World→Prop}
theorem yG{x y:Nat}(b:x<18446744073709551616)(a:y<18446744073709551616):
  IntKind.wrap .u64 (((BitVec.ofInt (IntKind.bits .u64) (zNq x)|||BitVec.ofInt (IntKind.bits .u64) (zNq y)).toNat:Nat):Int)=zNq (x|||y):=by
 have e:∀z:Nat,z<18446744073709551616→(BitVec.ofInt (IntKind.bits .u64) (zNq z)).toNat=z:=by
  intro z c;show(BitVec.ofInt 64 (zNq z)).toNat=z;simp only[zKq,BitVec.ofInt_natCast,BitVec.toNat_ofNat];exact ame (by simpa using c)
 rw[BitVec.toNat_or,e x b,e y a];exact wrap64 (Nat.or_lt_two_pow (n:=64) (by simpa using b) (by simpa using a))
theorem F_{x y:Nat}(a:y<4294967296):x*4294967296|||y=x*4294967296+y:=by
 have:=an5 (i:=32) (b:=y) (by simpa using a) x
 rw[show(2:Nat)^32=4294967296 by decide]at this
 rw[alS];exact this.symm
theorem IU{x:Nat}(h:x<4294967296):IntKind.wrap .u64 (zNq x*2^min (Int.toNat 32) (IntKind.bits .u64))=zNq (x*4294967296):=by
 rw[show(2:Int)^min (Int.toNat 32) (IntKind.bits .u64)=zNq 4294967296 by decide]
 exact wrap_mul (by omega)
theorem Yx{s d:Nat}(a:s<18446744073709551616):IntKind.wrap .u64 ((zNq s).tdiv (zNq d))=zNq (s/d):=by
 have:(zNq s).tdiv (zNq d)=zNq (s/d):=rfl;rw[this];exact wrap64 (amD (amC _ _) a)
theorem Yo(s d:Nat):(zNq s).tmod (zNq d)=zNq (s%d):=rfl
theorem uT{d:Nat}(h:0<d):zNq d≠0:=by simp;omega
def Ut(a d c j:Nat):Nat:=if c≤j then a/d/BP j%4294967296 else 0
theorem afn{N i:Nat}(b:i<N)(g:Nat→Nat):aF (cK N (fun j=>if i+1≤j then g j else 0)) i [u32 (g i)]=cK N (fun j=>if i≤j then g j else 0):=by
 rw[fE _ _ b];refine a_ fun j _=>?_
 by_cases a:j=i
 ·subst a;simp
 ·rw[apA a];by_cases h:i≤j
  ·rw[apB h,apB (by omega)]
  ·rw[apA h,apA (by omega)]
def uf(l:List Nat)(d c:Nat):St:=
 lay 43 [(0,az l),(1,u32 d),(6,.bz 0 0 l.length l.length),(7,u64 (val l/BP c%d)),(8,int (JO c))] [(0,cK l.length (Ut (val l) d c))]
theorem Us(k:aa G){l:List Nat}(f:fS l){d i:Nat}(b:0<d)(g:d<4294967296)(a:i<l.length)(q:l.length<2^60):
    ak zZq G 0 (ah f232 0) (uf l d (i+1)) .normal (uf l d i):=by
  have c:=f.getD i;obtain⟨s1,s2,h⟩:=P9 (val l) i b;have o:val l/BP (i+1)%d<d:=al8 _ b;rw[←dh f]at s1 s2 h;have e:uf l d i=lay 43 [(0,az l),(1,u32 d),(6,.bz 0 0 l.length l.length),(7,u64 (val l/BP i%d)),(8,int (JO i))]
      [(0,aF (cK l.length (Ut (val l) d (i+1))) i [u32 (val l/d/BP i%4294967296)])]:=by
    unfold uf;have:=afn a (fun j=>val l/d/BP j%4294967296)
    have m:Ut (val l) d (i+1)=fun j=>if i+1≤j then val l/d/BP j%4294967296 else 0:=rfl
    rw[m,this];rfl
  rw[e];exact ak.r k [.eb 16 (x:=decide (zNq i≥0)) (y:=true) (by simp),.eq 20 (bO (IU (x:=val l/BP (i+1)%d) (by omega))),.prop (c9 a),.prop (bu a),.eq 24 (a8 a),.eq 25 (bO (iZ c)),
     .eq 26 (bO (x:=IntKind.wrap .u64 (((BitVec.ofInt (IntKind.bits .u64) (zNq (val l/BP (i+1)%d*4294967296))|||BitVec.ofInt (IntKind.bits .u64) (zNq (l.getD i 0))).toNat:Nat):Int))
        (y:=zNq (val l/BP (i+1)%d*4294967296+l.getD i 0)) (by rw[yG (by omega) (by omega),F_ c])),
     .eq 31 (bO (iZ g)),.prop (uT b),.eq 32 (bO (Yx (s:=val l/BP (i+1)%d*4294967296+l.getD i 0) (d:=d) (by omega))),
     .eq 33 (gB (x:=IntKind.wrap .u32 (zNq ((val l/BP (i+1)%d*4294967296+l.getD i 0)/d))) (y:=zNq (val l/d/BP i%4294967296)) (by rw[il,s1])),
     .prop (dp a),.eq 34 (jC 0 i),.prop (p:=i+1≤(cK l.length (Ut (val l) d (i+1))).length) (by rw[du];omega),
     .eq 37 (bO (iZ g)),.prop (uT b),.eq 38 (bO (x:=(zNq (val l/BP (i+1)%d*4294967296+l.getD i 0)).tmod (zNq d)) (y:=zNq (val l/BP i%d)) (by rw[Yo,s2])),
     .eq 18 (bQ (lh (n:=i) (by omega)))]
theorem XZ(a:aa G){l:List Nat}{d:Nat}:ak zZq G 0 (ah f232 0) (uf l d 0) (.exit 0) (uf l d 0):=
 ak.r a []
theorem bT.down{P:Program}{Good:World→Prop}{gb:Nat}{body:Code}(inv:Nat→St)(n:Nat){len:Nat}{e:o_}{s':St}(a:∀i,(inv i).tmps.length=len)(b:e≠.normal)
  (round:∀i,i<n→ak P Good gb body (inv (i+1)) .normal (inv i)) (last:ak P Good gb body (inv 0) e s'):bT P Good len gb (.loop body) (inv n) e s':=
 bT.rounds (fun c=>c≤n) inv id a b (fun c d=>by
  cases c with
  |zero=>exact .inr last
  |succ i=>exact .inl ⟨i,by omega,by simp,round i d⟩) n (alE _)
theorem XY(b:aa G){l:List Nat}(a:fS l){d:Nat}(m:0<d)(f:d<4294967296)(g:l.length<2^60):
  bT zZq G 43 0 (.loop (ah f232 0))
   (lay 43 [(0,az l),(1,u32 d),(6,.bz 0 0 l.length l.length),(7,u64 0),(8,int (JO l.length))] [(0,List.replicate l.length (u32 0))]) (.exit 0) (uf l d 0):=by
 have h:=bT.down (uf l d) l.length (fun k=>ar _ _ _) (by simp) (fun i c=>Us b a m f c g) (XZ b)
 have e:uf l d l.length=lay 43 [(0,az l),(1,u32 d),(6,.bz 0 0 l.length l.length),(7,u64 0),(8,int (JO l.length))] [(0,List.replicate l.length (u32 0))]:=by
  rw[mX];unfold uf;rw[amn (mG a),Nat.zero_mod];congr 3;exact a_ fun j n=>by unfold Ut;rw[apA (by omega)]
 rw[e]at h;exact h
theorem P_(a:aa G){l:List Nat}(c:fS l){d:Nat}(f:0<d)(h:d<4294967296)(m:l.length≤2^44):
    Spec zZq G 232 [az l,u32 d] (.aY [az (words (val l/d)),u32 (val l%d)]):=by
  have j:=apJ;have i:=apI;have k:=apH;have e:l.length≤2^45:=by omega
  have g:val l/d<BP l.length:=amD (amC _ _) (mG c);have b:=mf (G:=G) a (l:=fc l.length (val l/d)) (jx _ _) (by rw[dz];exact e)
  rw[iN g]at b;refine Spec.r a func232 [] (args:=[az l,u32 d])
    [.prop (kQ e),.eq 14 (bQ (lh (n:=l.length) (by omega))),.code (XY a c f h (by omega)),.freeze 0,
     .eq 39 (d:=D.row l.length false (((cK l.length (Ut (val l) d 0)).drop 0).take l.length)) (d':=az (fc l.length (val l/d))) ?_,.call b,
     .eq 42 (gB (x:=IntKind.wrap .u32 (zNq (val l/BP 0%d))) (y:=zNq (val l%d)) ?_)]
  · rw[←p9]
    congr 3
  · have:=al8 (val l) f
    rw[il,ig,amN,ame (by omega)]
end Lw
namespace Lw
open Go Go.RowKit Go.Proofs
variable {G:World→Prop}
theorem CL{x y:Nat}(b:x<4294967296)(a:y<4294967296):
  IntKind.wrap .u32 (((BitVec.ofInt (IntKind.bits .u32) (zNq x)|||BitVec.ofInt (IntKind.bits .u32) (zNq y)).toNat:Nat):Int)=zNq (x|||y):=by
 have e:∀z:Nat,z<4294967296→(BitVec.ofInt (IntKind.bits .u32) (zNq z)).toNat=z:=by
  intro z d;show(BitVec.ofInt 32 (zNq z)).toNat=z;simp only[zKq,BitVec.ofInt_natCast,BitVec.toNat_ofNat];exact ame (by simpa using d)
 rw[BitVec.toNat_or,e x b,e y a];have:=Nat.or_lt_two_pow (n:=32) (x:=x) (y:=y) (by simpa using b) (by simpa using a)
 have c:=wrap32 (n:=x|||y)
 rw[ame (by simpa using this)]at c
 exact c
theorem Y7{n x y:Nat}(a:y<2^n):y|||x*2^n=y+x*2^n:=by
 have:=an5 (i:=n) (b:=y) a x;rw[Nat.or_comm,alS,←this,amR]
theorem Bj{n:Nat}(h:n≤31):2^n≤2147483648:=by
 have:=al3 (n:=2) (by omega) h
 simpa using this
theorem uS{n:Nat}(h:n≤32):(4294967296:Nat)=2^(32-n)*2^n:=by
 rw[←amr,show 32-n+n=32 by omega]
theorem ain{x n:Nat}(d:x<4294967296)(a:n≤31):IntKind.wrap .u64 (zNq x*2^min (zNq n).toNat (IntKind.bits .u64))=zNq (x*2^n):=by
 have e:min (zNq n).toNat (IntKind.bits .u64)=n:=by
  show min n 64=n;omega
 have c:(2:Int)^n=zNq (2^n):=by simp
 rw[e,c];refine wrap_mul ?_;have b:=Bj a;have:x*2^n≤4294967295*2147483648:=al' (by omega) b
 omega
theorem aeV{x n:Nat}(a:n≤31):(zNq x).fdiv (2^min (zNq n).toNat (IntKind.bits .u64))=zNq (x/2^n):=by
 have e:min (zNq n).toNat (IntKind.bits .u64)=n:=by
  show min n 64=n;omega
 rw[e,fdiv_pow]
theorem S3(n:Nat):(0:Int)≤zNq n:=by simp
def z6(l:List Nat)(n i:Nat):Nat:=val l%BP i*2^n
theorem AY{l:List Nat}(a:fS l)(n i:Nat):z6 l n (i+1)=z6 l n i+l.getD i 0*2^n*BP i:=by
 unfold z6;rw[jq,←dh a,amT,amR,alS (BP i),alQ,alQ,alS (BP i)]
theorem Sn(l:List Nat)(n i:Nat):z6 l n i/BP i<2^n:=by
 unfold z6;rw[amk (cQ i),alS (2^n)];exact ani (g_ _ _) (am2 (by omega))
theorem afP{l:List Nat}(f:fS l){n:Nat}(d:n≤31)(i:Nat):z6 l n i/BP i%4294967296|||l.getD i 0*2^n%4294967296=z6 l n (i+1)/BP i%4294967296:=by
 have h:=Sn l n i;have k:=Bj d;have e:l.getD i 0*2^n%4294967296=(l.getD i 0%2^(32-n))*2^n:=by
  rw[uS (n:=n) (by omega),aoX]
 rw[AY f,anr _ _ (cQ i),ame (a:=z6 l n i/BP i) (by omega),e,Y7 h,←e]
 have j:l.getD i 0*2^n%4294967296+2^n≤4294967296:=by
  rw[e];have g:l.getD i 0%2^(32-n)+1≤2^(32-n):=al8 _ (am2 (by omega))
  have b:=alV (2^n) g;rw[←uS (n:=n) (by omega),amT,amU]at b
  exact b
 generalize z6 l n i/BP i=c at*;omega
theorem ack{l:List Nat}(a:fS l){n:Nat}(d:n≤31)(i:Nat):l.getD i 0*2^n/4294967296=z6 l n (i+1)/BP (i+1)∧l.getD i 0*2^n/4294967296<4294967296:=by
 have k:=Sn l n i;have h:=Bj d;have j:=a.getD i;have g:l.getD i 0*2^n≤4294967295*2147483648:=al' (by omega) h
 rw[jw,AY a,anr _ _ (cQ i)];have e:l.getD i 0*2^n%4294967296=(l.getD i 0%2^(32-n))*2^n:=by
  rw[uS (n:=n) (by omega),aoX]
 have g:l.getD i 0*2^n%4294967296+2^n≤4294967296:=by
  rw[e];have f:l.getD i 0%2^(32-n)+1≤2^(32-n):=al8 _ (am2 (by omega))
  have b:=alV (2^n) f;rw[←uS (n:=n) (by omega),amT,amU]at b
  exact b
 generalize z6 l n i/BP i=c at*;omega
def EH(l:List Nat):Nat:=l.length+1
def zE(l:List Nat)(n i:Nat):St:=
 lay 41 [(0,az l),(1,nat n),(5,.bz 0 0 (EH l) (EH l)),(13,az l),(14,nat l.length),(15,nat i)] [(0,cK (EH l) (fun j=>z6 l n i/BP j%4294967296))]
theorem XC(s:aa G){l:List Nat}(a:fS l){n i:Nat}(f:n≤31)(g:i<l.length)(C:l.length<2^60):
    ak zZq G 0 (ah f234 0) (zE l n i) .normal (zE l n (i+1)):=by
  have m:=a.getD i;have c:i<EH l:=by unfold EH;omega
  have b:i+1<EH l:=by unfold EH;omega
  obtain⟨r,w⟩:=ack a f i;have e:zE l n (i+1)=lay 41 [(0,az l),(1,nat n),(5,.bz 0 0 (EH l) (EH l)),(13,az l),(14,nat l.length),(15,nat (i+1))]
      [(0,aF (aF (cK (EH l) (fun j=>z6 l n i/BP j%4294967296)) i [u32 (z6 l n (i+1)/BP i%4294967296)]) (i+1) [u32 (l.getD i 0*2^n/4294967296%4294967296)])]:=by
    rw[fE _ _ c,fE _ _ b];unfold zE;congr 3;refine a_ fun j _=>?_
    by_cases o:j=i+1
    · subst o;rw[apB rfl,r]
    · rw[apA o]
      by_cases k:j=i
      · subst k;rw[apB rfl]
      · rw[apA k]
        rcases alU j i with h|h
        · rw[AY a]
          have A:i=j+(i-j-1)+1:=by omega
          have z:z6 l n i+l.getD i 0*2^n*BP i=z6 l n i+(l.getD i 0*2^n*BP (i-j-1)*4294967296)*BP j:=by
            have:BP i=4294967296*(BP j*BP (i-j-1)):=by conv=>lhs;rw[A,df,kA]
            rw[this];simp only[Nat.mul_assoc,Nat.mul_comm,Nat.mul_left_comm]
          rw[z,anr _ _ (cQ j)];omega
        · have u:i+2≤j:=by omega
          have t:z6 l n (i+1)<BP j:=by
            have q:=w;rw[r,amk (cQ _),←df]at q;exact ami q (ni u)
          have D:z6 l n i≤z6 l n (i+1):=by rw[AY a];exact aoA _ _
          rw[amn t,amn (by omega)]
  rw[e];have hlen:∀v,(aF (cK (EH l) (fun j=>z6 l n i/BP j%4294967296)) i [u32 v]).length=EH l:=fun v=>by rw[fE _ _ c,du]
  have B:l.getD i 0*2^n<18446744073709551616:=by
    have:l.getD i 0*2^n≤4294967295*2147483648:=al' (by omega) (Bj f)
    omega
  exact ak.r s [.eb 16 (ay g),.prop (c9 g),.prop (bu g),.eq 19 (a8 g),.eq 21 (bO (iZ m)),.prop (S3 n),.eq 23 (bO (ain m f)),
     .prop (dp c),.eq 26 (jC 0 i),.prop (p:=0<1∧i+1≤(cK (EH l) (fun j=>z6 l n i/BP j%4294967296)).length) (by rw[du];omega),
     .eq 27 (d:=((cK (EH l) (fun j=>z6 l n i/BP j%4294967296)).drop i).headD .any) (d':=u32 (z6 l n i/BP i%4294967296)) (kM c),
     .eq 29 (gB (il (l.getD i 0*2^n))),
     .eq 30 (gB (x:=IntKind.wrap .u32 (((BitVec.ofInt (IntKind.bits .u32) (zNq (z6 l n i/BP i%4294967296))|||BitVec.ofInt (IntKind.bits .u32) (zNq (l.getD i 0*2^n%4294967296))).toNat:Nat):Int))
        (y:=zNq (z6 l n (i+1)/BP i%4294967296)) (by rw[CL (al8 _ (by omega)) (al8 _ (by omega)),afP a f])),
     .prop (dp c),.eq 31 (jC 0 i),.prop (p:=i+1≤(cK (EH l) (fun j=>z6 l n i/BP j%4294967296)).length) (by rw[du];omega),
     .eq 34 (bQ (cw (i:=i) (by omega))),.eq 36 (bO (qY (l.getD i 0*2^n))),.eq 37 (gB (il (l.getD i 0*2^n/4294967296))),.prop (dp b),.eq 38 (jC 0 (i+1)),
     .prop (p:=i+1+1≤(aF (cK (EH l) (fun j=>z6 l n i/BP j%4294967296)) i [u32 (z6 l n (i+1)/BP i%4294967296)]).length) (by rw[hlen];omega),
     .eq 39 (bQ (cw (i:=i) (by omega)))]
theorem acj(a:aa G){l:List Nat}{n:Nat}:ak zZq G 0 (ah f234 0) (zE l n l.length) (.exit 0) (zE l n l.length):=
 ak.r a [.eb 16 (aH (alE l.length))]
theorem aci(a:aa G){l:List Nat}(c:fS l){n:Nat}(b:n≤31)(f:l.length<2^60):
  bT zZq G 41 0 (.loop (ah f234 0))
   (lay 41 [(0,az l),(1,nat n),(5,.bz 0 0 (EH l) (EH l)),(13,az l),(14,nat l.length),(15,nat 0)] [(0,List.replicate (EH l) (u32 0))]) (.exit 0) (zE l n l.length):=by
 have h:=bT.count (zE l n) l.length (fun k=>ar _ _ _) (by simp) (fun i d=>XC a c b d f) (acj a)
 have e:zE l n 0=lay 41 [(0,az l),(1,nat n),(5,.bz 0 0 (EH l) (EH l)),(13,az l),(14,nat l.length),(15,nat 0)] [(0,List.replicate (EH l) (u32 0))]:=by
  rw[mX];unfold zE z6;rw[ig,anO,am6];congr 3;exact a_ fun j _=>by rw[aov]
 rw[e]at h;exact h
theorem Sm(c:aa G){l:List Nat}(a:fS l){n:Nat}(d:n≤31)(p:l.length≤2^44):
  zX zZq G 234 [az l,nat n] (l.length+1) ((fc (l.length+1) (val l*2^n)).map u32):=by
 have j:=apJ;have h:=apI;have o:=apH;have g:EH l≤2^45:=by unfold EH;omega
 have f:z6 l n l.length=val l*2^n:=by unfold z6;rw[ame (mG a)]
 rw[←B',←f];exact zX.ae c func234 (k:=(Tryz.f234.body).getD .skip) rfl (t:=4) (ro:=[]) (m:=30) (e:=.ret) (b:=0) (aoZ rfl) rfl
  [.eq 11 (bQ (cw (i:=l.length) (by omega))),.prop (kQ g),.code (aci c a d (by omega))] (by kernel_rfl) (.inr rfl)
theorem aa6{l:List Nat}(a:fS l){n:Nat}(f:n≤31)(i:Nat):(l.getD i 0+l.getD (i+1) 0*4294967296)/2^n%4294967296=val l/2^n/BP i%4294967296:=by
 have b:0<2^n:=am2 (by omega)
 rw[dh a,dh a,jw,al7 (val l) (2^n),alS (2^n),←al7];generalize val l/BP i=A;have e:A=2^n*(4294967296*(2^(32-n)*(A/4294967296/4294967296)))+(A%4294967296+A/4294967296%4294967296*4294967296):=by
  have d:2^n*(4294967296*(2^(32-n)*(A/4294967296/4294967296)))=4294967296*(4294967296*(A/4294967296/4294967296)):=by
   have c:4294967296*(2^(32-n)*(A/4294967296/4294967296))=2^(32-n)*(4294967296*(A/4294967296/4294967296)):=anp _ _ _;rw[c,←alQ,alS (2^n),←uS (n:=n) (by omega)]
  rw[d];omega
 conv=>rhs;rw[e]
 rw[eh b];omega
def VP(a n i j:Nat):Nat:=if j<i then a/2^n/BP j%4294967296 else 0
def wo(l:List Nat)(n i:Nat):St:=
 lay 35 [(0,az l),(1,nat n),(5,.bz 0 0 l.length l.length),(11,nat l.length),(12,nat i)] [(0,cK l.length (VP (val l) n i))]
theorem VO(f:aa G){l:List Nat}(b:fS l){n i:Nat}(d:n≤31)(a:i<l.length)(k:l.length<2^60):
    ak zZq G 0 (ah f237 0) (wo l n i) .normal (wo l n (i+1)):=by
  have c:=b.getD i;have g:=b.getD (i+1);have e:wo l n (i+1)=lay 35 [(0,az l),(1,nat n),(5,.bz 0 0 l.length l.length),(11,nat l.length),(12,nat (i+1))]
      [(0,aF (cK l.length (VP (val l) n i)) i [u32 (val l/2^n/BP i%4294967296)])]:=by
    unfold wo;have:=afk a (fun j=>val l/2^n/BP j%4294967296)
    have h:VP (val l) n i=fun j=>if j<i then val l/2^n/BP j%4294967296 else 0:=rfl
    rw[h,this];rfl
  rw[e];exact ak.r f [.eb 13 (ay a),.prop (c9 a),.prop (bu a),.eq 20 (a8 a),.eq 21 (bO (iZ c)),.eq 24 (bQ (cw (i:=i) (by omega))),.call (rQ f l b (i+1)),.eq 26 (bO (IU g)),
     .eq 27 (bO (x:=IntKind.wrap .u64 (((BitVec.ofInt (IntKind.bits .u64) (zNq (l.getD i 0))|||BitVec.ofInt (IntKind.bits .u64) (zNq (l.getD (i+1) 0*4294967296))).toNat:Nat):Int))
        (y:=zNq (l.getD i 0+l.getD (i+1) 0*4294967296)) (by rw[yG (by omega) (by omega),Nat.or_comm,F_ c,amR])),
     .prop (S3 n),.eq 29 (bO (aeV (x:=l.getD i 0+l.getD (i+1) 0*4294967296) d)),.eq 30 (gB (x:=IntKind.wrap .u32 (zNq ((l.getD i 0+l.getD (i+1) 0*4294967296)/2^n))) (y:=zNq (val l/2^n/BP i%4294967296)) (by rw[il,aa6 b d])),
     .prop (dp a),.eq 31 (jC 0 i),.prop (p:=i+1≤(cK l.length (VP (val l) n i)).length) (by rw[du];omega),.eq 32 (bQ (cw (i:=i) (by omega)))]
theorem aa8(a:aa G){l:List Nat}{n:Nat}:ak zZq G 0 (ah f237 0) (wo l n l.length) (.exit 0) (wo l n l.length):=
 ak.r a [.eb 13 (aH (alE l.length))]
theorem aa7(a:aa G){l:List Nat}(c:fS l){n:Nat}(b:n≤31)(f:l.length<2^60):
  bT zZq G 35 0 (.loop (ah f237 0))
   (lay 35 [(0,az l),(1,nat n),(5,.bz 0 0 l.length l.length),(11,nat l.length),(12,nat 0)] [(0,List.replicate l.length (u32 0))]) (.exit 0) (wo l n l.length):=by
 have h:=bT.count (wo l n) l.length (fun k=>ar _ _ _) (by simp) (fun i d=>VO a c b d f) (aa8 a)
 have e:wo l n 0=lay 35 [(0,az l),(1,nat n),(5,.bz 0 0 l.length l.length),(11,nat l.length),(12,nat 0)] [(0,List.replicate l.length (u32 0))]:=by
  rw[mX];rfl
 rw[e]at h;exact h
theorem VN(a:aa G){l:List Nat}(c:fS l){n:Nat}(g:n≤31)(o:l.length≤2^45):
    Spec zZq G 237 [az l,nat n] (az (words (val l/2^n))):=by
  have i:=apI;have k:=apI;have m:=apH;have e:l.length≤2^45:=by omega
  have f:val l/2^n<BP l.length:=amD (amC _ _) (mG c);have b:=mf (G:=G) a (l:=fc l.length (val l/2^n)) (jx _ _) (by rw[dz];exact e)
  rw[iN f]at b;refine Spec.r a func237 [] (args:=[az l,nat n])
    [.prop (kQ e),.code (aa7 a c g (by omega)),.freeze 0,
     .eq 33 (d:=D.row l.length false (((cK l.length (VP (val l) n l.length)).drop 0).take l.length)) (d':=az (fc l.length (val l/2^n))) ?_,.call b]
  rw[←p9];congr 3;exact a_ fun j h=>by unfold VP;rw[apB h]
end Lw
namespace Lw
open Go Go.RowKit Go.Proofs
variable {G:World→Prop}
theorem pX(b j i:Nat):D.ptr b (j+(zNq i).toNat*1)=.ptr b (j+i):=by simp
def pf(F:Nat→Nat)(j Z r idx:Nat):Nat:=if j≤idx∧idx<j+r then Z/BP (idx-j)%4294967296 else F idx
theorem I5(F:Nat→Nat)(j Z:Nat):pf F j Z 0=F:=by funext idx;unfold pf;rw[apA (by omega)]
theorem I6{N:Nat}{F:Nat→Nat}{j Z r:Nat}(h:j+r<N):aF (cK N (pf F j Z r)) (j+r) [u32 (Z/BP r%4294967296)]=cK N (pf F j Z (r+1)):=by
 rw[fE _ _ h];refine a_ fun i _=>?_
 unfold pf;by_cases a:i=j+r
 ·subst a;rw[apB rfl,apB (by omega),show j+r-j=r by omega]
 ·rw[apA a]
  by_cases b:j≤i∧i<j+r
  ·rw[apB b,apB (by omega)]
  ·rw[apA b,apA (by omega)]
theorem SU{F:Nat→Nat}{j Z r:Nat}:pf F j Z r (j+r)=F (j+r):=by unfold pf;rw[apA (by omega)]
theorem abv{W b k r:Nat}(h:r≤k):fB (W+BP k) b r=fB W b r:=by
 unfold fB;have e:(W+BP k)%BP r=W%BP r:=by
  rw[show k=(k-r)+r by omega,kA,alS,Nat.add_mul_mod_self_left]
 rw[e]
theorem Lm{W k r:Nat}(h:r<k):(W+BP k)/BP r%4294967296=W/BP r%4294967296:=by
 have e:BP k=(BP (k-r-1)*4294967296)*BP r:=by
  conv=>lhs;rw[show k=(r+(k-r-1))+1 by omega,df,kA]
  simp only[Nat.mul_assoc,Nat.mul_comm]
 rw[e,anr _ _ (cQ r)];omega
structure zZ where
 N:Nat
 F:Nat→Nat
 j:Nat
 k:Nat
 cap:Nat
 qs:List D
 v:List Nat
 n:Nat
 W:Nat
def zZ.ok(p:zZ):Prop:=fS p.v∧p.n<4294967296∧p.j+p.k≤p.N∧p.N<2^60∧(∀i,i<p.k→p.F (p.j+i)=p.W/BP i%4294967296)∧p.n*val p.v≤BP p.k∧p.W<BP p.k
def zZ.Z(p:zZ):Nat:=p.W+BP p.k-p.n*val p.v
def vK(p:zZ)(r:Nat):St:=
 lay 46 [(0,.bz 0 p.j p.k p.cap),(1,az p.v),(2,u64 p.n),(7,u64 (vm 0 p.n (val p.v) r)),(8,u64 (fB p.W (p.n*val p.v) r)),(12,nat p.k),(13,nat r)] [(0,cK p.N (pf p.F p.j p.Z r)),(1,p.qs)]
theorem UH(n:aa G){p:zZ}(t:p.ok){r:Nat}(f:r<p.k):
    ak zZq G 2 (ah f235 0) (vK p r) .normal (vK p (r+1)):=by
  obtain⟨j,m,E,D,w,B,C⟩:=t;have z:=apH;have g:p.j+r<p.N:=by omega
  have s:=j.getD r;have k:=Dq 0 p.n (val p.v) r;have h:=Hf 0 p.n (val p.v) r;rw[←dh j,aov,Nat.zero_mod]at k h;simp only[Nat.add_zero]at k h;rw[amv]at h;have A:=Ca 0 (val p.v) r m;have u:=xK m s;have v:=Dm p.W (p.n*val p.v) r;have o:=Hb (a:=p.W+BP p.k) (b:=p.n*val p.v) (by omega) r
  rw[Lm f,abv (amb f)]at o;have l:=wD p.W (p.n*val p.v) r;have hw:p.W/BP r%4294967296<4294967296:=al8 _ (by omega)
  have c:p.n*val p.v/BP r%4294967296<4294967296:=al8 _ (by omega)
  have q:pf p.F p.j p.Z r (p.j+r)=p.W/BP r%4294967296:=by rw[SU,w r f]
  have e:vK p (r+1)=lay 46 [(0,.bz 0 p.j p.k p.cap),(1,az p.v),(2,u64 p.n),(7,u64 (vm 0 p.n (val p.v) (r+1))),(8,u64 (fB p.W (p.n*val p.v) (r+1))),(12,nat p.k),(13,nat (r+1))]
      [(0,aF (cK p.N (pf p.F p.j p.Z r)) (p.j+r) [u32 (p.Z/BP r%4294967296)]),(1,p.qs)]:=by
    rw[I6 g];rfl
  rw[e];exact ak.r n [.eb 14 (ay f),.call (rQ n p.v j r),.eq 21 (bO (wrap_mul (x:=p.n) (y:=p.v.getD r 0) (by omega))),.eq 22 (bO (wrap_add (x:=vm 0 p.n (val p.v) r) (y:=p.n*p.v.getD r 0) (by omega))),
     .prop (dp f),.eq 25 (pX 0 p.j r),.prop (p:=0<1∧p.j+r+1≤(cK p.N (pf p.F p.j p.Z r)).length) (by rw[du];omega),
     .eq 26 (d:=((cK p.N (pf p.F p.j p.Z r)).drop (p.j+r)).headD .any) (d':=u32 (p.W/BP r%4294967296)) (by rw[kM g,q]),.eq 27 (bO (iZ hw)),
     .eq 29 (gB (x:=IntKind.wrap .u32 (zNq (vm 0 p.n (val p.v) r+p.n*p.v.getD r 0))) (y:=zNq (p.n*val p.v/BP r%4294967296)) (by rw[il,h])),.eq 30 (bO (iZ c)),
     .eq 31 (bO (AV (x:=p.W/BP r%4294967296) (y:=p.n*val p.v/BP r%4294967296) (by omega))),
     .eq 33 (bO (AV (x:=w6 (p.W/BP r%4294967296) (p.n*val p.v/BP r%4294967296)) (y:=fB p.W (p.n*val p.v) r) (by omega))),
     .eq 37 (gB (x:=IntKind.wrap .u32 (zNq (w6 (w6 (p.W/BP r%4294967296) (p.n*val p.v/BP r%4294967296)) (fB p.W (p.n*val p.v) r)))) (y:=zNq (p.Z/BP r%4294967296)) (by
        rw[show zNq (p.Z/BP r%4294967296)=(((p.W+BP p.k-p.n*val p.v)/BP r%4294967296:Nat):Int)from rfl,←o,←Sv hw c l];exact wrap32)),
     .prop (dp f),.eq 38 (pX 0 p.j r),.prop (p:=p.j+r+1≤(cK p.N (pf p.F p.j p.Z r)).length) (by rw[du];omega),
     .eq 40 (bO (x:=(zNq (w6 (w6 (p.W/BP r%4294967296) (p.n*val p.v/BP r%4294967296)) (fB p.W (p.n*val p.v) r))).fdiv (2^min (Int.toNat 63) (IntKind.bits .u64))) (y:=zNq (fB p.W (p.n*val p.v) (r+1)))
        (by rw[aeW,Sw hw c l,←v])),
     .eq 42 (bO (x:=(zNq (vm 0 p.n (val p.v) r+p.n*p.v.getD r 0)).fdiv (2^min (Int.toNat 32) (IntKind.bits .u64))) (y:=zNq (vm 0 p.n (val p.v) (r+1))) (by rw[qY,k])),
     .eq 43 (bQ (cw (i:=r) (by omega)))]
theorem Yn(a:aa G){p:zZ}:ak zZq G 2 (ah f235 0) (vK p p.k) (.exit 0) (vK p p.k):=
 ak.r a [.eb 14 (aH (alE p.k))]
theorem Ym(a:aa G){p:zZ}(b:p.ok):
  bT zZq G 46 2 (.loop (ah f235 0))
   (lay 46 [(0,.bz 0 p.j p.k p.cap),(1,az p.v),(2,u64 p.n),(7,u64 0),(8,u64 0),(12,nat p.k),(13,nat 0)] [(0,cK p.N p.F),(1,p.qs)]) (.exit 0) (vK p p.k):=by
 have h:=bT.count (vK p) p.k (fun k=>ar _ _ _) (by simp) (fun i c=>UH a b c) (Yn a)
 have e:vK p 0=lay 46 [(0,.bz 0 p.j p.k p.cap),(1,az p.v),(2,u64 p.n),(7,u64 0),(8,u64 0),(12,nat p.k),(13,nat 0)] [(0,cK p.N p.F),(1,p.qs)]:=by
  unfold vK;rw[I5,Dp,vj]
 rw[e]at h;exact h
theorem FV{p:zZ}(a:p.ok)(c:p.n*val p.v<BP p.k):(zNq (fB p.W (p.n*val p.v) p.k)==1)=decide (p.W<p.n*val p.v):=by
 obtain⟨-,-,-,-,-,-,b⟩:=a;unfold fB;rw[ame b,ame c];split
 ·rename_i h;simp[h]
 ·rename_i h;simp[h]
structure DF where
 N:Nat
 F:Nat→Nat
 j:Nat
 k:Nat
 cap:Nat
 qs:List D
 v:List Nat
 Z:Nat
def DF.ok(p:DF):Prop:=fS p.v∧p.j+p.k≤p.N∧p.N<2^60∧(∀i,i<p.k→p.F (p.j+i)=p.Z/BP i%4294967296)
def rK(p:DF)(r:Nat):St:=
 lay 30 [(0,.bz 0 p.j p.k p.cap),(1,az p.v),(4,u64 (mz p.Z (val p.v) r)),(7,nat p.k),(8,nat r)] [(0,cK p.N (pf p.F p.j (p.Z+val p.v) r)),(1,p.qs)]
theorem R0(h:aa G){p:DF}(k:p.ok){r:Nat}(b:r<p.k):
    ak zZq G 2 (ah f236 0) (rK p r) .normal (rK p (r+1)):=by
  obtain⟨c,s,q,l⟩:=k;have m:=apH;have a:p.j+r<p.N:=by omega
  have n:=c.getD r;have f:=Dt p.Z (val p.v) r;have g:=Hi p.Z (val p.v) r;rw[←dh c]at f g;have o:=Lv p.Z (val p.v) r;have hw:p.Z/BP r%4294967296<4294967296:=al8 _ (by omega)
  have j:pf p.F p.j (p.Z+val p.v) r (p.j+r)=p.Z/BP r%4294967296:=by rw[SU,l r b]
  have e:rK p (r+1)=lay 30 [(0,.bz 0 p.j p.k p.cap),(1,az p.v),(4,u64 (mz p.Z (val p.v) (r+1))),(7,nat p.k),(8,nat (r+1))]
      [(0,aF (cK p.N (pf p.F p.j (p.Z+val p.v) r)) (p.j+r) [u32 ((p.Z+val p.v)/BP r%4294967296)]),(1,p.qs)]:=by
    rw[I6 a];rfl
  rw[e];exact ak.r h [.eb 9 (ay b),.prop (dp b),.eq 14 (pX 0 p.j r),.prop (p:=0<1∧p.j+r+1≤(cK p.N (pf p.F p.j (p.Z+val p.v) r)).length) (by rw[du];omega),
     .eq 15 (d:=((cK p.N (pf p.F p.j (p.Z+val p.v) r)).drop (p.j+r)).headD .any) (d':=u32 (p.Z/BP r%4294967296)) (by rw[kM a,j]),.eq 16 (bO (iZ hw)),.call (rQ h p.v c r),
     .eq 20 (bO (wrap_add (x:=p.Z/BP r%4294967296) (y:=p.v.getD r 0) (by omega))),.eq 21 (bO (wrap_add (x:=mz p.Z (val p.v) r) (y:=p.Z/BP r%4294967296+p.v.getD r 0) (by omega))),
     .eq 25 (gB (x:=IntKind.wrap .u32 (zNq (mz p.Z (val p.v) r+(p.Z/BP r%4294967296+p.v.getD r 0)))) (y:=zNq ((p.Z+val p.v)/BP r%4294967296)) (by rw[il,g])),
     .prop (dp b),.eq 26 (pX 0 p.j r),.prop (p:=p.j+r+1≤(cK p.N (pf p.F p.j (p.Z+val p.v) r)).length) (by rw[du];omega),
     .eq 28 (bO (x:=(zNq (mz p.Z (val p.v) r+(p.Z/BP r%4294967296+p.v.getD r 0))).fdiv (2^min (Int.toNat 32) (IntKind.bits .u64))) (y:=zNq (mz p.Z (val p.v) (r+1))) (by rw[qY,f])),
     .eq 29 (bQ (cw (i:=r) (by omega)))]
theorem WL(a:aa G){p:DF}:ak zZq G 2 (ah f236 0) (rK p p.k) (.exit 0) (rK p p.k):=
 ak.r a [.eb 9 (aH (alE p.k))]
theorem WK(a:aa G){p:DF}(b:p.ok):
  bT zZq G 30 2 (.loop (ah f236 0))
   (lay 30 [(0,.bz 0 p.j p.k p.cap),(1,az p.v),(4,u64 0),(7,nat p.k),(8,nat 0)] [(0,cK p.N p.F),(1,p.qs)]) (.exit 0) (rK p p.k):=by
 have h:=bT.count (rK p) p.k (fun k=>ar _ _ _) (by simp) (fun i c=>R0 a b c) (WL a)
 have e:rK p 0=lay 30 [(0,.bz 0 p.j p.k p.cap),(1,az p.v),(4,u64 0),(7,nat p.k),(8,nat 0)] [(0,cK p.N p.F),(1,p.qs)]:=by
  unfold rK;rw[I5,Ds]
 rw[e]at h;exact h
end Lw
