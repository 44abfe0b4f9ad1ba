/- Part 8. -/
import Derived.Test.YtmcpfihkambgnaaGreatLw07
open Int renaming ofNat→zNq
open Go.Proofs.Tryz renaming prog→zZq
open Go.Proofs.Tryz
namespace Lw
namespace Tw
open Go Go.RowKit Go.Proofs fL
def aU{α:Type}(f:α→List D)(l:List α):D:=.row l.length false (l.flatMap f)
section
variable {α:Type} {f:α→List D} {sz:Nat}
theorem fJ(b:∀x,(f x).length=sz)(l:List α):(l.flatMap f).length=l.length*sz:=by
 induction l with
 |nil=>simp
 |cons x l a=>rw[amx,amj,b,a,amm,amL];omega
theorem yX(a:∀x,(f x).length=sz):∀(l:List α)(i:Nat),(l.flatMap f).drop (i*sz)=(l.drop i).flatMap f
 |[],i=>by simp
 |x::l,0=>by simp
 |x::l,i+1=>by
  rw[amx,List.drop_succ_cons,amL,amR,←List.drop_drop,←a x,List.drop_left,a x];exact yX a l i
theorem C_(a:∀x,(f x).length=sz):∀(l:List α)(i:Nat),(l.flatMap f).take (i*sz)=(l.take i).flatMap f
 |[],i=>by simp
 |x::l,0=>by simp
 |x::l,i+1=>by
  rw[amx,List.take_succ_cons,amx,amL,amR,←a x,List.take_length_add_append,a x];rw[C_ a l i]
theorem Tr(b:∀x,(f x).length=sz){l:List α}{i:Nat}(a:i<l.length)(d:α):((l.flatMap f).drop (i*sz)).take sz=f (l.getD i d):=by
 rw[yX b,am1 a,amx,←b l[i],apf,alD,alK a];rfl
theorem aC(a:∀x,(f x).length=sz)(b:0<sz){l:List α}{i:Nat}(h:i<l.length):((0:Int)≤zNq i∧zNq i<(l.length:Int))∧(zNq i).toNat*sz<(l.flatMap f).length:=by
 have:(zNq i).toNat=i:=rfl;rw[fJ a,this];refine⟨⟨by simp,by simpa using h⟩,ani h b⟩
theorem av(a:∀x,(f x).length=sz)(b:0<sz){l:List α}{i:Nat}(h:i<l.length):0<sz∧sz≤((l.flatMap f).drop ((zNq i).toNat*sz)).length:=by
 have e:(zNq i).toNat=i:=rfl;rw[alP,fJ a,e];have:(i+1)*sz≤l.length*sz:=alV _ h;rw[amL]at this;exact⟨b,by omega⟩
theorem cg(a:∀x,(f x).length=sz){l:List α}{i:Nat}(h:i<l.length)(d:α):D.agg (((l.flatMap f).drop ((zNq i).toNat*sz)).take sz)=.agg (f (l.getD i d)):=by
 have e:(zNq i).toNat=i:=rfl;rw[e,Tr a h d]
theorem aI{i n:Nat}(h:i<n)(a:n≤9223372036854775807):IntKind.wrap .i64 (zNq i+1)=zNq (i+1):=by
 rw[py (by simp;omega) (by simp;omega)];simp
theorem aN{l:List α}{i:Nat}(h:i<l.length)(d:α):l.getD i d∈l:=by
 rw[alD,alK h];exact al2 h
theorem Cf(p:α→Prop)[DecidablePred p](d:α)(l:List α):(∀x∈l,p x)∨∃i,i<l.length∧¬p (l.getD i d)∧∀j,j<i→p (l.getD j d):=by
 induction l with
 |nil=>exact .inl fun x a=>by cases a
 |cons x l b=>
  by_cases a:p x
  ·rcases b with b|⟨i,k,h,g⟩
   ·refine .inl fun y c=>?_
    rcases alM.1 c with rfl|c
    ·exact a
    ·exact b y c
   ·refine .inr ⟨i+1,by simpa using k,by simpa using h,fun j e=>?_⟩
    cases j with
    |zero=>exact a
    |succ j=>simpa using g j (by omega)
  ·exact .inr ⟨0,by simp,a,fun j e=>by omega⟩
end
variable {G:World→Prop}
def aA(l:List Rat):D:=aU cF l
def aP(t:aS):D:=.agg [.row t.length false (t.map aA)]
theorem bZ(q:Rat):(cF q).length=3:=rfl
def xd(k:Nat)(l:List Rat):Prop:=∀q∈l,gU k q
theorem xd.getD{k:Nat}{l:List Rat}(h:xd k l)(b:0<k)(i:Nat):gU k (l.getD i 0):=by
 rcases alU i l.length with a|a
 ·exact h _ (aN a 0)
 ·rw[o4 a];exact Kd b
theorem xd.take{k:Nat}{l:List Rat}(h:xd k l)(n:Nat):xd k (l.take n):=fun q a=>h q (anv a)
theorem sV(a:aa G){k:Nat}(b:k≤5)(cells:List D):Spec zZq G 131 [.row (2^k) false cells] (nat k):=by
 have:k=0∨k=1∨k=2∨k=3∨k=4∨k=5:=by omega
 rcases this with rfl|rfl|rfl|rfl|rfl|rfl
 ·exact Spec.r a func131 [] []
 ·exact Spec.r a func131 [] []
 ·exact Spec.r a func131 [] []
 ·exact Spec.r a func131 [] []
 ·exact Spec.r a func131 [] []
 ·exact Spec.r a func131 [] []
theorem adH(a:aa G)(cells:List D):Spec zZq G 131 [.row 0 false cells] (int (-1)):=
 Spec.r a func131 [] []
theorem A7(q:Rat):rW q=0↔q=0:=by
 rcases uP q with⟨h,e⟩|⟨h,e⟩|⟨h,e⟩
 ·rw[e];constructor
  ·intro h;cases h
  ·intro a;rw[a]at h;exact apC h (by decide)
 ·rw[e];simp[h]
 ·rw[e];constructor
  ·intro h;cases h
  ·intro a;rw[a]at h;exact apC h (by decide)
def Iu(l:List Rat)(i:Nat):St:=lay 15 [(5,aA l),(6,nat l.length),(7,nat i)] []
theorem Se(b:aa G){l:List Rat}{i k:Nat}(a:i<l.length)(h:l.length≤9223372036854775807)(d:xd k l)(g:k≤KB)(c:l.getD i 0=0):
  ak zZq G 0 (ah f129 0) (Iu l i) .normal (Iu l (i+1)):=by
 have e:=cg bZ a 0;have s:=tx (G:=G) b (d _ (aN a 0)).tW g;rw[c]at e s;exact ak.r b [.eb 8 (ay a),.prop (aC bZ (by omega) a),.prop (av bZ (by omega) a),.eq 10 e,.call s,.eq 14 (bQ (aI a h))]
theorem afE(b:aa G){l:List Rat}{i k:Nat}(a:i<l.length)(d:xd k l)(h:k≤KB)(c:¬l.getD i 0=0):
  ak zZq G 0 (ah f129 0) (Iu l i) .ret (lay 15 [(2,bool false)] []):=by
 have e:=cg bZ a 0;have s:=tx (G:=G) b (d _ (aN a 0)).tW h;rcases uP (l.getD i 0)with⟨-,g⟩|⟨g,-⟩|⟨-,g⟩
 ·rw[g]at s
  generalize l.getD i 0=q at e s;exact ak.r b [.eb 8 (ay a),.prop (aC bZ (by omega) a),.prop (av bZ (by omega) a),.eq 10 e,.call s]
 ·exact apC g c
 ·rw[g]at s
  generalize l.getD i 0=q at e s;exact ak.r b [.eb 8 (ay a),.prop (aC bZ (by omega) a),.prop (av bZ (by omega) a),.eq 10 e,.call s]
theorem It(l:List Rat):eV l=decide (∀q∈l,q=0):=by
 unfold eV;by_cases h:∀q∈l,q=0
 ·rw[apD h];simpa using h
 ·rw[apE h];simpa using h
theorem pA(a:aa G){l:List Rat}{k:Nat}(g:l.length≤9223372036854775807)(c:xd k l)(d:k≤KB):Spec zZq G 129 [aA l] (bool (eV l)):=by
 rw[It];rcases Cf (fun q:Rat=>q=0) 0 l with h|⟨i,n,m,p⟩
 ·rw[apD h]
  have b:=bT.z zZq G (ah f129 0) (.exit 0) (Iu l l.length) (fun i=>Iu l i) l.length
   (fun i e=>Se a e g c d (h _ (aN e _))) (ak.r a [.eb 8 (aH (alE l.length))])
  exact Spec.r a func129 [] [.code b]
 ·rw[apE fun h=>m (h _ (aN n _))]
  have b:=bT.z zZq G (ah f129 0) .ret (lay 15 [(2,bool false)] []) (fun i=>Iu l i) i
   (fun j o=>Se a (by omega) g c d (p j o)) (afE a n c d m)
  exact Spec.r a func129 [] [.code b]
def JE(l:List Rat)(i:Nat):St:=lay 26 [(5,aA l),(6,nat l.length),(7,nat i)] []
theorem Tz(d:aa G){l:List Rat}{i:Nat}(a:i<l.length)(c:l.length≤9223372036854775807)(b:l.getD i 0=0):
  ak zZq G 0 (ah f175 0) (JE l i) .normal (JE l (i+1)):=by
 have e:=cg bZ a 0;rw[b]at e;exact ak.r d [.eb 8 (ay a),.prop (aC bZ (by omega) a),.prop (av bZ (by omega) a),.eq 10 e,.eq 25 (bQ (aI a c))]
theorem ahy(d:aa G){l:List Rat}{i:Nat}(a:i<l.length)(c:¬l.getD i 0=0):
  ak zZq G 0 (ah f175 0) (JE l i) .ret (lay 26 [(2,bool false)] []):=by
 have e:=cg bZ a 0;generalize l.getD i 0=q at e c;have j:q.num≠0:=fun h=>c (by rw[←aop q,h];simp)
 have er:jR q=⟨decide (q.num<0),words q.num.natAbs,words q.den⟩:=by unfold jR;rw[apA j]
 have g:0<(words q.num.natAbs).length:=amJ.2 (r8 (by omega))
 unfold cF at e;rw[er]at e;simp only at e;generalize words q.num.natAbs=x at e g;generalize words q.den=y at e;generalize decide (q.num<0)=b at e;cases b with
 |true=>
  exact ak.r d [.eb 8 (ay a),.prop (aC bZ (by omega) a),.prop (av bZ (by omega) a),.eq 10 e]
 |false=>
  exact ak.r d [.eb 8 (ay a),.prop (aC bZ (by omega) a),.prop (av bZ (by omega) a),.eq 10 e,.eb 17 (x:=decide (zNq x.length>0)) (y:=true) (by simpa using g)]
theorem AE(a:aa G){l:List Rat}(d:l.length≤9223372036854775807):Spec zZq G 175 [aA l] (bool (eV l)):=by
 rw[It];rcases Cf (fun q:Rat=>q=0) 0 l with h|⟨i,g,e,m⟩
 ·rw[apD h]
  have b:=bT.z zZq G (ah f175 0) (.exit 0) (JE l l.length) (fun i=>JE l i) l.length
   (fun i c=>Tz a c d (h _ (aN c _))) (ak.r a [.eb 8 (aH (alE l.length))])
  exact Spec.r a func175 [] [.code b]
 ·rw[apE fun h=>e (h _ (aN g _))]
  have b:=bT.z zZq G (ah f175 0) .ret (lay 26 [(2,bool false)] []) (fun i=>JE l i) i
   (fun j k=>Tz a (by omega) d (m j k)) (ahy a g e)
  exact Spec.r a func175 [] [.code b]
theorem afr(l:List Rat):(l.flatMap cF).all D.iq=true:=by
 rw[al9];intro d b;obtain⟨q,_,a⟩:=anI.1 b;simp only[cF,List.mem_cons,List.not_mem_nil,or_false]at a;rcases a with rfl|rfl|rfl<;>rfl
theorem C9(n:Nat):(List.replicate n DG).flatten=(List.replicate n (0:Rat)).flatMap cF:=by
 induction n with
 |zero=>rfl
 |succ n a=>rw[aoE,aoE,apo,amx,a];rfl
theorem ace(a:List Rat)(n:Nat):bA a n=a.take n++List.replicate (n-a.length) 0:=by
 apply anY
 ·rw[fe,amj,alO,amz];omega
 ·intro i b d
  rw[fe]at b;have c:(bA a n)[i]=a.getD i 0:=by simp[bA]
  rw[c,List.getElem_append];split
  ·rename_i h;rw[alO]at h;rw[anU,alD,alK (by omega)];rfl
  ·rename_i h;rw[alO]at h;rw[List.getElem_replicate,o4 (by omega)]
theorem vz(a:List Rat)(n:Nat):aF ((List.replicate n DG).flatten) 0 ((a.flatMap cF).take (Nat.min a.length n*3))=(bA a n).flatMap cF:=by
 have b:Nat.min a.length n=min a.length n:=rfl;unfold aF;rw[C9,C_ bZ,ace,anC,am',anf,fJ bZ,amv,yX bZ];congr 1
 ·congr 1
  rw[b];rcases Nat.le_total a.length n with h|h
  ·rw[an9 h,al4 (alE _),al4 h]
  ·rw[Nat.min_eq_right h]
 ·congr 1
  rw[List.drop_replicate,alO,b];congr 1;omega
theorem vW{N:Nat}(h:N≤1073741824):zNq N=zNq N∧0≤zNq N∧zNq N*56≤2^47∧zNq N≤2^62:=by
 have b:(2:Int)^47=140737488355328:=by decide
 have a:(2:Int)^62=4611686018427387904:=by decide
 rw[b,a];simp;omega
theorem Dj(a:List Rat)(n:Nat):(a.flatMap cF).all D.iq=true∧(a.flatMap cF).length=a.length*3∧0+Nat.min a.length n*3≤((List.replicate n DG).flatten).length:=by
 refine⟨afr a,fJ bZ a,?_⟩;rw[C9,fJ bZ,amz];have:Nat.min a.length n≤n:=Nat.min_le_right _ _;omega
theorem Xu(a:List Rat)(n:Nat):((bA a n).flatMap cF).take (n*3)=(bA a n).flatMap cF:=by
 rw[al4];rw[fJ bZ,fe];omega
theorem DA(a:List Rat)(n:Nat):aA (bA a n)=.row n false ((bA a n).flatMap cF):=by
 unfold aA aU;rw[fe]
theorem Cu(c:aa G)(a:List Rat){n:Nat}(b:n≤1073741824):Spec zZq G 176 [aA a,nat n] (aA (bA a n)):=by
 rw[DA,←Xu,←vz];exact Spec.r c func176 [] [.prop (vW b),.prop (Dj a n)]
def mm(n:Nat)(f:Nat→Rat):List D:=((List.range n).map f).flatMap cF
theorem MH(n:Nat)(f:Nat→Rat):(mm n f).length=n*3:=by unfold mm;rw[fJ bZ];simp
theorem FP{n:Nat}{f g:Nat→Rat}(h:∀i,i<n→f i=g i):mm n f=mm n g:=by
 unfold mm;congr 1;exact amQ fun i a=>h i (ann.1 a)
theorem MR{n i:Nat}(b:i<n):List.range n=List.range i++i::(List.range (n-i-1)).map (fun j=>i+1+j):=by
 apply anY
 ·simp;omega
 ·intro j d c
  rw[List.getElem_range,List.getElem_append];split
  ·simp
  ·rename_i h
   rw[am_]at h;rw[List.getElem_cons];split
   ·rename_i a;rw[am_]at a;omega
   ·rename_i a;rw[am_]at a;rw[amg,List.getElem_range];simp only[List.length_range];omega
theorem MF{n i:Nat}(c:i<n)(f:Nat→Rat)(q:Rat):aF (mm n f) (i*3) (cF q)=mm n (fun j=>if j=i then q else f j):=by
 unfold aF mm;rw[MR c];simp only[List.map_append,List.map_cons,List.map_map,List.flatMap_append,List.flatMap_cons,bZ];have a:(((List.range i).map f).flatMap cF).length=i*3:=by rw[fJ bZ];simp
 rw[List.take_left' a];have d:i*3+3=(((List.range i).map f).flatMap cF++cF (f i)).length:=by rw[amj,a,bZ]
 rw[←am7 (((List.range i).map f).flatMap cF) (cF (f i)),d,List.drop_left];congr 1
 ·congr 1
  exact amQ fun j b=>by rw[apA];have:=ann.1 b;omega
 ·rw[apB True.intro]
  congr 2
  exact amQ fun j _=>by simp only[Function.comp];rw[apA (by omega)]
theorem SJ{n i:Nat}(a:i<n)(f:Nat→Rat):((mm n f).drop (i*3)).take 3=cF (f i):=by
 unfold mm;rw[Tr bZ (by simpa using a) 0,alD]
 simp[a]
theorem MG(n:Nat)(f:Nat→Rat):(mm n f).take (n*3)=mm n f:=al4 (by rw[MH];omega)
theorem PE(n:Nat)(f:Nat→Rat):D.row n false (mm n f)=aA ((List.range n).map f):=by
 unfold aA aU mm;simp
theorem BJ{i n:Nat}(h:i<n):(0:Int)≤zNq i∧zNq i<(n:Int):=⟨by simp,by simpa using h⟩
theorem BF{i n:Nat}(h:i<n)(f:Nat→Rat):0<3∧(zNq i).toNat*3+3≤(mm n f).length:=by
 have e:(zNq i).toNat=i:=rfl;rw[MH,e];omega
theorem Mo{i n:Nat}(h:i<n)(f:Nat→Rat):(zNq i).toNat*3+3≤(mm n f).length:=(BF h f).2
def Xg(a b:List Rat)(i j:Nat):Rat:=if j<i then a.getD j 0+b.getD j 0 else a.getD j 0
theorem agm(a b:List Rat)(i:Nat):Xg a b i i=a.getD i 0:=by unfold Xg;rw[apA (by omega)]
theorem YS{n i:Nat}(d:i<n)(a b:List Rat):aF (mm n (Xg a b i)) (i*3) (cF (a.getD i 0+b.getD i 0))=mm n (Xg a b (i+1)):=by
 rw[MF d];refine FP fun j _=>?_
 unfold Xg;by_cases h:j=i
 ·subst h;rw[apB rfl,apB (by omega)]
 ·rw[apA h]
  by_cases c:j<i
  ·rw[apB c,apB (by omega)]
  ·rw[apA c,apA (by omega)]
def F6(a b:List Rat)(n i:Nat):St:=lay 37 [(0,.cR 0 n 3),(1,.row n false (mm n fun j=>b.getD j 0)),(19,nat n),(20,nat i)] [(0,mm n (Xg a b i))]
theorem YQ(g:aa G){a b:List Rat}{n i k l:Nat}(d:i<n)(w:n≤1073741824)(r:gU k (a.getD i 0))(q:gU l (b.getD i 0))(p:k≤KB)(o:l≤KB):
  ak zZq G 0 (ah f119 0) (F6 a b n i) .normal (F6 a b n (i+1)):=by
 have v:D.agg (((mm n (Xg a b i)).drop ((zNq i).toNat*3)).take 3)=F (a.getD i 0):=by
  have e:(zNq i).toNat=i:=rfl;rw[e,SJ d,agm];rfl
 have u:D.agg (((mm n fun j=>b.getD j 0).drop ((zNq i).toNat*3)).take 3)=F (b.getD i 0):=by
  have e:(zNq i).toNat=i:=rfl;rw[e,SJ d];rfl
 have c:=vu (G:=G) g r.tW q.tW p o;have t:=YS d a b;have s:F6 a b n (i+1)=lay 37 [(0,.cR 0 n 3),(1,.row n false (mm n fun j=>b.getD j 0)),(19,nat n),(20,nat (i+1))] [(0,aF (mm n (Xg a b i)) (i*3) (cF (a.getD i 0+b.getD i 0)))]:=by
  rw[t];rfl
 rw[s];have m:((0:Int)≤zNq i∧zNq i<(n:Int))∧(zNq i).toNat*3<(mm n fun j=>b.getD j 0).length:=⟨BJ d,by have:=(BF d (fun j=>b.getD j 0)).2;omega⟩
 have h:0<3∧3≤((mm n fun j=>b.getD j 0).drop ((zNq i).toNat*3)).length:=by
  have:=(BF d (fun j=>b.getD j 0)).2
  rw[alP];omega
 exact ak.r g [.eb 21 (ay d),.prop (BJ d),.prop (BF d (Xg a b i)),.eq 28 v,.prop m,.prop h,.eq 32 u,.call c,.prop (BJ d),.prop (Mo d (Xg a b i)),.eq 35 (bQ (aI d (by omega)))]
theorem L7(a:List Rat)(n:Nat):aF ((List.replicate n DG).flatten) 0 ((a.flatMap cF).take (Nat.min a.length n*3))=mm n (fun j=>a.getD j 0):=vz a n
theorem PN(c:aa G)(a:List Rat){n:Nat}(b:n≤1073741824):Spec zZq G 176 [aA a,nat n] (.row n false (mm n fun j=>a.getD j 0)):=by
 have:=Cu c a b
 rwa [DA]at this
theorem ZK(l m:List Rat):(if zNq m.length>zNq l.length then zNq m.length else zNq l.length)=zNq (max l.length m.length):=by
 split
 ·rename_i h;simp at h;rw[apu (by omega)]
 ·rename_i h;simp at h;rw[Nat.max_eq_left (by omega)]
theorem Af(d:aa G){a b:List Rat}{k l:Nat}(u:xd k a)(t:xd l b)(g:0<k)(e:0<l)(q:k≤KB)(p:l≤KB)(c:max a.length b.length≤1073741824):
  Spec zZq G 119 [aA a,aA b] (aA (dJ a b)):=by
 have o:dJ a b=(List.range (max a.length b.length)).map (Xg a b (max a.length b.length)):=by
  unfold dJ;exact amQ fun j r=>by unfold Xg;rw[apB (ann.1 r)]
 have w:max a.length b.length=max a.length b.length:=rfl;generalize v:max a.length b.length=n at o c w;have h:=bT.z zZq G (ah f119 0) (.exit 0) (F6 a b n n) (fun i=>F6 a b n i) n
  (fun i s=>YQ d s c (u.getD g i) (t.getD e i) q p) (ak.r d [.eb 21 (aH (alE n))])
 have x:F6 a b n 0=lay 37 [(0,.cR 0 n 3),(1,.row n false (mm n fun j=>b.getD j 0)),(19,nat n),(20,nat 0)] [(0,aF ((List.replicate n DG).flatten) 0 ((a.flatMap cF).take (Nat.min a.length n*3)))]:=by
  rw[L7];unfold F6;congr 3
 rw[x]at h;have m:=ZK a b;rw[v]at m;rw[o,←PE,←MG];exact Spec.r d func119 [] [.eq 11 (bQ m),.inl [] func176,.prop (vW c),.prop (Dj a n),.call (PN d b c),.code h]
def miF(a:List Rat)(i j:Nat):Rat:=if j<i then -(a.getD j 0)else 0
theorem ZG{n i:Nat}(c:i<n)(a:List Rat):aF (mm n (miF a i)) (i*3) (cF (-(a.getD i 0)))=mm n (miF a (i+1)):=by
 rw[MF c];refine FP fun j _=>?_
 unfold miF;by_cases h:j=i
 ·subst h;rw[apB rfl,apB (by omega)]
 ·rw[apA h]
  by_cases b:j<i
  ·rw[apB b,apB (by omega)]
  ·rw[apA b,apA (by omega)]
def Gl(a:List Rat)(i:Nat):St:=lay 23 [(0,aA a),(3,.cR 0 a.length 3),(9,nat a.length),(10,nat i)] [(0,mm a.length (miF a i))]
theorem ZF(d:aa G){a:List Rat}{i k:Nat}(b:i<a.length)(l:a.length≤1073741824)(h:xd k a)(g:k≤KB):
  ak zZq G 0 (ah f64 0) (Gl a i) .normal (Gl a (i+1)):=by
 have e:=cg bZ b 0;have c:=J3 (G:=G) d (h _ (aN b 0)).tW g;have j:Gl a (i+1)=lay 23 [(0,aA a),(3,.cR 0 a.length 3),(9,nat a.length),(10,nat (i+1))] [(0,aF (mm a.length (miF a i)) (i*3) (cF (-(a.getD i 0))))]:=by
  rw[ZG b];rfl
 rw[j];generalize a.getD i 0=q at e c;exact ak.r d [.eb 11 (ay b),.prop (aC bZ (by omega) b),.prop (av bZ (by omega) b),.eq 18 e,.call c,.prop (BJ b),.prop (Mo b (miF a i)),.eq 21 (bQ (aI b (by omega)))]
theorem QV(c:aa G){a:List Rat}{k:Nat}(l:xd k a)(g:k≤KB)(e:a.length≤1073741824):Spec zZq G 64 [aA a] (aA (fp a)):=by
 have o:fp a=(List.range a.length).map (miF a a.length):=by
  apply anY
  ·rw[vR];simp
  ·intro j b m
   rw[vR]at b;simp only[fp,List.getElem_map,List.getElem_range,miF];rw[apB b,alD,alK b];rfl
 have d:=bT.z zZq G (ah f64 0) (.exit 0) (Gl a a.length) (fun i=>Gl a i) a.length
  (fun i h=>ZF c h e l g) (ak.r c [.eb 11 (aH (alE a.length))])
 have n:Gl a 0=lay 23 [(0,aA a),(3,.cR 0 a.length 3),(9,nat a.length),(10,nat 0)] [(0,(List.replicate a.length DG).flatten)]:=by
  unfold Gl;congr 3;rw[C9];unfold mm;congr 1;apply anY
  ·simp
  ·intro j b m;simp[miF]
 rw[n]at d;rw[o,←PE,←MG];exact Spec.r c func64 [] [.prop (vW e),.code d]
theorem aeH{a:List Rat}{n:Nat}(h:a.length=n):aA a=.row n false (a.flatMap cF):=by subst h;rfl
theorem Vg(a b:List Rat){n:Nat}(d:0<n)(e:n≤1073741824):((bA b n).flatMap cF).all D.iq=true∧0<n∧(aF ((List.replicate n DG).flatten) 0 ((a.flatMap cF).take (Nat.min a.length n*3))).length=n*3∧((bA b n).flatMap cF).length=n*3∧n+n≤2^62∧(n+n)*56≤2^47:=by
 have c:=apN;have g:=apM;rw[vz,fJ bZ,fJ bZ,fe,fe];exact⟨afr _,d,rfl,rfl,by omega,by omega⟩
theorem CZ(d:aa G)(a b:List Rat){n:Nat}(e:0<n)(c:n≤1073741824):Spec zZq G 130 [aA a,aA b,nat n] (aA (fH a b n)):=by
 have g:aA (fH a b n)=.row (n+n) false ((aF ((List.replicate n DG).flatten) 0 ((a.flatMap cF).take (Nat.min a.length n*3))++(bA b n).flatMap cF).take ((n+n)*3)):=by
  rw[aeH (jS a b n),vz];unfold fH;rw[←anC,al4];rw[fJ bZ,amj,fe,fe];omega
 have w:=Cu (G:=G) d b c;rw[DA]at w;rw[g];exact Spec.r d func130 [] [.inl [] func176,.prop (vW c),.prop (Dj a n),.call w,.prop (Vg a b e c)]
theorem adw(q:Rat):cF q=[bool (jR q).s,az (jR q).n,az (jR q).d]:=rfl
def B5(l:List Rat):Nat→St
 |0=>lay 28 [(3,.row 0 true []),(6,aA l),(7,nat l.length),(8,nat 0)] []
 |i+1=>lay 28 [(3,.cR 1 (i+1) 3),(6,aA l),(7,nat l.length),(8,nat (i+1))] [(1,(l.take (i+1)).flatMap cF)]
theorem FA{l:List Rat}{i:Nat}(a:i<l.length):(l.take (i+1)).flatMap cF=(l.take i).flatMap cF++cF (l.getD i 0):=by
 rw[aob,alK a,alD,alK a,Option.toList_some,anC];simp
theorem zl{l:List Nat}(h:l.length≤2^44):([]:List D).length=0*1∧(l.map u32).length=l.length*1∧0+l.length≤2^62∧(0+l.length)*4≤2^47:=Hs l.length h (l.map u32) (by simp)
theorem abh(c:aa G){l:List Rat}{i k:Nat}(a:i<l.length)(r:l.length≤1073741824)(h:xd k l)(s:k≤KB):
    ak zZq G 0 (ah f174 0) (B5 l i) .normal (B5 l (i+1)):=by
  have e:=cg bZ a 0;have g:=h _ (aN a 0);have n:=apJ;have j:=apN;have t:=apM;have p:=pd;have o:=g.ok;have b:=FA a;obtain⟨-,-,o1,o2,-⟩:=o;generalize l.getD i 0=q at e b o1 o2;rw[adw]at e b;generalize(jR q).n=x at e b o1;generalize(jR q).d=y at e b o2;generalize(jR q).s=z at e b;cases i with
  |zero=>
    rw[am',aoU]at b;simp only[B5];rw[b];exact ak.ae c (ro:=[18,22]) (m:=60) (ar ..)
      [.eb 9 (ay a),.prop (aC bZ (by omega) a),.prop (av bZ (by omega) a),.eq 11 e,.er 17 (az x),.prop (zl (l:=x) (by omega)),.eq 18 (zk x),.er 21 (az y),.prop (zl (l:=y) (by omega)),.eq 22 (zk y),
       .eq 26 (bQ (aI a (by omega)))]
  |succ i=>
    have d:[bool z,az x,az y].all D.iq=true∧0<1∧((l.take (i+1)).flatMap cF).length=(i+1)*3∧[bool z,az x,az y].length=1*3∧i+1+1≤2^62∧(i+1+1)*56≤2^47:=by
      rw[fJ bZ,alO];exact⟨rfl,by omega,by omega,rfl,by omega,by omega⟩
    simp only[B5];rw[b];exact ak.ae c (ro:=[18,22]) (m:=60) (ar ..)
      [.eb 9 (ay a),.prop (aC bZ (by omega) a),.prop (av bZ (by omega) a),.eq 11 e,.er 17 (az x),.prop (zl (l:=x) (by omega)),.eq 18 (zk x),.er 21 (az y),.prop (zl (l:=y) (by omega)),.eq 22 (zk y),
       .prop d,.eq 26 (bQ (aI a (by omega)))]
theorem jz(a:aa G){l:List Rat}{k:Nat}(d:l.length≤1073741824)(g:xd k l)(j:k≤KB):Spec zZq G 174 [aA l] (aA l):=by
 have c:=bT.count (P:=zZq) (Good:=G) (gb:=0) (body:=ah f174 0) (e:=.exit 0) (s':=B5 l l.length) (fun i=>B5 l i) l.length (fun i=>by cases i<;>exact ar ..) (by intro h;cases h)
  (fun i n=>abh a n d g j) (by
   rcases alT l.length with h|h
   ·have:l=[]:=amu h
    subst this;exact ak.ae a (ro:=[18,22]) (m:=60) (ar ..) []
   ·obtain⟨m,hm⟩:∃m,l.length=m+1:=⟨l.length-1,by omega⟩
    have b:=au (aH (alE l.length));rw[hm];rw[hm]at b;simp only[B5];rw[hm];exact ak.ae a (ro:=[18,22]) (m:=60) (ar ..) [.eq 9 b])
 rcases alT l.length with h|h
 ·have:l=[]:=amu h
  subst this;exact Spec.r a func174 [18,22] [.code c]
 ·obtain⟨m,hm⟩:∃m,l.length=m+1:=⟨l.length-1,by omega⟩
  have b:B5 l l.length=lay 28 [(3,.cR 1 l.length 3),(6,aA l),(7,nat l.length),(8,nat l.length)] [(1,l.flatMap cF)]:=by
   rw[hm];simp only[B5];rw[hm,←hm,ank]
  rw[b]at c;have o:aA l=.row l.length false ((l.flatMap cF).take (l.length*3)):=by
   rw[al4 (by rw[fJ bZ];omega)];rfl
  have key:Spec zZq G 174 [aA l] (.row l.length false ((l.flatMap cF).take (l.length*3))):=
   Spec.r a func174 [18,22] [.code c]
  rwa [←o]at key
end Tw
end Lw
namespace Lw
namespace fL
def Ms(D B:Nat)(l:List Rat):Prop:=∀i,∃z:Int,l.getD i 0*(D:Rat)=(z:Rat)∧z.natAbs≤B
theorem Ms.nil(D B:Nat):Ms D B []:=fun i=>⟨0,by simp,by simp⟩
theorem Ms.mono{D B C:Nat}{l:List Rat}(h:Ms D B l)(a:B≤C):Ms D C l:=fun i=>by
 obtain⟨z,c,b⟩:=h i;exact⟨z,c,alJ b a⟩
theorem Ms.scale{D B:Nat}{l:List Rat}(h:Ms D B l)(E:Nat):Ms (D*E) (B*E) l:=fun i=>by
 obtain⟨z,b,a⟩:=h i;refine⟨z*E,?_,?_⟩
 ·push_cast
  rw[←b,aoB]
 ·rw[anz,amW]
  exact alV _ a
theorem Ms.part{D B:Nat}{a b:List Rat}(h:Ms D B a)(g:∀i,b.getD i 0=0∨∃j,b.getD i 0=a.getD j 0):Ms D B b:=fun i=>by
 rcases g i with g|⟨j,g⟩
 ·exact⟨0,by rw[g];simp,by simp⟩
 ·rw[g];exact h j
theorem Ms.take{D B:Nat}{a:List Rat}(h:Ms D B a)(n:Nat):Ms D B (a.take n):=h.part fun i=>by
 simp only[List.getD_eq_getElem?_getD,List.getElem?_take];split
 ·exact .inr ⟨i,rfl⟩
 ·exact .inl rfl
theorem Ms.drop{D B:Nat}{a:List Rat}(h:Ms D B a)(n:Nat):Ms D B (a.drop n):=h.part fun i=>.inr ⟨n+i,by
 simp only[List.getD_eq_getElem?_getD,List.getElem?_drop]⟩
theorem Ms.plus{D B C:Nat}{a b:List Rat}(d:Ms D B a)(c:Ms D C b):Ms D (B+C) (dJ a b):=fun i=>by
 obtain⟨z,f,h⟩:=d i;obtain⟨y,e,g⟩:=c i;refine⟨z+y,?_,?_⟩
 ·rw[F4,Rat.intCast_add,←f,←e];grind
 ·omega
theorem Ms.minus{D B:Nat}{a:List Rat}(b:Ms D B a):Ms D B (fp a):=fun i=>by
 obtain⟨z,c,d⟩:=b i;refine⟨-z,?_,by omega⟩
 rw[DX,Rat.intCast_neg,←c];grind
theorem GP(a b:List Rat)(i:Nat):(a++b).getD i 0=if i<a.length then a.getD i 0 else b.getD (i-a.length) 0:=by
 simp only[List.getD_eq_getElem?_getD,List.getElem?_append];split<;>rfl
theorem Ms.join{D B:Nat}{a b:List Rat}(d:Ms D B a)(c:Ms D B b)(n:Nat):Ms D B (fH a b n):=fun i=>by
 unfold fH;rw[GP];split
 ·rw[ke]
  split
  ·exact d i
  ·exact⟨0,by simp,by simp⟩
 ·rw[ke]
  split
  ·exact c _
  ·exact⟨0,by simp,by simp⟩
theorem Ms.one{D E B C:Nat}{a b:List Rat}(d:Ms D B a)(c:Ms E C b)(i j:Nat):Ms (D*E) (B*C) [a.getD i 0*b.getD j 0]:=fun k=>by
 cases k with
 |zero=>
  obtain⟨z,h,g⟩:=d i;obtain⟨y,f,e⟩:=c j;refine⟨z*y,?_,?_⟩
  ·show a.getD i 0*b.getD j 0*_=_
   push_cast
   rw[←h,←f];grind
  ·rw[anz];exact al' g e
 |succ k=>exact⟨0,by simp,by simp⟩
theorem Ms.short{D B k:Nat}{a:List Rat}(h:Ms D B a)(b:Sh k a):Ms D B (dO a):=h.part fun i=>.inr ⟨i,j5 b i⟩
def iR:Nat→Nat
 |0=>0
 |k+1=>2*iR k+1
def cc(Δ Β:Nat):Nat→Nat
 |0=>1
 |k+1=>2*cc Δ Β k*Δ^(iR k+1)+cc Δ Β k*cc Δ Β k*Β
theorem afp(Δ Β:Nat)(b:0<Δ):∀k,Δ^iR k≤cc Δ Β k
 |0=>by simp[iR,cc]
 |k+1=>by
  have a:=afp Δ Β b k;have e:Δ^iR (k+1)=Δ^iR k*Δ^(iR k+1):=by rw[←amr];congr 1;simp only[iR];omega
  rw[e];simp only[cc];have d:Δ^iR k*Δ^(iR k+1)≤cc Δ Β k*Δ^(iR k+1):=alV _ a;have c:2*cc Δ Β k*Δ^(iR k+1)=2*(cc Δ Β k*Δ^(iR k+1)):=alQ _ _ _;omega
theorem ahJ(Δ Β k:Nat):2*(cc Δ Β k*Δ^(iR k+1))≤cc Δ Β (k+1):=by
 simp only[cc];rw[alQ];omega
theorem mg{t:aS}{Δ Β:Nat}(d:0<Δ)(c:∀j,Ms Δ Β (t.getD j [])):∀(k:Nat)(a b:List Rat)(D E B C:Nat),Ms D B a→Ms E C b→
  Ms (D*E*Δ^iR k) (B*C*cc Δ Β k) (bR t k a b)
 |0,a,b,D,E,B,C,i,g=>by
  unfold bR;split
  ·exact .nil _ _
  ·simp only[iR,cc,Nat.pow_zero,Nat.mul_one]
   exact i.one g 0 0
 |k+1,a,b,D,E,B,C,i,g=>by
  unfold bR;split
  ·exact .nil _ _
  ·have key:∀(p q:List Rat)(D E B C:Nat),Ms D B p→Ms E C q→Ms (D*E*Δ^iR (k+1)) (B*C*cc Δ Β (k+1))
     (if p.length=1 then [p.getD 0 0*q.getD 0 0]else if q.length≤p.length/2 then fH (bR t k (p.take (p.length/2)) q) (bR t k (p.drop (p.length/2)) q) (p.length/2)else
      fH (dJ (bR t k (p.take (p.length/2)) (q.take (p.length/2))) (bR t k (bR t k (p.drop (p.length/2)) (q.drop (p.length/2))) (t.getD (Nat.log2 (p.length/2)) [])))
       (dJ (bR t k (p.take (p.length/2)) (q.drop (p.length/2))) (bR t k (p.drop (p.length/2)) (q.take (p.length/2)))) (p.length/2)):=by
    intro p q D E B C f e;have m:D*E*Δ^iR k*Δ^(iR k+1)=D*E*Δ^iR (k+1):=by
     rw[alQ,←amr];congr 2;simp only[iR];omega
    have low:=ahJ Δ Β k;have up:∀l:List Rat,Ms (D*E*Δ^iR k) (B*C*cc Δ Β k) l→Ms (D*E*Δ^iR (k+1)) (B*C*(cc Δ Β k*Δ^(iR k+1))) l:=fun l h=>by
     have:=h.scale (Δ^(iR k+1))
     rwa [m,alQ (B*C)]at this
    split
    ·have s:=(f.one e 0 0).scale (Δ^iR (k+1))
     exact s.mono (amc _ (afp Δ Β d _))
    ·split
     ·have i1:=up _ (mg d c k _ _ D E B C (f.take (p.length/2)) e)
      have i2:=up _ (mg d c k _ _ D E B C (f.drop (p.length/2)) e);exact(i1.join i2 _).mono (amc _ (by omega))
     ·have i1:=up _ (mg d c k _ _ D E B C (f.take (p.length/2)) (e.take (p.length/2)))
      have i2:=mg d c k _ _ _ _ _ _ (mg d c k _ _ D E B C (f.drop (p.length/2)) (e.drop (p.length/2))) (c (Nat.log2 (p.length/2)));have i3:=up _ (mg d c k _ _ D E B C (f.take (p.length/2)) (e.drop (p.length/2)));have i4:=up _ (mg d c k _ _ D E B C (f.drop (p.length/2)) (e.take (p.length/2)));have v:D*E*Δ^iR k*Δ*Δ^iR k=D*E*Δ^iR (k+1):=by
       rw[←m,alQ (D*E*Δ^iR k),←aoQ]
      have u:B*C*cc Δ Β k*Β*cc Δ Β k=B*C*(cc Δ Β k*cc Δ Β k*Β):=by
       rw[alQ (B*C),alQ (B*C)];congr 1;rw[alQ,alS Β,←alQ]
      rw[v,u]at i2;have r:=(i1.plus i2).mono (C:=B*C*cc Δ Β (k+1)) (by
       rw[←amO];refine amc _ ?_;simp only[cc];rw[alQ 2];omega)
      have o:=(i3.plus i4).mono (C:=B*C*cc Δ Β (k+1)) (by
       rw[←amO];exact amc _ (by omega))
      exact r.join o _
   by_cases n:a.length<b.length
   ·simp only[if_pos n]
    have:=key b a E D C B g i
    rwa [alS E,alS C]at this
   ·simp only[if_neg n]
    exact key a b D E B C i g
theorem Zq{t:aS}{Δ Β:Nat}(d:0<Δ)(c:∀j,Ms Δ Β (t.getD j [])){k:Nat}{a:List Rat}{D B:Nat}(b:Ms D B a):
  Ms (D*D*Δ^iR (k+1)) (B*B*cc Δ Β (k+1)) (fZ t k a):=by
 have e:D*D*Δ^iR k*Δ^(iR k+1)=D*D*Δ^iR (k+1):=by
  rw[alQ,←amr];congr 2;simp only[iR];omega
 have i1:=(mg d c k _ _ D D B B (b.take (a.length/2)) (b.take (a.length/2))).scale (Δ^(iR k+1));have i2:=mg d c k _ _ _ _ _ _ (mg d c k _ _ D D B B (b.drop (a.length/2)) (b.drop (a.length/2))) (c (Nat.log2 (a.length/2)));have g:D*D*Δ^iR k*Δ*Δ^iR k=D*D*Δ^iR (k+1):=by
  rw[←e,alQ (D*D*Δ^iR k),←aoQ]
 have f:B*B*cc Δ Β k*Β*cc Δ Β k=B*B*(cc Δ Β k*cc Δ Β k*Β):=by
  rw[alQ (B*B),alQ (B*B)];congr 1;rw[alQ,alS Β,←alQ]
 rw[e,alQ (B*B)]at i1;rw[g,f]at i2;refine(i1.plus i2.minus).mono ?_;rw[←amO];refine amc _ ?_;simp only[cc];rw[alQ 2];omega
theorem fM{t:aS}:∀(k:Nat)(a b:List Rat),iU k t→Sh k a→Sh k b→Sh k (bR t k a b)∧(bR t k a b).length≤max a.length b.length
 |0,a,b,_,d,g=>by
  unfold bR;split
  ·exact⟨.inl rfl,by simp⟩
  ·rename_i h
   refine⟨.of rfl,?_⟩;rcases d with rfl|⟨j,i,E⟩
   ·exact apC (by rw[jd];rfl) h
   ·have:=dg j;simp only[List.length_cons,List.length_nil];omega
 |k+1,a,b,v,d,g=>by
  have y:iU k t:=fun j D=>v j (by omega)
  unfold bR;split
  ·exact⟨.inl rfl,by simp⟩
  ·rename_i f
   rw[amo]at f;have key:∀p q:List Rat,Sh (k+1) p→Sh (k+1) q→q.length≤p.length→p≠[]→∀l:List Rat,l=(if p.length=1 then [p.getD 0 0*q.getD 0 0]else if q.length≤p.length/2 then fH (bR t k (p.take (p.length/2)) q) (bR t k (p.drop (p.length/2)) q) (p.length/2)else
      fH (dJ (bR t k (p.take (p.length/2)) (q.take (p.length/2))) (bR t k (bR t k (p.drop (p.length/2)) (q.drop (p.length/2))) (t.getD (Nat.log2 (p.length/2)) [])))
       (dJ (bR t k (p.take (p.length/2)) (q.drop (p.length/2))) (bR t k (p.drop (p.length/2)) (q.take (p.length/2)))) (p.length/2))→
     Sh (k+1) l∧l.length≤p.length:=by
    intro p q r C hle w l c;rcases r with rfl|⟨j,u,m⟩
    ·exact apC rfl w
    ·cases j with
     |zero=>
      have i:p.length=1:=m;rw[apB i]at c;subst c;exact⟨.inr ⟨0,by omega,rfl⟩,by rw[i];simp⟩
     |succ j=>
      have s:p.length/2=2^j:=by rw[m,fI]
      have F:2^(j+1)=2^j+2^j:=by rw[al5];omega
      have z:=dg j;have fin:∀A B:List Rat,Sh (k+1) (fH A B (2^j))∧(fH A B (2^j)).length≤p.length:=fun A B=>
       ⟨.inr ⟨j+1,by omega,by rw[jS];omega⟩,by rw[jS];omega⟩
      rw[apA (by omega),s]at c
      subst c;split<;>exact fin _ _
   have x:a≠[]:=fun e=>f (.inl (by rw[e];rfl))
   have o:b≠[]:=fun e=>f (.inr (by rw[e];rfl))
   by_cases n:a.length<b.length
   ·simp only[if_pos n]
    obtain⟨k1,k3⟩:=key b a g d (by omega) o _ rfl
    exact⟨k1,by omega⟩
   ·simp only[if_neg n]
    obtain⟨k1,k3⟩:=key a b d g (by omega) x _ rfl
    exact⟨k1,by omega⟩
theorem uX{t:aS}{k j:Nat}{a:List Rat}(f:iU k t)(l:j<k)(n:a.length=2^(j+1))(m:Nat)(b:j≤m)(o:m≤k):Sh m (fZ t m a):=by
 have q:2^(j+1)=2^j+2^j:=by rw[al5];omega
 have h:a.length/2=2^j:=by rw[n,fI]
 have c:iU m t:=fun i p=>f i (by omega)
 have e:Sh m (a.take (2^j)):=.inr ⟨j,b,by rw[alO];omega⟩
 have d:Sh m (a.drop (2^j)):=.inr ⟨j,b,by rw[alP];omega⟩
 have g:Sh m (t.getD j []):=.inr ⟨j,b,f j l⟩;unfold fZ;simp only[h,iw];exact(fM m _ _ c e e).1.plus (fM m _ _ c (fM m _ _ c d d).1 g).1.minus
def Bt(n:Nat)(l:List Rat):Prop:=∃D B,0<D∧D≤2^n∧B≤2^n∧Ms D B l
def w5(δ:Nat)(t:aS):Prop:=∃Δ Β,0<Δ∧Δ≤2^δ∧Β≤2^δ∧∀j,Ms Δ Β (t.getD j [])
def ck:Nat→Nat
 |0=>0
 |k+1=>2*ck k+2
theorem iJ{m n:Nat}(h:m≤n):2^m≤2^n:=al3 (by omega) h
theorem Bk{Δ δ n:Nat}(h:Δ≤2^δ):Δ^n≤2^(n*δ):=by
 rw[alS,Nat.pow_mul];exact Nat.pow_le_pow_left h n
theorem E8{Δ Β δ:Nat}(h:Δ≤2^δ)(d:Β≤2^δ):∀k,cc Δ Β k≤2^(iR k*δ+ck k)
 |0=>by simp[cc,iR,ck]
 |k+1=>by
  have a:=E8 h d k;have b:cc Δ Β k*Δ^(iR k+1)≤2^(iR k*δ+ck k)*2^((iR k+1)*δ):=al' a (Bk h);have g:cc Δ Β k*cc Δ Β k*Β≤2^(iR k*δ+ck k)*2^(iR k*δ+ck k)*2^δ:=al' (al' a a) d;rw[←amr]at b;rw[←amr,←amr]at g;have f:iR k*δ+ck k+(iR k+1)*δ=iR k*δ+iR k*δ+δ+ck k:=by rw[amL];omega
  have e:iR (k+1)*δ=iR k*δ+iR k*δ+δ:=by simp only[iR];rw[amL,alQ];omega
  rw[f]at b;simp only[cc];rw[alQ 2,e];simp only[ck];generalize iR k*δ=M at*;generalize ck k=c at*;have l:2^(M+M+δ+c)≤2^(M+M+δ+(2*c)):=iJ (by omega)
  have j:2^(M+c+(M+c)+δ)=2^(M+M+δ+2*c):=by congr 1;omega
  have i:2^(M+M+δ+(2*c+2))=2^(M+M+δ+2*c)*4:=by rw[←anl,amr]
  omega
theorem Bt.mono{m n:Nat}{l:List Rat}(h:Bt m l)(a:m≤n):Bt n l:=by
 obtain⟨D,B,c,e,d,b⟩:=h;have:=iJ a;exact⟨D,B,c,by omega,by omega,b⟩
theorem Bt.nil(n:Nat):Bt n []:=⟨1,0,by omega,am2 (by omega),amd _,.nil _ _⟩
theorem Bt.part{n:Nat}{a b:List Rat}(h:Bt n a)(g:∀i,b.getD i 0=0∨∃j,b.getD i 0=a.getD j 0):Bt n b:=by
 obtain⟨D,B,f,e,d,c⟩:=h;exact⟨D,B,f,e,d,c.part g⟩
theorem Bt.take{n:Nat}{a:List Rat}(h:Bt n a)(m:Nat):Bt n (a.take m):=by
 obtain⟨D,B,e,d,c,b⟩:=h;exact⟨D,B,e,d,c,b.take m⟩
theorem Bt.drop{n:Nat}{a:List Rat}(h:Bt n a)(m:Nat):Bt n (a.drop m):=by
 obtain⟨D,B,e,d,c,b⟩:=h;exact⟨D,B,e,d,c,b.drop m⟩
theorem Bt.minus{n:Nat}{a:List Rat}(h:Bt n a):Bt n (fp a):=by
 obtain⟨D,B,e,d,c,b⟩:=h;exact⟨D,B,e,d,c,b.minus⟩
theorem Bt.short{n k:Nat}{a:List Rat}(h:Bt n a)(b:Sh k a):Bt n (dO a):=by
 obtain⟨D,B,f,e,d,c⟩:=h;exact⟨D,B,f,e,d,c.short b⟩
theorem Bt.plus{m n:Nat}{a b:List Rat}(h:Bt m a)(g:Bt n b):Bt (m+n+1) (dJ a b):=by
 obtain⟨D,B,k,d,j,i⟩:=h;obtain⟨E,C,p,e,o,l⟩:=g;have k1:=i.scale E;have k2:=l.scale D;rw[alS E]at k2;refine⟨D*E,B*E+C*D,amK k p,?_,?_,k1.plus k2⟩
 ·have:=al' d e
  rw[←amr]at this;have:=iJ (show m+n≤m+n+1 by omega)
  omega
 ·have f:=al' j e
  have c:=al' o d;rw[←amr]at f c;rw[amR n]at c;have:2^(m+n+1)=2^(m+n)*2:=al5 ..;omega
theorem Bt.join{m n:Nat}{a b:List Rat}(h:Bt m a)(g:Bt n b)(k:Nat):Bt (m+n) (fH a b k):=by
 obtain⟨D,B,l,d,j,i⟩:=h;obtain⟨E,C,q,e,p,o⟩:=g;have k1:=i.scale E;have k2:=o.scale D;rw[alS E]at k2;have q0:D*E≤2^m*2^n:=al' d e;have f:B*E≤2^m*2^n:=al' j e;have c:C*D≤2^n*2^m:=al' p d;rw[alS (2^n)]at c;refine⟨D*E,2^m*2^n,amK l q,?_,?_,(k1.mono f).join (k2.mono c) k⟩
 ·rw[amr];exact q0
 ·rw[amr];exact alE _
theorem Bt.times{t:aS}{δ m n:Nat}(e:w5 δ t){a b:List Rat}(d:Bt m a)(c:Bt n b)(k:Nat):Bt (m+n+iR k*δ+ck k) (bR t k a b):=by
 obtain⟨D,B,i,h,g,f⟩:=d;obtain⟨E,C,p,o,l,j⟩:=c;obtain⟨Δ,Β,d1,d2,d3,d4⟩:=e;refine⟨_,_,amK (amK i p) (am2 d1),?_,?_,mg d1 d4 k a b D E B C f j⟩
 ·have:=al' (al' h o) (Bk (n:=iR k) d2)
  rw[←amr,←amr]at this;have:=iJ (show m+n+iR k*δ≤m+n+iR k*δ+ck k by omega)
  omega
 ·have:=al' (al' g l) (E8 d2 d3 k)
  rw[←amr,←amr,←anl]at this;exact this
theorem Bt.norm{t:aS}{δ n:Nat}(f:w5 δ t){a:List Rat}(e:Bt n a)(k:Nat):Bt (n+n+iR (k+1)*δ+ck (k+1)) (fZ t k a):=by
 obtain⟨D,B,d,c,b,g⟩:=e;obtain⟨Δ,Β,d1,d2,d3,d4⟩:=f;refine⟨_,_,amK (amK d d) (am2 d1),?_,?_,Zq d1 d4 (k:=k) g⟩
 ·have:=al' (al' c c) (Bk (n:=iR (k+1)) d2)
  rw[←amr,←amr]at this;have:=iJ (show n+n+iR (k+1)*δ≤n+n+iR (k+1)*δ+ck (k+1) by omega)
  omega
 ·have:=al' (al' b b) (E8 d2 d3 (k+1))
  rw[←amr,←amr,←anl]at this;exact this
theorem Bx(q:Rat):q*(q.den:Rat)=(q.num:Rat):=by
 have e:(q.num:Rat)/((q.den:Int):Rat)=q:=by rw[←apr,aop]
 have d0:((q.den:Int):Rat)≠0:=by
  intro h;have:=aoh.1 h;have:=q.den_pos;omega
 have b:=Rat.div_mul_cancel (a:=(q.num:Rat)) d0;rw[e]at b;exact b
theorem Bt.sz{n k:Nat}{l:List Rat}(h:Bt n l)(d:n<32*k):Tw.xd k l:=by
 obtain⟨D,B,r,o,m,g⟩:=h;intro q c;obtain⟨i,f,rfl⟩:=alZ.1 c;obtain⟨z,a,j⟩:=g i;rw[alD,alK f]at a;have b:l[i]*(D:Rat)=(z:Rat):=a;have d0:((D:Int):Rat)≠0:=by
  intro e;have:(D:Int)=0:=aoh.1 e;omega
 have e:l[i]=Rat.divInt z D:=by
  rw[apr,←b,aoO,aoB];rw[show((D:Nat):Rat)=((D:Int):Rat)from rfl,aok _ d0,Rat.mul_one]
 have p:2^n<BP k:=by
  rw[yr];exact aoc (by omega) d
 rw[e];exact IP (by omega) ((aZ _ _).2 (by omega)) ((aZ _ _).2 (by rw[amW];omega))
theorem Bt.Zj{k:Nat}:∀{l:List Rat},Tw.xd k l→Bt (32*k*(2*l.length)) l
 |[],_=>.nil _
 |q::l,h=>by
  obtain⟨D,B,r,d,p,o⟩:=Bt.Zj (l:=l) fun x m=>h x (al_ _ m)
  have c:=h q alW;have g:=(aZ _ _).1 c.1;have b:=(aZ _ _).1 c.2.1;rw[yr]at g b;have e:2^(32*k*(2*(q::l).length))=2^(32*k)*2^(32*k)*2^(32*k*(2*l.length)):=by
   rw[←amr,←amr];congr 1;rw[amm,ao0,amO];omega
  have f:0<2^(32*k):=am2 (by omega)
  refine⟨q.den*D,q.num.natAbs*D+B*q.den,amK q.den_pos r,?_,?_,fun i=>?_⟩
  ·rw[e]
   refine al' (alJ (amb b) ?_) d;exact Nat.le_mul_of_pos_left _ f
  ·rw[e]
   have u:q.num.natAbs*D≤(2^(32*k)-1)*2^(32*k*(2*l.length)):=al' (by omega) d
   have t:B*q.den≤2^(32*k*(2*l.length))*2^(32*k):=al' p (by omega)
   generalize 2^(32*k*(2*l.length))=M at*;generalize 2^(32*k)=N at*;have s:(N-1)*M+M*N≤N*N*M:=by
    obtain⟨a,rfl⟩:∃a,N=a+1:=⟨N-1,by omega⟩
    simp only[Nat.add_sub_cancel];rw[alS M,←amT];refine alV _ ?_;rw[amL,ao0];have:a≤a*a+a:=Nat.le_add_left _ _;omega
   omega
  ·cases i with
   |zero=>
    refine⟨q.num*D,?_,?_⟩
    ·show q*_=_
     have:=Bx q
     push_cast
     rw[←aoB,this]
    ·rw[anz,amW];omega
   |succ i=>
    obtain⟨z,j,n⟩:=o i;refine⟨z*q.den,?_,?_⟩
    ·show l.getD i 0*_=_
     push_cast
     rw[←j];grind
    ·rw[anz,amW]
     have:=alV q.den n;omega
def sb(δ:Nat):Nat→Nat→Nat
 |0,n=>n
 |k+1,n=>sb δ k (n+n+iR (k+1)*δ+ck (k+1))
theorem mj(δ:Nat):∀(k:Nat){m n:Nat},m≤n→sb δ k m≤sb δ k n
 |0,_,_,h=>h
 |k+1,_,_,h=>mj δ k (by omega)
theorem qZ(δ:Nat):∀(k n:Nat),n≤sb δ k n
 |0,_=>alE _
 |k+1,n=>alJ (by omega) (qZ δ k _)
theorem aeZ(δ k n:Nat):sb δ k n≤sb δ (k+1) n:=mj δ k (by omega)
theorem acW(δ k n:Nat):sb δ k δ≤sb δ (k+1) n:=by
 refine mj δ k ?_;have:δ≤iR (k+1)*δ:=by simp only[iR];rw[amL];omega
 omega
end fL
end Lw
namespace Lw
namespace fL
open zY fw
def iS(t:aS):Nat→List Rat→List Rat
 |0,a=>[(a.getD 0 0)⁻¹]
 |k+1,a=>
  let a:=dO a
  if a.length=1 then [(a.getD 0 0)⁻¹]else
  let n:=a.length/2
  let m:=fZ t k a
  if iu t k m=0 then iS t k (dJ (a.take n) (a.take n))else
  bR t (k+1) (fH (a.take n) (fp (a.drop n)) n) (iS t k m)
def o9(a b:List Rat):List Rat:=dO (dJ a b)
def jg(a b:List Rat):List Rat:=dO (dJ a (fp b))
def xI(a:List Rat):List Rat:=dO (fp a)
def mulL(t:aS)(a b:List Rat):List Rat:=dO (bR t t.length a b)
def wu(t:aS)(a b:List Rat):List Rat:=dO (bR t t.length a (iS t t.length b))
def a7(t:aS)(a:List Rat):Int:=iu t t.length a
def eM(k:Nat):List Rat:=bA [] (2^k)++(1::bA [] (2^k-1))
def iF(q:Rat):List Rat:=dO [q]
theorem KW{K:Type}[fw K](ι:r7 Rat K){q:Rat}(h:q≠0):ι.φ q⁻¹*ι.φ q=1:=by
 rw[←ι.mul,Rat.inv_mul_cancel _ h,ι.one]
section akc
variable {K:Type} [fw K] (ι:r7 Rat K) (s:Nat→K)
theorem BL{t:aS}:∀(k:Nat)(a:List Rat),iU k t→Model ι s t k→Sh k a→lv ι s k a≠0→
  Sh k (iS t k a)∧lv ι s k (iS t k a)*lv ι s k a=1
 |0,a,_,_,o,c=>by
  unfold iS;refine⟨Sh.single 0 _,?_⟩;rw[ZL];have e:lv ι s 0 a=ι.φ (a.getD 0 0):=rfl;rw[e]at c⊢;exact KW ι fun h=>c (by rw[h,ι.zero])
 |k+1,a,p,n,o,c=>by
  have f:iU k t:=fun j x=>p j (by omega)
  have d:Model ι s t k:=⟨fun j x=>n.nn j (by omega),fun j x=>n.sq j (by omega)⟩
  unfold iS;have v:=g9 o;rw[←mQ ι s o]at c⊢;generalize dO a=b at v c;rcases v with rfl|⟨j,L,r⟩
  ·exact apC (Al ι s _) c
  ·simp only
   cases j with
   |zero=>
    have N:b.length=1:=r;rw[apB N];refine⟨Sh.single _ _,?_⟩;have e:lv ι s (k+1) b=ι.φ (b.getD 0 0):=mD ι s (j:=0) (by omega) (by omega)
    rw[CW,e];rw[e]at c;exact KW ι fun h=>c (by rw[h,ι.zero])
   |succ j=>
    have O:2^(j+1)=2^j+2^j:=by rw[al5];omega
    have G:=dg j;have w:b.length/2=2^j:=by rw[r,fI]
    rw[apA (by omega),w]
    have low:∀l:List Rat,l.length≤2^j→lv ι s k l=lv ι s j l:=fun l J=>mD ι s J (by omega)
    have i:Sh k (b.take (2^j)):=.inr ⟨j,by omega,by rw[alO];omega⟩
    have q:Sh k (b.drop (2^j)):=.inr ⟨j,by omega,by rw[alP];omega⟩
    have M:=p j (by omega)
    have B:Sh k (t.getD j []):=.inr ⟨j,by omega,M⟩
    have z:lv ι s (k+1) b=lv ι s k (b.take (2^j))+lv ι s k (b.drop (2^j))*s j:=by
     rw[mD ι s (j:=j+1) (by omega) (by omega),yJ ι s b,low _ (by rw[alO];omega),low _ (by rw[alP];omega)]
    have sq:s j*s j=lv ι s k (t.getD j []):=by rw[n.sq j (by omega),low _ (by omega)]
    obtain⟨s1,v1,-⟩:=gD ι s k _ _ f d i i;obtain⟨s2,v2,-⟩:=gD ι s k _ _ f d q q;obtain⟨D,A,-⟩:=gD ι s k _ _ f d s2 B;have g:Sh k (fZ t k b)∧lv ι s k (fZ t k b)=lv ι s k (b.take (2^j))*lv ι s k (b.take (2^j))-lv ι s k (b.drop (2^j))*lv ι s k (b.drop (2^j))*lv ι s k (t.getD j []):=by
     unfold fZ;simp only[w,iw];refine⟨s1.plus D.minus,?_⟩;rw[oU,qv,v1,A,v2,sub_def']
    rw[mO ι s k _ f d g.1];rw[z]at c⊢;rw[←sq]at g;split
    ·rename_i m
     rw[ny,g.2]at m;have I:(lv ι s k (b.take (2^j))+lv ι s k (b.drop (2^j))*s j)*(lv ι s k (b.take (2^j))-lv ι s k (b.drop (2^j))*s j)=0:=by
      rw[←m];exact rg [lv ι s k (b.take (2^j)),lv ι s k (b.drop (2^j)),s j]
     have he:=fx.1 ((mul_eq_zero I).resolve_left c);have u:lv ι s k (dJ (b.take (2^j)) (b.take (2^j)))=lv ι s k (b.take (2^j))+lv ι s k (b.drop (2^j))*s j:=by
      rw[oU,←he]
     obtain⟨i1,i2⟩:=BL k _ f d (i.plus i) (by rw[u];exact c)
     refine⟨i1.mono (by omega),?_⟩
     rw[mD ι s (j:=k) (k:=k+1) i1.len (by omega),←u]
     exact i2
    ·rename_i m
     have H:lv ι s k (fZ t k b)≠0:=fun e=>m (ny.2 e)
     obtain⟨i1,i2⟩:=BL k _ f d g.1 H;have lc:(fH (b.take (2^j)) (fp (b.drop (2^j))) (2^j)).length=2^(j+1):=by rw[jS];omega
     have C:Sh (k+1) (fH (b.take (2^j)) (fp (b.drop (2^j))) (2^j)):=.inr ⟨j+1,by omega,lc⟩
     have y:lv ι s (k+1) (fH (b.take (2^j)) (fp (b.drop (2^j))) (2^j))=lv ι s k (b.take (2^j))+ -lv ι s k (b.drop (2^j))*s j:=by
      rw[mD ι s (j:=j+1) (by omega) (by omega),S8,qv,low _ (by rw[alO];omega),low _ (by rw[alP];omega)]
     obtain⟨F,E,-⟩:=gD ι s (k+1) _ _ p n C (i1.mono (by omega:k≤k+1))
     refine⟨F,?_⟩;rw[E,y,mD ι s (j:=k) (k:=k+1) (l:=iS t k (fZ t k b)) i1.len (by omega)]
     rw[g.2]at i2;exact rg1 [lv ι s k (b.take (2^j)),lv ι s k (b.drop (2^j)),s j,lv ι s k (iS t k (fZ t k b))] 1 i2
end akc
theorem XJ(t:aS)(k:Nat)(b:List Rat):bR t k [] b=[]:=by
 cases k<;> ·unfold bR;rw[apB (by rw[jd];rfl)]
theorem uY(t:aS)(k:Nat):fZ t k []=[]:=by
 unfold fZ;simp only[List.take_nil,List.drop_nil,XJ];rfl
def ib(δ:Nat):Nat→Nat→Nat
 |0,n=>n
 |k+1,n=>n+n+ib δ k (n+n+iR (k+1)*δ+ck (k+1))+iR (k+1)*δ+ck (k+1)
theorem KX(δ:Nat):∀(k:Nat){m n:Nat},m≤n→ib δ k m≤ib δ k n
 |0,_,_,h=>h
 |k+1,m,n,h=>by
  have:=KX δ k (m:=m+m+iR (k+1)*δ+ck (k+1)) (n:=n+n+iR (k+1)*δ+ck (k+1)) (by omega)
  simp only[ib];omega
theorem Tf(δ:Nat):∀(k n:Nat),n≤ib δ k n
 |0,_=>alE _
 |k+1,n=>by simp only[ib];omega
theorem Bt.inv1{n:Nat}{a:List Rat}(h:Bt n a):Bt n [(a.getD 0 0)⁻¹]:=by
 obtain⟨D,B,m,f,l,k⟩:=h;obtain⟨z,b,o⟩:=k 0;generalize a.getD 0 0=q at*;by_cases c:q=0
 ·rw[c,apw]
  exact⟨D,B,m,f,l,fun i=>by
   cases i with
   |zero=>exact⟨0,by simp,by simp⟩
   |succ i=>exact⟨0,by simp,by simp⟩⟩
 ·have j:((D:Nat):Rat)≠0:=by
   intro e;have:((D:Int):Rat)=0:=e;have:=aoh.1 this;omega
  have g:z≠0:=by
   intro e;rw[e]at b;rcases Rat.mul_eq_zero.1 b with h|h
   ·exact c h
   ·exact j h
  have key:q⁻¹*(z:Rat)=(D:Rat):=by rw[←b,←aoB,Rat.inv_mul_cancel _ c,Rat.one_mul]
  refine⟨z.natAbs,D,by omega,by omega,f,fun i=>?_⟩
  cases i with
  |zero=>
   show∃y:Int,q⁻¹*_=_∧_;rcases Int.natAbs_eq z with e|e
   ·refine⟨D,?_,by simp⟩
    have d:((z.natAbs:Nat):Rat)=(z:Rat):=by
     have:((z.natAbs:Int):Rat)=(z:Rat):=by rw[←e]
     exact this
    rw[d,key];rfl
   ·refine⟨-D,?_,by simp⟩
    have d:((z.natAbs:Nat):Rat)= -(z:Rat):=by
     have:((z.natAbs:Int):Rat)=((-z:Int):Rat):=by congr 1;omega
     rw[Rat.intCast_neg]at this;exact this
    rw[d,Rat.mul_neg,key,Rat.intCast_neg];rfl
  |succ i=>exact⟨0,by simp,by simp⟩
theorem Bt.inv{t:aS}{δ:Nat}(f:w5 δ t):∀(k n:Nat)(a:List Rat),iU k t→Sh k a→Bt n a→Bt (ib δ k n) (iS t k a)
 |0,n,a,_,g,h=>h.inv1
 |k+1,n,a,p,g,h=>by
  have r:iU k t:=fun j w=>p j (by omega)
  have d:=h.short g;unfold iS;have c:=g9 g;generalize dO a=b at d c;simp only;split
  ·exact d.inv1.mono (Tf δ (k+1) n)
  ·rename_i q
   have l:=d.norm f k;have v:=(d.take (b.length/2)).join (d.drop (b.length/2)).minus (b.length/2);split
   ·have i1:=Bt.inv f k _ _ r (by
     rcases c with rfl|⟨j,i,e⟩
     ·exact .inl rfl
     ·cases j with
      |zero=>exact apC e q
      |succ j=>
       rw[e,fI];have x:2^(j+1)=2^j+2^j:=by rw[al5];omega
       have o:Sh k (b.take (2^j)):=.inr ⟨j,by omega,by rw[alO];omega⟩
       exact o.plus o) ((d.take (b.length/2)).plus (d.take (b.length/2)))
    refine i1.mono ?_;have:=KX δ k (m:=n+n+1) (n:=n+n+iR (k+1)*δ+ck (k+1)) (by simp only[ck];omega)
    simp only[ib];omega
   ·have u:Sh k (fZ t k b):=by
     rcases c with rfl|⟨j,i,e⟩
     ·rw[uY];exact .inl rfl
     ·cases j with
      |zero=>exact apC e q
      |succ j=>exact uX p (by omega) e k (by omega) (by omega)
    have i1:=Bt.inv f k _ _ r u l;exact(v.times f i1 (k+1)).mono (by simp only[ib];omega)
end fL
end Lw
