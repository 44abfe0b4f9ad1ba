/- Part 18. -/
import Derived.Test.YtmcpfihkambgnaaGreatLw17
open Option renaming some.injEq→zIq
open Go.Proofs.Tryz renaming prog→zZq
open Int renaming ofNat→zNq
open Go.Proofs.Tryz
namespace Lw
open Go Go.RowKit Go.Proofs
namespace Tw
open fL
variable {G:World→Prop}
structure WS(l:Lk)(xs:List Tn):Prop where
 ok:gO l
 sz:LkB 64 l
 b6:l.bs.length≤6
 j8:l.js.length≤8
 d2:l.ds.length≤2
 nd:aib l
 len:xs.length=l.ds.length
 tr:∀x∈xs,iA 64 x.t∧(x.half=true→x.t=0)
theorem WS.Mh{l:Lk}{xs:List Tn}(h:WS l xs)(i:Nat):iA 64 (xs.getD i ⟨0,false⟩).t∧((xs.getD i ⟨0,false⟩).half=true→(xs.getD i ⟨0,false⟩).t=0):=by
 rcases alU i xs.length with b|b
 ·exact h.tr _ (aN b _)
 ·rw[alD,alX b]
  exact⟨iA.zero 64,fun h=>by cases h⟩
theorem WS.qJ{l:Lk}{xs:List Tn}(h:WS l xs)(g:Gp):iA 64 (qJ xs g).t∧((qJ xs g).half=true→(qJ xs g).t=0):=by
 unfold Tw.qJ;split
 ·exact h.Mh _
 ·exact⟨iA.zero 64,fun h=>by cases h⟩
structure HO(l:Lk)(xs:List Tn)(gs:List Gp)(nn ee:Nat→Nat)(k:Nat)(a:As):Prop where
 hk:k≤gs.length
 ms:a.ms.length=k
 lb:a.bs.length=l.bs.length
 tl:a.t.length≤lz gs k
 ok:me a.t
 bt:w5 (ee (lz gs k)) a.t
 pl:∀i,vr (nn (lz gs k)+783*AT gs k) a.t (dC a i)
 v:VSt l xs (Ck l gs k) a
section
variable {l:Lk} {xs:List Tn} {gs:List Gp} {nn ee up:Nat→Nat} {rr:Bool} {k:Nat} {a:As}
theorem HO.tow(c:Chn gs nn ee up rr)(w:HO l xs gs nn ee k a):b7 (ee (lz gs k)) a.t:=by
 obtain⟨⟨d,b,-,-⟩,-⟩:=c.tw k w.hk a.t.length w.tl;exact⟨⟨w.ok,w.bt,d⟩,b⟩
theorem aeT(l:Lk)(gs:List Gp):Ck l gs 0=wV l:=by rw[Ck,am'];rfl
theorem C8{l:Lk}{i:Nat}:(wV l).known.getD i false=true↔i=0∧0<l.bs.length:=by
 show((List.replicate l.bs.length false).set 0 true).getD i false=true↔_;rw[A9,amz];have:(List.replicate l.bs.length false).getD i false=false:=by
  rw[alD,amZ];split<;>rfl
 rw[this];by_cases h:0=i∧0<l.bs.length
 ·rw[apB h];exact⟨fun _=>⟨h.1.symm,h.2⟩,fun _=>rfl⟩
 ·rw[apA h];exact⟨fun e=>(by cases e),fun e=>apC ⟨e.1.symm,e.2⟩ h⟩
theorem ZX{l:Lk}(b:gO l){gs:List Gp}:∀k,k≤gs.length→(Ck l gs k).known.getD 0 false=true
 |0,_=>by rw[aeT];exact C8.2 ⟨rfl,b.b0⟩
 |k+1,h=>by
  rw[uO (by omega)]
  exact(mr (Ab l gs k (by omega)) _ 0).2 (.inl (ZX b k (by omega)))
theorem Mn(n i:Nat):dC (dt n) i=if i=0 then⟨iF ((1:Int):Rat),[],[],[]⟩else pl0:=by
 cases i with
 |zero=>rfl
 |succ i=>
  rw[apA (by omega)]
  show((_::List.replicate (n-1) pl0).getD (i+1) pl0)=_;rw[amP,alD,amZ];split<;>rfl
theorem HO.start(c:Chn gs nn ee up rr)(S:WS l xs):HO l xs gs nn ee 0 (dt l.bs.length):=by
 have r:lz gs 0=0:=by unfold lz;rw[am'];rfl
 have d0:AT gs 0=0:=by unfold AT;rw[am'];rfl
 have z:∀n,vr n [] pl0:=fun n=>⟨fun x b=>by
  simp only[pl0,List.mem_cons,List.not_mem_nil,or_false,or_self]at b;subst b;exact .nil _,1,1,by omega,aoK,aoK,fun x b=>by
  simp only[pl0,List.mem_cons,List.not_mem_nil,or_false,or_self]at b;subst b;obtain⟨D,B,h,g,u,t⟩:=Bt.nil 0;exact Ms.nil _ _⟩
 have f:vr 1 [] ⟨iF ((1:Int):Rat),[],[],[]⟩:=by
  have h:=fQ.one (iA.num (iA.int (m:=0) 1 (by decide)) [])
  have g:=fQ.both h (z 1);exact fQ.sub g fun x b=>by
   simp only[List.mem_cons,List.not_mem_nil,or_false]at b;simp only[pl0,List.mem_append,List.mem_cons,List.not_mem_nil,or_false];rcases b with rfl|rfl|rfl|rfl
   ·exact .inl rfl
   ·exact .inr (.inl rfl)
   ·exact .inr (.inl rfl)
   ·exact .inr (.inl rfl)
 have pl:∀i,vr 1 [] (dC (dt l.bs.length) i):=fun i=>by
  rw[Mn];split
  ·exact f
  ·exact z 1
 have v:=S.ok.b0;refine⟨amd _,rfl,?_,amd _,⟨amd _,fun j e=>by simp[dt]at e,fun j e=>by simp[dt]at e⟩,⟨1,1,by omega,aoK,aoK,fun j=>by
  show Ms 1 1 (([]:List (List Rat)).getD j []);rw[List.getD_nil];exact Ms.nil _ _⟩,fun i=>?_,?_⟩
 ·show(_::List.replicate _ _).length=_
  rw[amm,amz];omega
 ·rw[r,d0]
  exact vr.mono (pl i) (by have:=c.c0.1;omega)
 ·rw[aeT]
  refine⟨fun i=>(pl i).shB,fun i p=>?_,fun j e hu=>?_,fun d q o=>?_,rfl⟩
  ·obtain⟨rfl,-⟩:=C8.1 p
   intro K _ ι σ s;rw[Mn,apB rfl];change vl ι σ ([]:aS) (iF ((1:Int):Rat))*vl ι σ ([]:aS) (iF ((1:Int):Rat))+vl ι σ ([]:aS) ([]:List Rat)*vl ι σ ([]:aS) ([]:List Rat)=1;rw[jP,PO,show ι.φ ((1:Int):Rat)=1 from ι.one,zY.oS,zY.cO,zY.add_zero']
  ·have:=N5 l j hu
   have g:(wV l).used.getD j false=false:=by
    show(List.replicate l.js.length false).getD j false=false;rw[alD,amZ];split<;>rfl
   rw[g]at hu;cases hu
  ·exact apC (C8.1 o).1 (S.ok.ajV _ (aN q _))
end
theorem ac1{t:aS}{A B:Hd}{ss:List wK}(h:FO t A B=some ss):ss.length≤2:=by
 unfold FO at h
 repeat' split at h
 all_goals first
  |cases h;done
  |(simp only[zIq]at h;subst h;simp only[List.length_cons,List.length_nil];omega)
theorem agf{t:aS}{A:Hd}{p q:Pt}{ss:List wK}(h:Xf t A p q=some ss):ss.length≤2:=by
 unfold Xf at h
 repeat' split at h
 all_goals first
  |cases h;done
  |(simp only[zIq]at h;subst h;simp only[List.length_cons,List.length_nil];omega)
theorem ac3{t:aS}{x:Rp}{ss:List wK}(h:Xd t x=some ss):ss.length≤2:=by
 unfold Xd at h
 repeat' split at h
 all_goals first
  |cases h;done
  |(simp only[zIq]at h;subst h;simp only[List.length_cons,List.length_nil];omega)
theorem aho{l:Lk}{a:As}{g:Gp}{x:Tn}{ss:List wK}(h:ot l a g x=some ss):ss.length≤2:=by
 unfold ot at h;split at h
 ·simp only[Lj,zIq]at h;subst h;simp
 ·exact ac1 h
 ·exact agf h
 ·exact ac3 h
 ·cases h
def HG(a:As)(g:Gp)(z:wK):Prop:=(∃b p,g.bs=[b]∧z.ps=[p]∧b<a.bs.length)∨∃b c p q,g.bs=[b,c]∧z.ps=[p,q]∧b<a.bs.length∧c<a.bs.length
theorem Yz{a:As}{g:Gp}{z:wK}(h:HG a g z):(∀i,i∉g.bs→dC (a.put g z) i=dC a i)∧(∀i∈g.bs,dC (a.put g z) i∈z.ps)∧(a.put g z).t=z.T∧(a.put g z).ms=a.ms++[z.mode]∧(a.put g z).bs.length=a.bs.length:=by
 rcases h with⟨b,p,j,f,o⟩|⟨b,c,p,q,j,f,o,t⟩
 ·have e:a.put g z=a.CF b p z.T z.mode:=by unfold As.put;rw[j,f]
  have r:=ES (p:=p) (T:=z.T) (m:=z.mode) o;rw[e,j,f];refine⟨fun i d=>?_,fun i d=>?_,rfl,rfl,by simp[As.CF]⟩
  ·rw[alI]at d;rw[r,apA d]
  ·rw[alI]at d;rw[r,apB d];simp
 ·have e:a.put g z=a.xz b c p q z.T z.mode:=by unfold As.put;rw[j,f]
  have n:=SO (p:=p) (q:=q) (T:=z.T) (m:=z.mode) o t;rw[e,j,f];refine⟨fun i d=>?_,fun i d=>?_,rfl,rfl,by simp[As.xz]⟩
  ·simp only[List.mem_cons,List.not_mem_nil,or_false,not_or]at d
   rw[n,apA d.2,apA d.1]
  ·rw[n]
   split
   ·simp
   ·rename_i s
    simp only[List.mem_cons,List.not_mem_nil,or_false]at d;rw[apB (d.resolve_right s)];simp
theorem RY(n:aa G){a:As}{g:Gp}{z:wK}(h:HG a g z)(s:2≤a.bs.length)(o:a.bs.length≤6)(r:a.ms.length≤4):Spec zZq G 85 [b8 a,oF g,gq z] (b8 (a.put g z)):=by
 obtain⟨v,t,w,d⟩:=g;obtain⟨T,j,m⟩:=z;rcases h with⟨b,p,f,e,i⟩|⟨b,c,p,q,f,e,i,u⟩
 ·have f:t=[b]:=f
  have e:j=[p]:=e;subst f e;exact WJ n s o r i
 ·have f:t=[b,c]:=f
  have e:j=[p,q]:=e;subst f e;exact WI n s o r i u
section
variable {l:Lk} {xs:List Tn} {gs:List Gp} {nn ee up:Nat→Nat} {rr:Bool} {k:Nat} {a:As}
theorem HO.put(S:WS l xs)(P:Path l gs)(w:HO l xs gs nn ee k a)(f:k<gs.length){z:wK}{N D:Nat}(c:PB N D a.t z)(t:HG a (gs.getD k default) z)(p:W5 l xs (Ck l gs k) a (a.put (gs.getD k default) z) (gs.getD k default))(r:z.T.length≤lz gs (k+1))(h:nn (lz gs k)+783*AT gs k≤nn (lz gs (k+1))+783*AT gs (k+1))(v:N≤nn (lz gs (k+1))+783*AT gs (k+1))(u:D≤ee (lz gs (k+1))):HO l xs gs nn ee (k+1) (a.put (gs.getD k default) z):=by
 have s:=P.step k f;have q:=Ab l gs k (by omega)
 obtain⟨o,n,b,m,j⟩:=Yz t;refine⟨f,by rw[m,amj,w.ms];rfl,by rw[j,w.lb],by rw[b];exact r,by rw[b];exact c.ok,by rw[b];exact w5.mono c.bt u,fun i=>?_,?_⟩
 ·rw[b]
  by_cases g:i∈(gs.getD k default).bs
  ·exact vr.mono (c.ps _ (n i g)) v
  ·rw[o i g]
   rcases c.tow with e|⟨d,e⟩
   ·rw[e];exact vr.mono (w.pl i) h
   ·rw[e];exact vr.mono ((w.pl i).up d) h
 ·rw[uO f]
  exact p.step S.ok q (P.used S.ok k (by omega)) (ZX S.ok k (by omega)) s w.v
theorem HO.solve(hG:aa G)(c:Chn gs nn ee up rr)(S:WS l xs)(P:Path l gs)(zH:Spec zZq G 47 [g7 l] (.aY [aU iV gs,.lit .nilIface]))(ck:Spec zZq G 37 [g7 l] (.lit .nilIface))(w:HO l xs gs nn ee k a)(q:k<gs.length):
  Spec zZq G 83 [g7 l,nat k,EF (qJ xs (gs.getD k default)),b8 a] (HV (ot l a (gs.getD k default) (qJ xs (gs.getD k default))))∧
   ∀ss,ot l a (gs.getD k default) (qJ xs (gs.getD k default))=some ss→∀z∈ss,HG a (gs.getD k default) z∧HO l xs gs nn ee (k+1) (a.put (gs.getD k default) z):=by
 have K:=P.step k q;have hs:=Ab l gs k (by omega)
 have X:=w.tow c;have T:=S.qJ (gs.getD k default);have nd4:=c.nd k (by omega)
 have top:=c.top k (by omega)
 obtain⟨⟨-,-,t3,t4⟩,e1,-,-⟩:=c.tw k (by omega) a.t.length w.tl
 have C:=w.tl;obtain⟨s1,s2,-⟩:=AQ q;have B:=acG S.ok (gs:=gs) (k:=k) (by omega)
 have op:Dz G l a gs k (gs.getD k default) (ee (lz gs k)):=⟨zH,ck,q,rfl,X,w.lb,fun i=>(w.pl i).ok (by omega)⟩
 have gb:=K.abA S.ok;have run:∀(n N D:Nat),nn (lz gs k)+783*AT gs k≤n→n≤up (lz gs k)→((gs.getD k default).kind≠0→gV 64 n (ee (lz gs k)) a.t.length N D rr)→((gs.getD k default).kind=0→ab7 64 n (ee (lz gs k)) a.t.length N∧ee (lz gs k)≤D)→_:=
  fun n N D J hn2 F Fd=>aas hG S.ok S.sz op hs K ⟨fun i=>vr.mono (w.pl i) J,w.v.un⟩ (by
   by_cases Y:(gs.getD k default).kind=0
   ·exact .inr Y
   ·exact .inl (alJ C (c.st k q Y).1)) (by omega) (by omega) F (c.r3 k q) Fd T.1 T.2
 generalize p:gs.getD k default=g at*;cases K with
 |s_ d body qO W v kb hp=>
  have L:=c.dr k q (by rw[p])
  obtain⟨y,x⟩:=run (nn (lz gs k)+783*AT gs k) (nn (lz gs k)+783*AT gs k+783) (ee (lz gs k)) (alE _) top (fun h=>apC rfl h) fun _=>⟨⟨t3,t4,by omega,L⟩,alE _⟩
  refine⟨y,fun ss f z r=>?_⟩
  have s:=x ss f z r;have A:=ad9 w.ok S.ok w.lb S.nd w.v W v kb hp f z r;have Z:z=⟨a.t,[G1 l a ⟨0,[body],[qO],d⟩ body (xs.getD d ⟨0,false⟩).cos (xs.getD d ⟨0,false⟩).sin],1⟩:=by
   have e:Lj l a ⟨0,[body],[qO],d⟩ body (xs.getD d ⟨0,false⟩)=some ss:=f;simp only[Lj,zIq]at e;subst e
   rwa [alI]at r
  have u:HG a ⟨0,[body],[qO],d⟩ z:=.inl ⟨body,_,rfl,by rw[Z],by rw[w.lb,←v];exact S.ok.body _ (aN W _)⟩
  refine⟨u,?_⟩;have o:lz gs (k+1)=lz gs k:=s1;have m:AT gs (k+1)=AT gs k+1:=s2;have:=HO.put S P w q s (by rw[p];exact u) (by rw[p];exact A) (by rw[o,Z];exact C) (by rw[o,m];omega) (by rw[o,m];omega) (by rw[o];exact alE _)
  rw[p]at this;exact this
 |pair i j H t jc oZ U O fj M v hc kc oc=>
  obtain⟨r1,r2,r3,I⟩:=c.st k q (by rw[p];intro e;cases e)
  obtain⟨y,x⟩:=run (up (lz gs k)) (nn (lz gs k+1)) (ee (lz gs k+1)) top (alE _) (fun _=>I _ C) fun h=>by cases h
  refine⟨y,fun ss f z r=>?_⟩
  have s:=x ss f z r;obtain⟨⟨Q,c1,R⟩,A⟩:=Y1 w.ok w.lb B w.v oZ U O fj M v kc oc f z r s;have u:HG a ⟨1,[i,j],[H,t,jc],0⟩ z:=.inr ⟨i,j,Q,c1,rfl,R,by rw[w.lb];omega,by rw[w.lb];exact U⟩
  refine⟨u,?_⟩;have o:lz gs (k+1)=lz gs k+1:=s1;have m:AT gs (k+1)=AT gs k:=s2;have lT:z.T.length≤a.t.length+1:=(Up.len s.tow).2;have:=HO.put S P w q s (by rw[p];exact u) (by rw[p];exact A) (by rw[o];omega) (by rw[o,m];omega) (by rw[o,m];omega) (by rw[o];exact alE _)
  rw[p]at this;exact this
 |single i H t V O M v=>
  have E:(⟨fW l i t,[i],[H,t],0⟩:Gp).kind≠0:=fun h=>by
   have h:fW l i t=0:=h;rcases SF (l:=l) (i:=i) (b:=t)with h'|h'<;>omega
  obtain⟨r1,r2,r3,I⟩:=c.st k q (by rw[p];exact E)
  obtain⟨y,x⟩:=run (up (lz gs k)) (nn (lz gs k+1)) (ee (lz gs k+1)) top (alE _) (fun _=>I _ C) fun h=>apC h E
  refine⟨y,fun ss f z r=>?_⟩
  have s:=x ss f z r;obtain⟨⟨Q,R⟩,A⟩:=P5 X S.ok S.sz w.pl w.lb B w.v V O M v f z r s;have u:HG a ⟨fW l i t,[i],[H,t],0⟩ z:=.inl ⟨i,Q,rfl,R,by rw[w.lb];exact V⟩
  refine⟨u,?_⟩;have o:lz gs (k+1)=lz gs k+1:=by rw[s1,apA E]
  have m:AT gs (k+1)=AT gs k:=by rw[s2,apA E];rfl
  have lT:z.T.length≤a.t.length+1:=(Up.len s.tow).2;have:=HO.put S P w q s (by rw[p];exact u) (by rw[p];exact A) (by rw[o];omega) (by rw[o,m];omega) (by rw[o,m];omega) (by rw[o];exact alE _)
  rw[p]at this;exact this
end
theorem Un{l:Lk}{a:As}{g:Gp}{x:Tn}{ss:List wK}(h:ot l a g x=some ss):(ss.map (·.mode)).Nodup:=by
 have r:∀{t A B ss},FO t A B=some ss→(ss.map (·.mode)).Nodup:=fun{t A B ss} h=>by
  unfold FO at h
  repeat' split at h
  all_goals first
   |cases h;done
   |(simp only[zIq]at h;subst h;simp)
 have p:∀{t A q b ss},Xf t A q b=some ss→(ss.map (·.mode)).Nodup:=fun{t A q b ss} h=>by
  unfold Xf at h
  repeat' split at h
  all_goals first
   |cases h;done
   |(simp only[zIq]at h;subst h;simp)
 have q:∀{t x ss},Xd t x=some ss→(ss.map (·.mode)).Nodup:=fun{t x ss} h=>by
  unfold Xd at h
  repeat' split at h
  all_goals first
   |cases h;done
   |(simp only[zIq]at h;subst h;simp)
 unfold ot at h;split at h
 ·simp only[Lj,zIq]at h;subst h;simp
 ·exact r h
 ·exact p h
 ·exact q h
 ·cases h
structure Found(Q:As→Prop)(pre:List Int)(new:List As):Prop where
 q:∀x∈new,Q x
 pre:∀x∈new,pre<+:x.ms
 ne:new.Pairwise fun x y=>x.ms≠y.ms
theorem Found.nil{Q:As→Prop}{pre:List Int}:Found Q pre []:=⟨fun _ h=>(by cases h),fun _ h=>(by cases h),.nil⟩
theorem agd{pre:List Int}{m n:Int}{u v:List Int}(a:m≠n)(c:pre++[m]<+:u)(b:pre++[n]<+:v):u≠v:=by
 obtain⟨f,rfl⟩:=c;obtain⟨d,rfl⟩:=b;intro e;simp only[List.append_assoc,List.append_cancel_left_eq,List.cons_append,List.cons.injEq]at e;exact a e.1
theorem DJ{f:As→List As→List As×Bool}{a:As}{g:Gp}{Q:As→Prop}:∀{ss:List wK}{o:List As},(ss.map (·.mode)).Nodup→(∀s∈ss,∀o,∃new,(f (a.put g s) o).1=o++new∧Found Q (a.ms++[s.mode]) new)→∃new,(r9 f a g ss o).1=o++new∧(∀x∈new,∃s∈ss,(a.ms++[s.mode])<+:x.ms)∧Found Q a.ms new
 |[],o,_,_=>⟨[],by simp[r9],fun _ h=>(by cases h),.nil⟩
 |s::ss,o,q,h=>by
  obtain⟨k,r,d⟩:=h s (alW ..) o;have pr1:∀x∈k,a.ms<+:x.ms:=fun x c=>(List.prefix_append _ _).trans (d.pre x c)
  rw[amt,List.nodup_cons]at q;simp only[r9];cases A:f (a.put g s) o with
  |mk o1 b=>
   rw[A]at r;simp only at r;subst r;cases b with
   |false=>exact⟨k,rfl,fun x c=>⟨s,alW ..,d.pre x c⟩,⟨d.q,pr1,d.ne⟩⟩
   |true=>
    obtain⟨v,B,u,t⟩:=DJ (ss:=ss) (o:=o++k) q.2 fun j z=>h j (al_ _ z)
    simp only;refine⟨k++v,by rw[B,am7],fun x c=>?_,⟨fun x c=>?_,fun x c=>?_,List.pairwise_append.2 ⟨d.ne,t.ne,fun x c y w=>?_⟩⟩⟩
    ·rcases amy.1 c with c|c
     ·exact⟨s,alW ..,d.pre x c⟩
     ·obtain⟨j,i,p⟩:=u x c
      exact⟨j,al_ _ i,p⟩
    ·exact(amy.1 c).elim (d.q x) (t.q x)
    ·exact(amy.1 c).elim (pr1 x) (t.pre x)
    ·obtain⟨j,i,p⟩:=u y w
     exact agd (m:=s.mode) (n:=j.mode) (fun e=>q.1 (by rw[e];exact anB i)) (d.pre x c) p
section
variable {l:Lk} {xs:List Tn} {gs:List Gp} {nn ee up:Nat→Nat} {rr:Bool}
theorem HO.clone(g:aa G)(c:Chn gs nn ee up rr)(S:WS l xs)(P:Path l gs){a:As}(w:HO l xs gs nn ee gs.length a):Spec zZq G 82 [b8 a] (b8 a):=by
 have top:=c.top gs.length (alE _);obtain⟨⟨t1,-,-,-⟩,J,-,-⟩:=c.tw gs.length (alE _) a.t.length w.tl;have B:MB≤NB:=rl;have F:=w.tl;have t4:=c.nd gs.length (alE _);have A:∀i,ic G (dC a i):=fun i=>by
  have y:=w.pl i;have h:∀x∈[(dC a i).c,(dC a i).s,(dC a i).x,(dC a i).y],Cn G x:=fun x u=>agy g w.ok (fQ.num y u) (by omega)
  exact⟨h _ (by simp),h _ (by simp),h _ (by simp),h _ (by simp)⟩
 have d:∀b∈a.bs,ic G b:=fun b n=>by
  obtain⟨i,z,e⟩:=alZ.1 n;have:=A i;unfold dC at this;rw[alD,alK z]at this;rw[←e];exact this
 have v:∀r∈a.t,Cn G r:=fun r m=>by
  obtain⟨j,p,e⟩:=alZ.1 m;have q:=w5.root w.bt j;have f:=w.ok.sh j p;rw[alD,alK p,Option.getD_some,e]at q f;have C:ee (lz gs gs.length)≤NB:=alJ (qZ _ _ _) t1;refine G6 g ?_ (q.fit C);rw[f];have:2^j≤2^4:=al3 (by omega) (by omega)
  omega
 have K:=S.b6;have I:=(P.counts S.ok).2.2;have o:a.ms.length≤1000:=by rw[w.ms];omega
 by_cases f:2≤a.bs.length
 ·exact aef g f (by rw[w.lb];exact S.b6) (by omega) o v d
 ·rw[w.lb]at f
  have D:gs.length=0:=by omega
  have L:=S.ok.b0;have H:lz gs gs.length=0:=by rw[D];unfold lz;rw[am'];rfl
  have lt:a.t=[]:=amu (by omega)
  have s:a.bs.length=1:=by rw[w.lb];omega
  obtain⟨b,k⟩:=ams.1 s;obtain⟨t,E,ms⟩:=a;have lt:t=[]:=lt;have k:E=[b]:=k;subst lt k;exact Ws g o (d b (by simp))
theorem akr(f:aa G)(c:Chn gs nn ee up rr)(S:WS l xs)(P:Path l gs)(m:Spec zZq G 47 [g7 l] (.aY [aU iV gs,.lit .nilIface]))(ck:Spec zZq G 37 [g7 l] (.lit .nilIface)):Road G l xs gs (HO l xs gs nn ee)where
 len k a w:=⟨w.ms,w.hk⟩
 leaf a w:=w.clone f c S P
 dr k e j:=by
  have p:=P.step k e;rw[S.len];generalize gs.getD k default=g at p j;cases p with
  |s_ d body qO r s y B=>exact r
  |pair=>cases j
  |single i A o C F D s=>
   have j:fW l i o=0:=j;rcases SF (l:=l) (i:=i) (b:=o)with v|v<;>omega
 sol k a w e:=(w.solve f c S P m ck e).1
 two k a w e n h:=aho h
 next k a w e n h z q:=by
  obtain⟨u,t⟩:=(w.solve f c S P m ck e).2 n h z q;have E:=(P.counts S.ok).2.2;have x:=S.b6;exact⟨RY f u (by rw[w.lb];omega) (by rw[w.lb];exact x) (by rw[w.ms];omega),t⟩
theorem Fj{Q:Nat→As→Prop}(R:Road G l xs gs Q)(c:∀k a,Q k a→k<gs.length→∀ss,ot l a (gs.getD k default) (qJ xs (gs.getD k default))=some ss→∀s∈ss,(a.put (gs.getD k default) s).ms=a.ms++[s.mode]):∀(n k:Nat)(a:As),Q k a→gs.length-k=n→∀o:List As,∃new,(qW l xs (gs.drop k) a o).1=o++new∧Found (Q gs.length) a.ms new
 |0,k,a,q,r,o=>by
  obtain⟨-,d⟩:=R.len k a q;obtain rfl:k=gs.length:=by omega
  rw[aoS];refine⟨[a],rfl,⟨fun x b=>?_,fun x b=>?_,List.pairwise_singleton _ _⟩⟩
  ·rw[alI]at b;rw[b];exact q
  ·rw[alI]at b;rw[b];exact apz _
 |n+1,k,a,q,r,o=>by
  have i:k<gs.length:=by omega
  have t:gs.drop k=gs.getD k default::gs.drop (k+1):=Dd i default;have e:=R.next k a q i
  rw[t];simp only[qW];cases h:ot l a (gs.getD k default) (qJ xs (gs.getD k default))with
  |none=>exact⟨[],by simp,.nil⟩
  |some ss=>
   have e:=e ss h;obtain⟨new,j,-,d⟩:=DJ (f:=qW l xs (gs.drop (k+1))) (a:=a) (g:=gs.getD k default) (Q:=Q gs.length) (o:=o) (Un h) fun s m o=>by
    have p:=(e s m).2;obtain⟨new,j,d⟩:=Fj R c n (k+1) _ p (by omega) o
    have em:(a.put (gs.getD k default) s).ms=a.ms++[s.mode]:=c k a q i ss h s m;rw[em]at d;exact⟨new,j,d⟩
   exact⟨new,j,d⟩
noncomputable def Pw(l:Lk)(xs:List Tn)(gs:List Gp):List As×Bool:=qW l xs gs (dt l.bs.length) []
theorem WQ(d:aa G)(c:Chn gs nn ee up rr)(S:WS l xs)(P:Path l gs)(i:∀x∈xs,Pz G x)(e:Spec zZq G 47 [g7 l] (.aY [aU iV gs,.lit .nilIface]))(ck:Spec zZq G 37 [g7 l] (.lit .nilIface)):
  Spec zZq G 9 [g7 l,aU uI xs] (aew (Pw l xs gs))∧(Pw l xs gs).1.length≤100∧Found (HO l xs gs nn ee gs.length) [] (Pw l xs gs).1:=by
 have R:=akr d c S P e ck;have st:=HO.start (gs:=gs) c S;have r:=(P.counts S.ok).2.2;have s:=S.b6;have o:2^(gs.length-0)≤2^5:=al3 (by omega) (by omega)
 obtain⟨W,b⟩:=L8 d R (gs.length-0) 0 _ st rfl [] (by simp only[List.length_nil];omega)
 rw[amS]at W b;obtain⟨new,f,n⟩:=Fj R (fun k a q m g j z h=>(Yz ((q.solve d c S P e ck m).2 g j z h).1).2.2.2.1) (gs.length-0) 0 _ st rfl []
 rw[amS,anf]at f;refine⟨ajY d e S.len (by have:=S.len;have:=S.d2;omega) i S.ok.b0 S.b6 W,?_,?_⟩
 ·have p:(Pw l xs gs).1.length≤0+2^(gs.length-0):=b
  omega
 ·show Found _ [] (qW l xs gs (dt l.bs.length) []).1
  rw[f];exact n
end
end Tw
end Lw
namespace Lw
open Go Go.RowKit Go.Proofs
namespace Tw
open fL
variable {G:World→Prop} {t:aS} {δ n:Nat}
theorem G5(ok:me t){a b:List Rat}(f:Sh t.length a)(d:Sh t.length b)(h:∀(K:Type)[fw K](ι:r7 Rat K)(s:Nat→K),Model ι s t t.length→vl ι s t a=vl ι s t b):a7 t (RK a b)=0:=by
 obtain⟨K,_,ι,s,c⟩:=ok.model t.length (alE _);have e:vl ι s t (RK a b)=0:=by
  show lv ι s t.length (dJ a (fp b))=0;rw[oU,qv];have:=h K ι s c;unfold vl at this;rw[this,zY.mc]
 show a7 t (dJ a (fp b))=0;rw[lN ι s ok.sh c (f.plus d.minus)];show fw.sg (vl ι s t (RK a b))=0;rw[e,fw.iE]
theorem XT{K:Type}[fw K](ι:r7 Rat K)(s:Nat→K){p q:Pt}(c:Sh t.length p.1)(b:Sh t.length q.1):vl ι s t (fD p q).1=vl ι s t p.1-vl ι s t q.1:=gP ι s c b
theorem XS{K:Type}[fw K](ι:r7 Rat K)(s:Nat→K){p q:Pt}(c:Sh t.length p.2)(b:Sh t.length q.2):vl ι s t (fD p q).2=vl ι s t p.2-vl ι s t q.2:=gP ι s c b
theorem Lf{m:Nat}(E:qV n δ t.length)(f:m≤8*n+2*tb δ t.length+1500){a b:List Rat}(d:aQ m t a)(c:aQ m t b):ab_ δ t a b:=by
 obtain⟨-,e,-⟩:=E;exact⟨m,m,d,c,alJ (mj δ _ (by omega)) e⟩
theorem GX(f:b7 δ t)(E:qV n δ t.length){m r:Nat}(e:m≤8*n+2*tb δ t.length+1500)(d:r≤m){a:List Rat}{q:Rat}(c:aQ m t a)(b:iA r q)(h:∀(K:Type)[fw K](ι:r7 Rat K)(s:Nat→K),Model ι s t t.length→vl ι s t a=ι.φ q):Is δ t a q:=by
 have g:MB≤NB:=rl;obtain⟨o,k,j⟩:=E;exact⟨b.qk (by omega),Lf ⟨o,k,j⟩ e c ((b.num t).mono d),G5 f.b.ok c.sh (Sh.mJ _ _) fun K _ ι s i=>by rw[jP];exact h K ι s i⟩
theorem aaY(k:aa G)(d:b7 δ t)(E:qV n δ t.length){b:Pl}(g:vr n t b)(u:Hy t b):Spec zZq G 93 [aP t,jB b] (bool true):=by
 have q:=E;obtain⟨x,w,v⟩:=E;have o:MB≤NB:=rl;have c:lJ n t (b.c,b.s):=fQ.sub g (by intro a i;simp only[List.mem_cons,List.not_mem_nil,or_false]at i⊢;rcases i with h|h<;>simp[h])
 have f:=Ad d.b c c;have p:=G4 d.b c c;have e:fP t (b.c,b.s):=c.ok (by omega)
 refine afQ k d (g.ok (by omega)) (B0 k d e e (f.num (by simp)) (f.num (by simp)) (by omega)) ?_
 refine GX d q (m:=n+n+tb δ t.length+1) (r:=0) (by omega) (by omega) (p.num (by simp)) (iA.int (m:=0) 1 (by decide)) fun K _ ι s j=>?_
 rw[Cv ι s d.b.ok.sh j ⟨c.x.sh,c.y.sh⟩ ⟨c.x.sh,c.y.sh⟩,show ι.φ ((1:Int):Rat)=1 from ι.one]
 exact u K ι s j
theorem VJ(i:aa G)(f:b7 δ t)(E:qV n δ t.length)(j:1≤n){b:Pl}(d:vr n t b)(e:b=⟨iF ((1:Int):Rat),[],[],[]⟩):Spec zZq G 94 [aP t,jB b] (bool true):=by
 have c:=fQ.num d (a:=b.c) (by simp)
 have s:=fQ.num d (a:=b.s) (by simp)
 have x:=fQ.num d (a:=b.x) (by simp)
 have y:=fQ.num d (a:=b.y) (by simp)
 subst e;have z:∀{a:List Rat},a=[]→aQ n t a→Is δ t a 0:=fun{a} e g=>GX f E (m:=n) (r:=0) (by omega) (amd _) g (iA.zero 0) fun K _ ι σ h=>by rw[e,PO,ι.zero]
 exact acy i f (GX f E (m:=n) (r:=0) (by omega) (amd _) c (iA.int (m:=0) 1 (by decide)) fun K _ ι σ h=>(show vl ι σ t (iF ((1:Int):Rat))=_ from jP ι σ _)) (z rfl s) (z rfl x) (z rfl y)
theorem RC(q:aa G)(d:b7 δ t)(E:qV n δ t.length){b:Pl}(f:vr n t b){x:Tn}(i:iA 64 x.t)(k:x.half=true→x.t=0)(h:TnH t b x):Spec zZq G 100 [aP t,jB b,EF x] (bool true):=by
 obtain⟨o,j,g⟩:=Tn.szs i;have p:4*64+4≤NB:=by have:=rl;have:=E.2.2;omega
 have c:=fQ.num f (a:=b.c) (by simp)
 have s:=fQ.num f (a:=b.s) (by simp)
 exact XE q d (g x.AG p k) (GX d E (m:=n+260) (r:=260) (by omega) (by omega) (c.mono (by omega)) o fun K _ ι σ e=>(h K ι σ e).1) (GX d E (m:=n+260) (r:=260) (by omega) (by omega) (s.mono (by omega)) j fun K _ ι σ e=>(h K ι σ e).2)
section
variable {l:Lk} {xs:List Tn} {a:As}
theorem VK(o:aa G)(S:WS l xs)(c:b7 δ a.t)(E:qV n δ a.t.length)(pl:∀i,vr n a.t (dC a i))(lb:a.bs.length=l.bs.length){j:Nat}(M:j<l.js.length)(h:JtH l a (l.js.getD j default)):Spec zZq G 97 [g7 l,b8 a,JtD (l.js.getD j default)] (bool true):=by
 have N:=E;obtain⟨X,U,W⟩:=E;obtain⟨A,z,u,r,p⟩:=S.ok.at M;have J:=S.ok.kind _ (aN M (default:Jt));generalize l.js.getD j default=b at A z u r p J h;have H:=tO o c S.sz pl (by omega) u
 have F:=tO o c S.sz pl (by omega) r
 have g:=ur c.b.ok S.sz pl u;have f:=ur c.b.ok S.sz pl r;have O:∀i,HP a.t.length (dC a i):=fun i=>(pl i).shB
 have x:∀(K:Type)[fw K](ι:r7 Rat K)(s:Nat→K),Model ι s a.t a.t.length→∀i m,(vl ι s a.t (b9 l a i m).1,vl ι s a.t (b9 l a i m).2)=uK ι s (dC a i) a.t (nE (dP l i m)):=fun K _ ι s d i m=>afs ι s c.b.ok.sh d (O i) (nE (dP l i m))
 rcases J with q|q
 ·have L:∀(K:Type)[fw K](ι:r7 Rat K)(s:Nat→K),Model ι s a.t a.t.length→vl ι s a.t (b9 l a b.a b.p).1=vl ι s a.t (b9 l a b.b b.on).1∧vl ι s a.t (b9 l a b.a b.p).2=vl ι s a.t (b9 l a b.b b.on).2:=fun K _ ι s d=>by
   have k:=(h K ι s d).1 q;rw[←x K ι s d,←x K ι s d]at k;simp only[Prod.mk.injEq]at k;exact k
  exact Vo o l a q u r (by rw[lb];exact A) (by rw[lb];exact z) H F (abY o c (g.ok (by omega)) (f.ok (by omega)) (Lf N (by omega) g.x f.x) (Lf N (by omega) g.y f.y) (G5 c.b.ok g.x.sh f.x.sh fun K _ ι s d=>(L K ι s d).1) (G5 c.b.ok g.y.sh f.y.sh fun K _ ι s d=>(L K ι s d).2))
 ·have p:=p q
  have P:=tO o c S.sz pl (by omega) p
  have y:=ur c.b.ok S.sz pl p;have v:=tK y f;have w:=tK g f;have I:=Ad c.b v w;have V:=G4 c.b v w;have B:a7 a.t (adm a.t (b9 l a b.b b.on) (b9 l a b.b b.to) (b9 l a b.a b.p))=0:=by
   obtain⟨K,_,ι,s,d⟩:=c.b.ok.model a.t.length (alE _);have D:j_ a.t.length (fD (b9 l a b.b b.to) (b9 l a b.b b.on)):=⟨v.x.sh,v.y.sh⟩;have C:j_ a.t.length (fD (b9 l a b.a b.p) (b9 l a b.b b.on)):=⟨w.x.sh,w.y.sh⟩;show a7 a.t (kX a.t (fD (b9 l a b.b b.to) (b9 l a b.b b.on)) (fD (b9 l a b.a b.p) (b9 l a b.b b.on)))=0;rw[lN ι s c.b.ok.sh d (Sh.t_ c.b.ok.sh D C)];have k:=(h K ι s d).2 q;rw[←x K ι s d,←x K ι s d,←x K ι s d]at k;have e:vl ι s a.t (kX a.t (fD (b9 l a b.b b.to) (b9 l a b.b b.on)) (fD (b9 l a b.a b.p) (b9 l a b.b b.on)))=0:=by
    rw[Fk ι s c.b.ok.sh d D C];unfold OnV at k;simp only at k;have f1:vl ι s a.t (fD (b9 l a b.b b.to) (b9 l a b.b b.on)).1=vl ι s a.t (b9 l a b.b b.to).1-vl ι s a.t (b9 l a b.b b.on).1:=XT ι s y.x.sh f.x.sh;have f2:vl ι s a.t (fD (b9 l a b.b b.to) (b9 l a b.b b.on)).2=vl ι s a.t (b9 l a b.b b.to).2-vl ι s a.t (b9 l a b.b b.on).2:=XS ι s y.y.sh f.y.sh;have f3:vl ι s a.t (fD (b9 l a b.a b.p) (b9 l a b.b b.on)).1=vl ι s a.t (b9 l a b.a b.p).1-vl ι s a.t (b9 l a b.b b.on).1:=XT ι s g.x.sh f.x.sh;have f4:vl ι s a.t (fD (b9 l a b.a b.p) (b9 l a b.b b.on)).2=vl ι s a.t (b9 l a b.a b.p).2-vl ι s a.t (b9 l a b.b b.on).2:=XS ι s g.y.sh f.y.sh;rw[f1,f2,f3,f4];exact k
   show fw.sg (vl ι s a.t (kX a.t (fD (b9 l a b.b b.to) (b9 l a b.b b.on)) (fD (b9 l a b.a b.p) (b9 l a b.b b.on))))=0;rw[e,fw.iE]
  have o1:aQ _ a.t (kX a.t (fD (b9 l a b.b b.to) (b9 l a b.b b.on)) (fD (b9 l a b.a b.p) (b9 l a b.b b.on))):=V.num (al_ _ (alW ..));have R:aQ _ a.t (mulL a.t (fD (b9 l a b.b b.to) (b9 l a b.b b.on)).1 (fD (b9 l a b.a b.p) (b9 l a b.b b.on)).2):=I.num (al_ _ (al_ _ (alW ..)));have Q:aQ _ a.t (mulL a.t (fD (b9 l a b.b b.to) (b9 l a b.b b.on)).2 (fD (b9 l a b.a b.p) (b9 l a b.b b.on)).1):=I.num (al_ _ (al_ _ (al_ _ (alW ..))));have k1:fP a.t (b9 l a b.a b.p):=g.ok (by omega)
  have k2:fP a.t (b9 l a b.b b.on):=f.ok (by omega)
  have k3:fP a.t (b9 l a b.b b.to):=y.ok (by omega)
  have T:fP a.t (fD (b9 l a b.b b.to) (b9 l a b.b b.on)):=v.ok (by omega)
  have kw:fP a.t (fD (b9 l a b.a b.p) (b9 l a b.b b.on)):=w.ok (by omega)
  have sg:yl δ a.t (adm a.t (b9 l a b.b b.on) (b9 l a b.b b.to) (b9 l a b.a b.p)):=⟨_,o1,alJ (mj δ _ (by omega)) U⟩
  exact NN o l a q u r p (by rw[lb];exact A) (by rw[lb];exact z) H F P (R7 o c k2 k3 k1 T kw (R.mono (by omega)) (Q.mono (by omega)) sg B)
theorem RB(c:aa G)(S:WS l xs)(ck:Spec zZq G 37 [g7 l] (.lit .nilIface))(g:b7 δ a.t)(E:qV n δ a.t.length)(u:1≤n)(pl:∀i,vr n a.t (dC a i))(lb:a.bs.length=l.bs.length){s:Fn}(v:VSt l xs s a)(p:∀i,i<l.bs.length→s.known.getD i false=true)(hu:∀j,j<l.js.length→s.used.getD j false=true):Spec zZq G 11 [g7 l,aU uI xs,b8 a] L9:=by
 have D:=S.b6;have B:=S.j8;have d2:=S.d2;have o:64≤NB:=by have:=rl;have:=E.2.2;omega
 have A:=ajO c (x:=p_ a) (l:=a.bs) ⟨[],[],[],[]⟩ (by omega) fun i C=>ahR c a (b:=dC a i) (aaY c g E (pl i) (v.un i (p i (by omega)))) fun e=>VJ c g E u (pl i) (by rw[e];exact v.fr)
 have z:=ajP c (x:=EB l) (y:=p_ a) (l:=l.js) default (by omega) fun j k=>ahS c l a (VK c S g E pl lb k (v.jo j k (hu j k)))
 have w:=ajQ c (x:=p_ a) (y:=[aU uI xs]) (l:=l.ds) default (by omega) fun d m=>by
  have q:=S.ok.body _ (aN m (default:Dr));exact ahT c a xs (by rw[S.len];exact m) (by rw[lb];exact q) (RC c g E (pl _) (S.Mh d).1 (S.Mh d).2 (v.dv d m (p _ q)))
 have f:=ad5 c l a xs g lb A z w;have len:=S.len;have h:=S.tr;rcases ZU (l:=xs) (by omega)with rfl|⟨x0,rfl⟩|⟨x0,r,rfl⟩
 ·exact T8 c l a (by rw[←len];rfl) ck f
 ·have t0:=h x0 (by simp)
  exact T7 c l a (t0.1.qk o) t0.2 (by rw[←len];rfl) ck f
 ·have t0:=h x0 (by simp)
  have t1:=h r (by simp)
  exact T6 c l a (t0.1.qk o) t0.2 (t1.1.qk o) t1.2 (by rw[←len];rfl) ck f
end
end Tw
end Lw
namespace Lw
open Go Go.RowKit Go.Proofs
namespace Tw
variable {G:World→Prop}
def u8(n:Nat):D:=.lit (.int .u8 (zNq n))
def vH(s:ByteArray):D:=.lit (.string s)
def oV(n:Nat):Bool:=(decide (65≤n)&&decide (n≤90))||(decide (97≤n)&&decide (n≤122))
def w_(n:Nat):Bool:=decide (48≤n)&&decide (n≤57)
def tP(n:Nat):Bool:=oV n||w_ n||decide (n=95)
theorem Az{a b:Nat}(h:b≤a):decide (zNq a≥zNq b)=true:=by simp;omega
theorem K6{a b:Nat}(h:¬b≤a):decide (zNq a≥zNq b)=false:=by simp;omega
theorem KT{a b:Nat}(h:a≤b):decide (zNq a≤zNq b)=true:=by simp;omega
theorem H6{a b:Nat}(h:¬a≤b):decide (zNq a≤zNq b)=false:=by simp;omega
theorem Ap(c:aa G)(n:Nat):Spec zZq G 184 [u8 n] (bool (oV n)):=by
 by_cases b:65≤n
 ·by_cases d:n≤90
  ·have e:oV n=true:=by simp[oV,b,d]
   rw[e];exact Spec.r c func184 [] [.eb 4 (Az b),.eb 7 (KT d)]
  ·by_cases a:97≤n
   ·by_cases f:n≤122
    ·have e:oV n=true:=by simp[oV,a,f]
     rw[e];exact Spec.r c func184 [] [.eb 4 (Az b),.eb 7 (H6 d),.eb 11 (Az a),.eb 14 (KT f)]
    ·have e:oV n=false:=by simp[oV];omega
     rw[e];exact Spec.r c func184 [] [.eb 4 (Az b),.eb 7 (H6 d),.eb 11 (Az a),.eb 14 (H6 f)]
   ·have e:oV n=false:=by simp[oV];omega
    rw[e];exact Spec.r c func184 [] [.eb 4 (Az b),.eb 7 (H6 d),.eb 11 (K6 a)]
 ·have a:¬97≤n:=by omega
  have e:oV n=false:=by simp[oV];omega
  rw[e];exact Spec.r c func184 [] [.eb 4 (K6 b),.eb 11 (K6 a)]
theorem Nw(c:aa G)(n:Nat):Spec zZq G 214 [u8 n] (bool (oV n)):=by
 by_cases b:97≤n
 ·by_cases f:n≤122
  ·have e:oV n=true:=by simp[oV,b,f]
   rw[e];exact Spec.r c func214 [] [.eb 4 (Az b),.eb 7 (KT f)]
  ·have a:65≤n:=by omega
   have d:¬n≤90:=by omega
   have e:oV n=false:=by simp[oV];omega
   rw[e];exact Spec.r c func214 [] [.eb 4 (Az b),.eb 7 (H6 f),.eb 11 (Az a),.eb 14 (H6 d)]
 ·by_cases a:65≤n
  ·by_cases d:n≤90
   ·have e:oV n=true:=by simp[oV,a,d]
    rw[e];exact Spec.r c func214 [] [.eb 4 (K6 b),.eb 11 (Az a),.eb 14 (KT d)]
   ·have e:oV n=false:=by simp[oV];omega
    rw[e];exact Spec.r c func214 [] [.eb 4 (K6 b),.eb 11 (Az a),.eb 14 (H6 d)]
  ·have e:oV n=false:=by simp[oV];omega
   rw[e];exact Spec.r c func214 [] [.eb 4 (K6 b),.eb 11 (K6 a)]
theorem Jo(b:aa G)(n:Nat):Spec zZq G 186 [u8 n] (bool (w_ n)):=by
 by_cases a:48≤n
 ·by_cases c:n≤57
  ·have e:w_ n=true:=by simp[w_,a,c]
   rw[e];exact Spec.r b func186 [] [.eb 4 (Az a),.eb 7 (KT c)]
  ·have e:w_ n=false:=by simp[w_];omega
   rw[e];exact Spec.r b func186 [] [.eb 4 (Az a),.eb 7 (H6 c)]
 ·have e:w_ n=false:=by simp[w_];omega
  rw[e];exact Spec.r b func186 [] [.eb 4 (K6 a)]
theorem aeb(b:aa G)(n:Nat):Spec zZq G 285 [u8 n] (bool (w_ n)):=by
 by_cases a:48≤n
 ·by_cases c:n≤57
  ·have e:w_ n=true:=by simp[w_,a,c]
   rw[e];exact Spec.r b func285 [] [.eb 4 (Az a),.eb 7 (KT c)]
  ·have e:w_ n=false:=by simp[w_];omega
   rw[e];exact Spec.r b func285 [] [.eb 4 (Az a),.eb 7 (H6 c)]
 ·have e:w_ n=false:=by simp[w_];omega
  rw[e];exact Spec.r b func285 [] [.eb 4 (K6 a)]
theorem Y0(a:aa G)(n:Nat):Spec zZq G 215 [u8 n] (bool (tP n)):=by
 have b:=Nw a n;have c:=aeb a n;unfold tP;generalize oV n=x at b;generalize w_ n=y at c;cases x
 ·cases y
  ·by_cases h:n=95
   ·rw[apD h]
    exact Spec.r a func215 [] [.call b,.call c,.eb 11 (gd h)]
   ·rw[apE h]
    exact Spec.r a func215 [] [.call b,.call c,.eb 11 (eJ h)]
  ·exact Spec.r a func215 [] [.call b,.call c]
 ·exact Spec.r a func215 [] [.call b]
def zV(s:ByteArray)(i:Nat):Nat:=((s[i]?).getD 0).toNat
theorem ahV(a:aa G)(s:ByteArray)(i:Nat):Spec zZq G 185 [vH s,nat i] (u8 (zV s i)):=by
 by_cases h:i<s.size
 ·have p:(0:Int)≤zNq i∧(zNq i).toNat<s.size:=⟨by simp,h⟩
  exact Spec.r a func185 [] [.eb 8 (ay h),.prop p]
 ·have e:zV s i=0:=by
   unfold zV;have:s[i]? =none:=by simp;omega
   rw[this];rfl
  rw[e];exact Spec.r a func185 [] [.eb 8 (aH (i:=i) (N:=s.size) (by omega))]
def pe(s:ByteArray):Nat:=(List.range s.size).findIdx fun i=>!tP (zV s i)
theorem J7(s:ByteArray):pe s≤s.size:=by
 have:=amV (xs:=List.range s.size) (p:=fun i=>!tP (zV s i))
 rwa [am_]at this
theorem Si{s:ByteArray}{i:Nat}(h:i<pe s):tP (zV s i)=true:=by
 have a:i<s.size:=ami h (J7 s);have:=(pL (p:=fun i=>!tP (zV s i)) (l:=List.range s.size) 0 h).2
 rw[lZ a]at this;simpa using this
theorem aep{s:ByteArray}{i:Nat}(h:s.size≤i):zV s i=0:=by
 unfold zV;have:s[i]? =none:=by simp;omega
 rw[this];rfl
theorem Sj(s:ByteArray):tP (zV s (pe s))=false:=by
 rcases alU (pe s) s.size with h|h
 ·have b:(List.range s.size).findIdx (fun i=>!tP (zV s i))<(List.range s.size).length:=by rw[am_];exact h
  have:=kJ (p:=fun i=>!tP (zV s i)) 0 b
  have a:(List.range s.size).findIdx (fun i=>!tP (zV s i))<s.size:=h
  rw[lZ a]at this;show tP (zV s ((List.range s.size).findIdx fun i=>!tP (zV s i)))=false
  simpa using this
 ·rw[aep h];decide
def wiS(s:ByteArray)(i:Nat):St:=lay 30 [(0,vH s),(1,nat i)] []
theorem Xv(a:aa G){s:ByteArray}{i:Nat}(f:i<pe s)(g:s.size≤1000000000):ak zZq G 0 (ah f138 0) (wiS s i) .normal (wiS s (i+1)):=by
 have h:=Si f;have c:=ami f (J7 s);have c0:=ahV a s i;have b:=Ap a (zV s i);have e:=Jo a (zV s i);unfold tP at h;generalize oV (zV s i)=x at h b;generalize w_ (zV s i)=y at h e;cases x
 ·cases y
  ·have d:zV s i=95:=by simpa using h
   exact ak.r a [.call c0,.call b,.call c0,.call e,.call c0,.eb 25 (gd d),.eq 28 (bQ (aI c (by omega)))]
  ·exact ak.r a [.call c0,.call b,.call c0,.call e,.eq 28 (bQ (aI c (by omega)))]
 ·exact ak.r a [.call c0,.call b,.eq 28 (bQ (aI c (by omega)))]
theorem acf(a:aa G)(s:ByteArray):ak zZq G 0 (ah f138 0) (wiS s (pe s)) (.exit 0) (wiS s (pe s)):=by
 have h:=Sj s;have c0:=ahV a s (pe s);have d:=Ap a (zV s (pe s));have c:=Jo a (zV s (pe s));unfold tP at h;generalize oV (zV s (pe s))=x at h d;generalize w_ (zV s (pe s))=y at h c;cases x
 ·cases y
  ·have b:zV s (pe s)≠95:=by simpa using h
   exact ak.r a [.call c0,.call d,.call c0,.call c,.call c0,.eb 25 (eJ b)]
  ·cases h
 ·cases h
def Fi(s:ByteArray):Nat:=if oV (zV s 0)then pe s else 0
theorem T3(a:aa G){s:ByteArray}(d:s.size≤1000000000):Spec zZq G 138 [vH s,nat 0] (nat (Fi s)):=by
 have c0:=ahV a s 0;have b:=Ap a (zV s 0);have c:=bT.z zZq G (ah f138 0) (.exit 0) (wiS s (pe s)) (fun i=>wiS s i) (pe s) (fun i e=>Xv a e d) (acf a s)
 unfold Fi;generalize oV (zV s 0)=x at b;cases x
 ·exact Spec.r a func138 [] [.call c0,.call b]
 ·exact Spec.r a func138 [] [.call c0,.call b,.code c]
def oe(s:ByteArray):Bool:=decide (0<s.size)&&(decide (s.size≤24)&&decide (Fi s=s.size))
theorem s9{a b:Nat}(h:b<a):decide (zNq a>zNq b)=true:=by simp;omega
theorem fb{a b:Nat}(h:¬b<a):decide (zNq a>zNq b)=false:=by simp;omega
theorem DB(d:aa G){s:ByteArray}(f:s.size≤1000000000):Spec zZq G 74 [vH s] (bool (oe s)):=by
 have c:=T3 d f;unfold oe;by_cases a:0<s.size
 ·by_cases b:s.size≤24
  ·by_cases e:Fi s=s.size
   ·rw[apD a,apD b,apD e]
    exact Spec.r d func74 [] [.eb 5 (s9 a),.eb 9 (KT b),.call c,.eb 16 (gd e)]
   ·rw[apD a,apD b,apE e]
    exact Spec.r d func74 [] [.eb 5 (s9 a),.eb 9 (KT b),.call c,.eb 16 (eJ e)]
  ·rw[apD a,apE b]
   exact Spec.r d func74 [] [.eb 5 (s9 a),.eb 9 (H6 b)]
 ·rw[apE a]
  exact Spec.r d func74 [] [.eb 5 (fb a)]
def twS(s:ByteArray)(i:Nat):St:=lay 25 [(0,vH s),(3,nat i)] []
theorem XD(c:aa G){s:ByteArray}{i:Nat}(b:i<pe s)(e:s.size≤1000000000):ak zZq G 0 (ah f154 0) (twS s i) .normal (twS s (i+1)):=by
 have h:=Si b;have a:=ami b (J7 s);have p:(0:Int)≤zNq i∧(zNq i).toNat<s.size:=⟨by simp,a⟩
 have d:=Y0 c (zV s i);rw[h]at d;exact ak.r c [.eb 15 (ay a),.prop p,.call d,.eq 23 (bQ (aI a (by omega)))]
theorem acm(a:aa G)(s:ByteArray):ak zZq G 0 (ah f154 0) (twS s (pe s)) (.exit 0) (twS s (pe s)):=by
 rcases alU (pe s) s.size with h|h
 ·have b:=Y0 a (zV s (pe s))
  rw[Sj]at b;have p:(0:Int)≤zNq (pe s)∧(zNq (pe s)).toNat<s.size:=⟨by simp,h⟩
  exact ak.r a [.eb 15 (ay h),.prop p,.call b]
 ·exact ak.r a [.eb 15 (aH h)]
theorem Uk{s:ByteArray}(h:0<s.size):(s.toList==(ByteArray.mk #[]).toList)=false:=by
 rw[Go.ByteArray.toList_eq,Go.ByteArray.toList_eq,beq_eq_false_iff_ne];intro e;have c:s.data.toList.length=0:=by rw[e];rfl
 have b:s.data.toList.length=s.data.size:=amM;have a:s.data.size=s.size:=rfl;omega
theorem afH(a:aa G){s:ByteArray}(d:0<s.size)(g:s.size≤1000000000)(hw:Fi s=s.size):Spec zZq G 154 [vH s] (nat s.size):=by
 have c:oV (zV s 0)=true:=by
  unfold Fi at hw;split at hw
  ·assumption
  ·omega
 have f:pe s=s.size:=by
  unfold Fi at hw;rw[apB c]at hw;exact hw
 have e:=Nw a (zV s 0);rw[c]at e;have p:(0:Int)≤zNq 0∧(zNq 0).toNat<s.size:=⟨by simp,d⟩
 have b:=bT.z zZq G (ah f154 0) (.exit 0) (twS s (pe s)) (fun i=>twS s (i+1)) (pe s-1) (fun i h=>XD a (by omega) g) (by rw[show pe s-1+1=pe s by omega];exact acm a s)
 rw[f]at b;exact Spec.r a func154 [] [.eb 5 (Uk d),.prop p,.call e,.code b]
theorem Ch(a:aa G){s:ByteArray}(h:oe s=true):Spec zZq G 87 [vH s] (bool true):=by
 unfold oe at h;rw[Bool.and_eq_true,Bool.and_eq_true,decide_eq_true_eq,decide_eq_true_eq,decide_eq_true_eq]at h;obtain⟨b,e,d⟩:=h;have c:=afH a b (by omega) d
 exact Spec.r a func87 [] [.call c,.eb 7 (s9 b),.eb 12 (gd (rfl:s.size=s.size)),.eb 16 (KT e)]
structure EG where
 nm:ByteArray
 x:Raw
 y:Raw
instance:Inhabited EG:=⟨⟨.empty,⟨false,[],[]⟩,⟨false,[],[]⟩⟩⟩
def qM(r:Raw):List D:=[bool r.s,az r.n,az r.d]
def px(m:EG):List D:=vH m.nm::(qM m.x++qM m.y)
structure zB where
 nm:ByteArray
 bC:List EG
instance:Inhabited zB:=⟨⟨.empty,[]⟩⟩
def rJ(b:zB):List D:=[vH b.nm,aU px b.bC]
theorem bK(m:EG):(px m).length=7:=rfl
theorem bB(b:zB):(rJ b).length=2:=rfl
def fX(a b:ByteArray):Bool:=a.toList==b.toList
def Dc(l:List ByteArray)(i:Nat):Bool:=(List.range i).any fun j=>fX (l.getD j .empty) (l.getD i .empty)
def kV(f:Nat→Nat)(n:Nat):Nat:=((List.range n).map f).find? (·≠0)|>.getD 0
structure EG.Ok(m:EG):Prop where
 nm:m.nm.size≤1000000000
 x:∃k,m.x.ok k∧2*k<KB
 y:∃k,m.y.ok k∧2*k<KB
def Xe(a:List EG)(k:Nat):Nat:=
 if oe (a.getD k default).nm=false then 5
 else if Dc (a.map (·.nm)) k=true then 6
 else if(a.getD k default).x.valid=false∨(a.getD k default).y.valid=false then 3 else 0
def YD(a:List EG):Nat:=if 8<a.length then 4 else kV (Xe a) a.length
theorem dy(f:Nat→Nat)(n:Nat):(kV f n=0∧∀i,i<n→f i=0)∨∃i,i<n∧f i≠0∧kV f n=f i∧∀j,j<i→f j=0:=by
 induction n with
 |zero=>exact .inl ⟨rfl,fun i h=>by omega⟩
 |succ n g=>
  have e:kV f (n+1)=if kV f n≠0 then kV f n else f n:=by
   unfold kV;rw[ang,an_,List.find?_append];cases h:((List.range n).map f).find? (·≠0)with
   |none=>
    simp only[Option.none_or,Option.getD_none,List.map_cons,List.map_nil];by_cases c:f n=0
    ·simp[c]
    ·simp[c]
   |some x=>
    have:=aon h;have k:x≠0:=by simpa using this
    simp[k]
  rcases g with⟨d,a⟩|⟨i,d,a,m,l⟩
  ·rw[d]at e
   by_cases b:f n=0
   ·exact .inl ⟨by rw[e];simp[b],fun i o=>by
     rcases alU i n with h|h
     ·exact a i h
     ·rw[show i=n by omega];exact b⟩
   ·exact .inr ⟨n,by omega,b,by rw[e];simp,a⟩
  ·refine .inr ⟨i,by omega,a,?_,l⟩
   rw[e,m,apB a]
def Xh(b:zB)(k j:Nat):St:=lay 50 [(1,.aV (rJ b)),(3,nat k),(4,.ptr 0 0),(5,nat j)] [(0,px (b.bC.getD k default))]
def ppS(b:zB)(k:Nat):St:=lay 50 [(1,.aV (rJ b)),(3,nat k)] []
def ptR(n:Nat):St:=lay 50 [(2,nat n)] []
theorem m6{a b:ByteArray}{z:Bool}(h:fX a b=z):D.lit (.bool (a.toList==b.toList))=.lit (.bool z):=by rw[←h];rfl
theorem F8(f:aa G){b:zB}{k j:Nat}(a:j<k)(g:k<b.bC.length)(m:b.bC.length≤8)(h:fX (b.bC.getD j default).nm (b.bC.getD k default).nm=false):
  ak zZq G 0 (ah f139 1) (Xh b k j) .normal (Xh b k (j+1)):=by
 have d:=aC bK (by omega) (i:=j) (l:=b.bC) (by omega)
 have c:=bH bK (i:=j) (l:=b.bC) (by omega) 0 (by omega)
 have e:=jA bK (i:=j) (l:=b.bC) (by omega) default 0 (by omega)
 have n:D.lit (.string (b.bC.getD j default).nm)=vH (b.bC.getD j default).nm:=rfl;exact ak.r f [.eb 28 (ay a),.er 33 (nat j),.prop d,.prop c,.eq 36 e,.eq 39 (m6 h),.eq 30 (bQ (aI a (by omega)))]
theorem YY(a:aa G){b:zB}{k:Nat}:ak zZq G 0 (ah f139 1) (Xh b k k) (.exit 2) (Xh b k k):=
 ak.r a [.eb 28 (aH (alE k))]
theorem agn(f:aa G){b:zB}{k j:Nat}(d:j<k)(g:k<b.bC.length)(h:fX (b.bC.getD j default).nm (b.bC.getD k default).nm=true):
  ak zZq G 0 (ah f139 1) (Xh b k j) .ret (ptR 6):=by
 have c:=aC bK (by omega) (i:=j) (l:=b.bC) (by omega)
 have a:=bH bK (i:=j) (l:=b.bC) (by omega) 0 (by omega)
 have e:=jA bK (i:=j) (l:=b.bC) (by omega) default 0 (by omega)
 exact ak.r f [.eb 28 (ay d),.er 33 (nat j),.prop c,.prop a,.eq 36 e,.eq 39 (m6 h)]
theorem u5{α β:Type}(f:α→β){l:List α}{i:Nat}(h:i<l.length)(d:α)(d':β):(l.map f).getD i d'=f (l.getD i d):=by
 rw[alD,alD,ane,alK h];rfl
theorem mw{α:Type}(nm:α→ByteArray)(d:α){l:List α}{k:Nat}(m:k<l.length):(Dc (l.map nm) k=false∧∀j,j<k→fX (nm (l.getD j d)) (nm (l.getD k d))=false)∨(Dc (l.map nm) k=true∧∃j,j<k∧fX (nm (l.getD j d)) (nm (l.getD k d))=true∧∀i,i<j→fX (nm (l.getD i d)) (nm (l.getD k d))=false):=by
 have ev:∀j,j<k→fX ((l.map nm).getD j .empty) ((l.map nm).getD k .empty)=fX (nm (l.getD j d)) (nm (l.getD k d)):=fun j a=>by
  rw[u5 nm (by omega) d,u5 nm m d]
 rcases dy (fun j=>if fX (nm (l.getD j d)) (nm (l.getD k d))=true then 1 else 0) k with⟨-,h⟩|⟨i,c,f,-,n⟩
 ·have g:∀j,j<k→fX (nm (l.getD j d)) (nm (l.getD k d))=false:=fun j a=>by
   have:=h j a;split at this
   ·cases this
   ·rename_i b;simpa using b
  refine .inl ⟨?_,g⟩;unfold Dc;rw[aor];intro j a;rw[ann]at a;rw[ev j a,g j a];simp
 ·have e:fX (nm (l.getD i d)) (nm (l.getD k d))=true:=by
   split at f
   ·assumption
   ·exact apC rfl f
  refine .inr ⟨?_,i,c,e,fun j a=>?_⟩
  ·unfold Dc
   rw[am5];exact⟨i,ann.2 c,by rw[ev i c];exact e⟩
  ·have:=n j a
   split at this
   ·cases this
   ·rename_i b;simpa using b
theorem ae6(c:aa G){b:zB}{k:Nat}(a:k<b.bC.length)(C:b.bC.length≤8)(ok:∀m∈b.bC,m.Ok)(h:Xe b.bC k=0):
  ak zZq G 0 (ah f139 0) (ppS b k) .normal (ppS b (k+1)):=by
 have A:=aC bK (by omega) a
 have z:=av bK (by omega) a
 have e:=cg bK a default;have l:=ok _ (aN a default);have w:=mw EG.nm default a;have D:(b.bC.map fun m=>m.nm)=b.bC.map EG.nm:=rfl
 unfold Xe at h;rw[D]at h;have r:=DB c l.nm;obtain⟨I,y,F⟩:=l.x;obtain⟨H,x,E⟩:=l.y;have q:=mB (G:=G) c y (by omega)
 have p:=mB (G:=G) c x (by omega)
 have i:∀j,(Xh b k j).tmps.length=50:=fun j=>af ..
 split at h
 ·cases h
 ·rename_i g
  split at h
  ·cases h
  ·rename_i f
   split at h
   ·cases h
   ·rename_i o
    have g:oe (b.bC.getD k default).nm=true:=by simpa using g
    have f:Dc (b.bC.map EG.nm) k=false:=by simpa using f
    have t:(b.bC.getD k default).x.valid=true:=by
     cases n:(b.bC.getD k default).x.valid with
     |true=>rfl
     |false=>exact apC (.inl n) o
    have s:(b.bC.getD k default).y.valid=true:=by
     cases n:(b.bC.getD k default).y.valid with
     |true=>rfl
     |false=>exact apC (.inr n) o
    rw[g]at r;rw[t]at q;rw[s]at p;have v:∀j,j<k→fX (b.bC.getD j default).nm (b.bC.getD k default).nm=false:=by
     rcases w with⟨-,d⟩|⟨d,-⟩
     ·exact d
     ·rw[f]at d;cases d
    have B:=bT.count (P:=zZq) (Good:=G) (gb:=0) (body:=ah f139 1) (e:=.exit 2) (s':=Xh b k k) (fun j=>Xh b k j) k i (by intro h;cases h) (fun j u=>F8 c u a C (v j u)) (YY c)
    clear w h g f o v t s;exact ak.r c [.eb 14 (ay a),.er 19 (nat k),.prop A,.prop z,.eq 21 e,.call r,.code B,.call q,.call p,.eq 16 (bQ (aI a (by omega)))]
theorem agl(c:aa G){b:zB}{k:Nat}(a:k<b.bC.length)(z:b.bC.length≤8)(ok:∀m∈b.bC,m.Ok)(h:Xe b.bC k≠0):
  ak zZq G 0 (ah f139 0) (ppS b k) .ret (ptR (Xe b.bC k)):=by
 have r:=aC bK (by omega) a
 have q:=av bK (by omega) a
 have e:=cg bK a default;have t:=ok _ (aN a default);have o:=mw EG.nm default a;have F:(b.bC.map fun m=>m.nm)=b.bC.map EG.nm:=rfl
 unfold Xe at h⊢;rw[F]at h⊢;have f:=DB c t.nm;obtain⟨L,C,J⟩:=t.x;obtain⟨K,B,I⟩:=t.y;have p:=mB (G:=G) c C (by omega)
 have w:=mB (G:=G) c B (by omega)
 have n:∀j,(Xh b k j).tmps.length=50:=fun j=>af ..
 split
 ·rename_i l
  rw[l]at f;clear o h;exact ak.r c [.eb 14 (ay a),.er 19 (nat k),.prop r,.prop q,.eq 21 e,.call f]
 ·rename_i l
  have H:oe (b.bC.getD k default).nm=true:=by simpa using l
  rw[apA l]at h;rw[H]at f;split
  ·rename_i g
   obtain⟨j,d1,d2,d3⟩:∃j,j<k∧fX (b.bC.getD j default).nm (b.bC.getD k default).nm=true∧∀i,i<j→fX (b.bC.getD i default).nm (b.bC.getD k default).nm=false:=by
    rcases o with⟨d,-⟩|⟨-,d⟩
    ·rw[g]at d;cases d
    ·exact d
   have s:=bT.count (P:=zZq) (Good:=G) (gb:=0) (body:=ah f139 1) (e:=.ret) (s':=ptR 6) (fun j=>Xh b k j) j n (by intro h;cases h) (fun i E=>F8 c (by omega) a z (d3 i E)) (agn c d1 a d2)
   clear o h l g;exact ak.r c [.eb 14 (ay a),.er 19 (nat k),.prop r,.prop q,.eq 21 e,.call f,.code s]
  ·rename_i g
   rw[apA g]at h;have A:Dc (b.bC.map EG.nm) k=false:=by simpa using g
   have y:∀j,j<k→fX (b.bC.getD j default).nm (b.bC.getD k default).nm=false:=by
    rcases o with⟨-,d⟩|⟨d,-⟩
    ·exact d
    ·rw[A]at d;cases d
   have s:=bT.count (P:=zZq) (Good:=G) (gb:=0) (body:=ah f139 1) (e:=.exit 2) (s':=Xh b k k) (fun j=>Xh b k j) k n (by intro h;cases h) (fun j x=>F8 c x a z (y j x)) (YY c)
   split
   ·rename_i v
    clear o h l g y A;cases u:(b.bC.getD k default).x.valid with
    |false=>
     rw[u]at p;exact ak.r c [.eb 14 (ay a),.er 19 (nat k),.prop r,.prop q,.eq 21 e,.call f,.code s,.call p]
    |true=>
     have D:(b.bC.getD k default).y.valid=false:=v.resolve_left (by rw[u];simp)
     rw[u]at p;rw[D]at w;exact ak.r c [.eb 14 (ay a),.er 19 (nat k),.prop r,.prop q,.eq 21 e,.call f,.code s,.call p,.call w]
   ·rename_i v
    rw[apA v]at h;exact apC rfl h
theorem agk(a:aa G){b:zB}:ak zZq G 0 (ah f139 0) (ppS b b.bC.length) (.exit 0) (ppS b b.bC.length):=
 ak.r a [.eb 14 (aH (alE b.bC.length))]
theorem YJ(a:aa G){b:zB}(ok:∀m∈b.bC,m.Ok):Spec zZq G 139 [.agg (rJ b)] (nat (YD b.bC)):=by
 unfold YD;by_cases d:8<b.bC.length
 ·rw[apB d]
  exact Spec.r a func139 [1] [.eb 9 (s9 d)]
 ·rw[apA d]
  have c:b.bC.length≤8:=by omega
  rcases dy (Xe b.bC) b.bC.length with⟨h,g⟩|⟨i,h,g,l,j⟩
  ·have f:=bT.z zZq G (ah f139 0) (.exit 0) (ppS b b.bC.length) (fun k=>ppS b k) b.bC.length (fun k e=>ae6 a e c ok (g k e)) (agk a)
   rw[h];exact Spec.r a func139 [1] [.eb 9 (fb d),.code f]
  ·have f:=bT.z zZq G (ah f139 0) .ret (ptR (Xe b.bC i)) (fun k=>ppS b k) i (fun k e=>ae6 a (by omega) c ok (j k e)) (agl a h c ok g)
   rw[l];exact Spec.r a func139 [1] [.eb 9 (fb d),.code f]
structure PK where
 nm:ByteArray
 kind:Int
 a:Int
 p:Int
 b:Int
 on:Int
 to:Int
instance:Inhabited PK:=⟨⟨.empty,0,0,0,0,0,0⟩⟩
def Dn(j:PK):List D:=[vH j.nm,int j.kind,int j.a,int j.p,int j.b,int j.on,int j.to]
structure TV where
 nm:ByteArray
 body:Int
instance:Inhabited TV:=⟨⟨.empty,0⟩⟩
def zy(d:TV):List D:=[vH d.nm,int d.body]
structure pS where
 nm:ByteArray
 bs:List zB
 js:List PK
 ds:List TV
def tf(l:pS):List D:=[vH l.nm,aU rJ l.bs,aU Dn l.js,aU zy l.ds]
def Ci(l:pS):D:=.agg (tf l)
theorem jX(j:PK):(Dn j).length=7:=rfl
theorem fK(d:TV):(zy d).length=2:=rfl
structure zB.Ok(b:zB):Prop where
 nm:b.nm.size≤1000000000
 bC:∀m∈b.bC,m.Ok
structure pS.Ok(l:pS):Prop where
 nm:l.nm.size≤1000000000
 bs:∀b∈l.bs,b.Ok
 js:∀j∈l.js,j.nm.size≤1000000000
 ds:∀d∈l.ds,d.nm.size≤1000000000
def bdE(bs:List zB)(i:Nat):Nat:=
 if oe (bs.getD i default).nm=false then 5
 else if Dc (bs.map zB.nm) i=true then 6
 else YD (bs.getD i default).bC
def bdS(l:pS)(i j:Nat):St:=lay 48 [(1,.aV (tf l)),(3,nat i),(4,nat j)] []
def bbS(l:pS)(i:Nat):St:=lay 48 [(1,.aV (tf l)),(3,nat i)] []
def bdR(n:Nat):St:=lay 48 [(2,nat n)] []
section
variable {l:pS} {i j:Nat}
theorem yi(a:i<l.bs.length):((0:Int)≤zNq i∧zNq i<(l.bs.length:Int))∧(zNq i).toNat*2<(l.bs.flatMap rJ).length:=aC bB (by omega) a
theorem Ps(k:aa G)(b:j<i)(a:i<l.bs.length)(n:l.bs.length≤1000)(h:fX (l.bs.getD j default).nm (l.bs.getD i default).nm=false):
  ak zZq G 0 (ah f75 1) (bdS l i j) .normal (bdS l i (j+1)):=by
 have g:=yi (l:=l) (i:=j) (by omega)
 have f:=bH bB (i:=j) (l:=l.bs) (by omega) 0 (by omega)
 have e:=jA bB (i:=j) (l:=l.bs) (by omega) default 0 (by omega)
 have d:=yi a;have c:=bH bB a 0 (by omega)
 have m:=jA bB a default 0 (by omega)
 exact ak.r k [.eb 23 (ay b),.er 28 (nat j),.prop g,.prop f,.eq 31 e,.er 34 (nat i),.prop d,.prop c,.eq 37 m,.eq 38 (m6 h),.eq 25 (bQ (aI b (by omega)))]
theorem ahO(a:aa G):ak zZq G 0 (ah f75 1) (bdS l i i) (.exit 2) (bdS l i i):=
 ak.r a [.eb 23 (aH (alE i))]
theorem ahP(k:aa G)(g:j<i)(a:i<l.bs.length)(h:fX (l.bs.getD j default).nm (l.bs.getD i default).nm=true):
  ak zZq G 0 (ah f75 1) (bdS l i j) .ret (bdR 6):=by
 have f:=yi (l:=l) (i:=j) (by omega)
 have d:=bH bB (i:=j) (l:=l.bs) (by omega) 0 (by omega)
 have e:=jA bB (i:=j) (l:=l.bs) (by omega) default 0 (by omega)
 have c:=yi a;have b:=bH bB a 0 (by omega)
 have m:=jA bB a default 0 (by omega)
 exact ak.r k [.eb 23 (ay g),.er 28 (nat j),.prop f,.prop d,.eq 31 e,.er 34 (nat i),.prop c,.prop b,.eq 37 m,.eq 38 (m6 h)]
theorem ET{a b:Nat}(h:a≠b):(zNq a !=zNq b)=true:=by
 have:=eJ h;unfold bne;rw[this];rfl
theorem RZ(c:aa G)(a:i<l.bs.length)(u:l.bs.length≤1000)(ok:l.Ok):(bdE l.bs i=0→ak zZq G 0 (ah f75 0) (bbS l i) .normal (bbS l (i+1)))∧(bdE l.bs i≠0→ak zZq G 0 (ah f75 0) (bbS l i) .ret (bdR (bdE l.bs i))):=by
 have f:=yi a;have m:=bH bB a 0 (by omega)
 have p:=jA bB a default 0 (by omega)
 have s:=av bB (by omega) a
 have v:=cg bB a default;have t:=ok.bs _ (aN a default);have g:=DB c t.nm;have w:=mw zB.nm default a;have pm:=YJ c t.bC;have bl:∀j,(bdS l i j).tmps.length=48:=fun j=>af ..
 unfold bdE;split
 ·rename_i r
  rw[r]at g;refine⟨fun h=>(by cases h),fun _=>?_⟩
  exact ak.r c [.eb 10 (ay a),.er 15 (nat i),.prop f,.prop m,.eq 18 p,.call g]
 ·rename_i r
  have A:oe (l.bs.getD i default).nm=true:=by simpa using r
  rw[A]at g;split
  ·rename_i q
   obtain⟨j,d1,d2,d3⟩:∃j,j<i∧fX (l.bs.getD j default).nm (l.bs.getD i default).nm=true∧∀k,k<j→fX (l.bs.getD k default).nm (l.bs.getD i default).nm=false:=by
    rcases w with⟨d,-⟩|⟨-,d⟩
    ·rw[q]at d;cases d
    ·exact d
   have n:=bT.count (P:=zZq) (Good:=G) (gb:=0) (body:=ah f75 1) (e:=.ret) (s':=bdR 6) (fun j=>bdS l i j) j bl (by intro h;cases h) (fun k o=>Ps c (by omega) a u (d3 k o)) (ahP c d1 a d2)
   refine⟨fun h=>(by cases h),fun _=>?_⟩
   exact ak.r c [.eb 10 (ay a),.er 15 (nat i),.prop f,.prop m,.eq 18 p,.call g,.code n]
  ·rename_i q
   have y:Dc (l.bs.map zB.nm) i=false:=by simpa using q
   have x:∀j,j<i→fX (l.bs.getD j default).nm (l.bs.getD i default).nm=false:=by
    rcases w with⟨-,d⟩|⟨d,-⟩
    ·exact d
    ·rw[y]at d;cases d
   have n:=bT.count (P:=zZq) (Good:=G) (gb:=0) (body:=ah f75 1) (e:=.exit 2) (s':=bdS l i i) (fun j=>bdS l i j) i bl (by intro h;cases h) (fun k o=>Ps c o a u (x k o)) (ahO c)
   refine⟨fun h=>?_,fun h=>?_⟩
   ·rw[h]at pm
    exact ak.r c [.eb 10 (ay a),.er 15 (nat i),.prop f,.prop m,.eq 18 p,.call g,.code n,.er 41 (nat i),.prop f,.prop s,.eq 43 v,.call pm,.eq 12 (bQ (aI a (by omega)))]
   ·generalize YD (l.bs.getD i default).bC=z at pm h
    exact ak.r c [.eb 10 (ay a),.er 15 (nat i),.prop f,.prop m,.eq 18 p,.call g,.code n,.er 41 (nat i),.prop f,.prop s,.eq 43 v,.call pm,.eb 46 (ET (b:=0) h)]
theorem ahQ(a:aa G):ak zZq G 0 (ah f75 0) (bbS l l.bs.length) (.exit 0) (bbS l l.bs.length):=
 ak.r a [.eb 10 (aH (alE l.bs.length))]
def Pq(bs:List zB):Nat:=kV (bdE bs) bs.length
theorem abz(a:aa G)(d:l.bs.length≤1000)(ok:l.Ok):Spec zZq G 75 [Ci l] (nat (Pq l.bs)):=by
 unfold Pq;rcases dy (bdE l.bs) l.bs.length with⟨f,e⟩|⟨i,f,e,h,g⟩
 ·have c:=bT.z zZq G (ah f75 0) (.exit 0) (bbS l l.bs.length) (fun k=>bbS l k) l.bs.length (fun k b=>(RZ a b d ok).1 (e k b)) (ahQ a)
  rw[f];exact Spec.r a func75 [1] [.code c]
 ·have c:=bT.z zZq G (ah f75 0) .ret (bdR (bdE l.bs i)) (fun k=>bbS l k) i (fun k b=>(RZ a (by omega) d ok).1 (g k b)) ((RZ a f d ok).2 e)
  rw[h];exact Spec.r a func75 [1] [.code c]
end
def uz(i:Int)(n:Nat):Bool:=decide (i≥0)&&decide (i<zNq n)
theorem oN(c:aa G)(i:Int)(n:Nat):Spec zZq G 140 [int i,nat n] (bool (uz i n)):=by
 unfold uz;by_cases a:i≥0
 ·by_cases b:i<zNq n
  ·rw[apD a,apD b]
   exact Spec.r c func140 [] [.eb 6 (apD a),.eb 10 (apD b)]
  ·rw[apD a,apE b]
   exact Spec.r c func140 [] [.eb 6 (apD a),.eb 10 (apE b)]
 ·rw[apE a]
  exact Spec.r c func140 [] [.eb 6 (apE a)]
theorem JU(r:Nat→Bool)(k:Nat):((List.range k).any r=false∧∀j,j<k→r j=false)∨((List.range k).any r=true∧∃j,j<k∧r j=true∧∀i,i<j→r i=false):=by
 rcases dy (fun j=>if r j=true then 1 else 0) k with⟨-,h⟩|⟨i,e,d,-,g⟩
 ·have f:∀j,j<k→r j=false:=fun j a=>by
   have:=h j a;split at this
   ·cases this
   ·rename_i b;simpa using b
  refine .inl ⟨?_,f⟩;rw[aor];intro j a;rw[f j (ann.1 a)];simp
 ·have c:r i=true:=by
   split at d
   ·assumption
   ·exact apC rfl d
  refine .inr ⟨?_,i,e,c,fun j a=>?_⟩
  ·rw[am5];exact⟨i,ann.2 e,c⟩
  ·have:=g j a
   split at this
   ·cases this
   ·rename_i b;simpa using b
def qU(ds:List TV)(i j:Nat):Bool:=(ds.getD j default).body==(ds.getD i default).body
def TA(l:pS)(i:Nat):Nat:=
 if oe (l.ds.getD i default).nm=false then 5
 else if Dc (l.ds.map TV.nm) i=true then 6
 else if uz (l.ds.getD i default).body l.bs.length=false then 9
 else if(l.ds.getD i default).body=0 then 7
 else if(List.range i).any (qU l.ds i)=true then 6 else 0
section
variable {l:pS} {i j:Nat}
def drS(l:pS)(i j:Nat):St:=lay 55 [(1,nat i),(2,.aV (tf l)),(5,.ptr 0 0),(6,nat j)] [(0,zy (l.ds.getD i default))]
def drT(l:pS)(i j:Nat):St:=lay 55 [(1,nat i),(2,.aV (tf l)),(5,.ptr 0 0),(7,nat j)] [(0,zy (l.ds.getD i default))]
def drR(n:Nat):St:=lay 55 [(4,nat n)] []
theorem N_(h:j<l.ds.length):((0:Int)≤zNq j∧zNq j<(l.ds.length:Int))∧(zNq j).toNat*2<(l.ds.flatMap zy).length:=aC fK (by omega) h
theorem Ob(d:aa G)(a:j<i)(f:i<l.ds.length)(g:l.ds.length≤1000)(h:fX (l.ds.getD j default).nm (l.ds.getD i default).nm=false):
  ak zZq G 0 (ah f77 0) (drS l i j) .normal (drS l i (j+1)):=by
 have c:=N_ (l:=l) (j:=j) (by omega)
 have b:=bH fK (i:=j) (l:=l.ds) (by omega) 0 (by omega)
 have e:=jA fK (i:=j) (l:=l.ds) (by omega) default 0 (by omega)
 exact ak.r d [.eb 19 (ay a),.er 24 (nat j),.prop c,.prop b,.eq 27 e,.eq 30 (m6 h),.eq 21 (bQ (aI a (by omega)))]
theorem ahz(a:aa G):ak zZq G 0 (ah f77 0) (drS l i i) (.exit 0) (drS l i i):=
 ak.r a [.eb 19 (aH (alE i))]
theorem ahA(d:aa G)(c:j<i)(f:i<l.ds.length)(h:fX (l.ds.getD j default).nm (l.ds.getD i default).nm=true):
  ak zZq G 0 (ah f77 0) (drS l i j) .ret (drR 6):=by
 have b:=N_ (l:=l) (j:=j) (by omega)
 have a:=bH fK (i:=j) (l:=l.ds) (by omega) 0 (by omega)
 have e:=jA fK (i:=j) (l:=l.ds) (by omega) default 0 (by omega)
 exact ak.r d [.eb 19 (ay c),.er 24 (nat j),.prop b,.prop a,.eq 27 e,.eq 30 (m6 h)]
theorem Of(d:aa G)(a:j<i)(f:i<l.ds.length)(g:l.ds.length≤1000)(h:qU l.ds i j=false):
  ak zZq G 0 (ah f77 1) (drT l i j) .normal (drT l i (j+1)):=by
 have c:=N_ (l:=l) (j:=j) (by omega)
 have b:=bH fK (i:=j) (l:=l.ds) (by omega) 1 (by omega)
 have e:=jA fK (i:=j) (l:=l.ds) (by omega) default 1 (by omega)
 exact ak.r d [.eb 43 (ay a),.er 48 (nat j),.prop c,.prop b,.eq 51 e,.eb 54 h,.eq 45 (bQ (aI a (by omega)))]
theorem ahB(a:aa G):ak zZq G 0 (ah f77 1) (drT l i i) (.exit 2) (drT l i i):=
 ak.r a [.eb 43 (aH (alE i))]
theorem ahC(d:aa G)(c:j<i)(f:i<l.ds.length)(h:qU l.ds i j=true):
  ak zZq G 0 (ah f77 1) (drT l i j) .ret (drR 6):=by
 have b:=N_ (l:=l) (j:=j) (by omega)
 have a:=bH fK (i:=j) (l:=l.ds) (by omega) 1 (by omega)
 have e:=jA fK (i:=j) (l:=l.ds) (by omega) default 1 (by omega)
 exact ak.r d [.eb 43 (ay c),.er 48 (nat j),.prop b,.prop a,.eq 51 e,.eb 54 h]
theorem aa1(b:aa G)(c:i<l.ds.length)(q:l.ds.length≤1000)(ok:l.Ok):Spec zZq G 77 [Ci l,nat i] (nat (TA l i)):=by
 have m:=N_ c;have g:=av fK (by omega) c
 have p:=cg fK c default;have f:=DB b (ok.ds _ (aN c default));have z:=mw TV.nm default c;have A:=JU (qU l.ds i) i;have o:=oN b (l.ds.getD i default).body l.bs.length;have C:∀j,(drS l i j).tmps.length=55:=fun j=>af ..
 have B:∀j,(drT l i j).tmps.length=55:=fun j=>af ..
 unfold TA;split
 ·rename_i y
  rw[y]at f;exact Spec.r b func77 [2] [.er 10 (nat i),.prop m,.prop g,.eq 12 p,.call f]
 ·rename_i y
  have F:oe (l.ds.getD i default).nm=true:=by simpa using y
  rw[F]at f;split
  ·rename_i x
   obtain⟨j,d1,d2,d3⟩:∃j,j<i∧fX (l.ds.getD j default).nm (l.ds.getD i default).nm=true∧∀k,k<j→fX (l.ds.getD k default).nm (l.ds.getD i default).nm=false:=by
    rcases z with⟨a,-⟩|⟨-,a⟩
    ·rw[x]at a;cases a
    ·exact a
   have n:=bT.count (P:=zZq) (Good:=G) (gb:=0) (body:=ah f77 0) (e:=.ret) (s':=drR 6) (fun j=>drS l i j) j C (by intro h;cases h) (fun k d=>Ob b (by omega) c q (d3 k d)) (ahA b d1 c d2)
   exact Spec.r b func77 [2] [.er 10 (nat i),.prop m,.prop g,.eq 12 p,.call f,.code n]
  ·rename_i x
   have E:Dc (l.ds.map TV.nm) i=false:=by simpa using x
   have D:∀j,j<i→fX (l.ds.getD j default).nm (l.ds.getD i default).nm=false:=by
    rcases z with⟨-,a⟩|⟨a,-⟩
    ·exact a
    ·rw[E]at a;cases a
   have n:=bT.count (P:=zZq) (Good:=G) (gb:=0) (body:=ah f77 0) (e:=.exit 0) (s':=drS l i i) (fun j=>drS l i j) i C (by intro h;cases h) (fun k d=>Ob b d c q (D k d)) (ahz b)
   split
   ·rename_i w
    rw[w]at o;exact Spec.r b func77 [2] [.er 10 (nat i),.prop m,.prop g,.eq 12 p,.call f,.code n,.call o]
   ·rename_i w
    have v:uz (l.ds.getD i default).body l.bs.length=true:=by simpa using w
    rw[v]at o;split
    ·rename_i u
     have r:((l.ds.getD i default).body==0)=true:=by rw[u];rfl
     exact Spec.r b func77 [2] [.er 10 (nat i),.prop m,.prop g,.eq 12 p,.call f,.code n,.call o,.eb 40 r]
    ·rename_i u
     have r:((l.ds.getD i default).body==0)=false:=by rw[beq_eq_false_iff_ne];exact u
     split
     ·rename_i t
      obtain⟨j,d1,d2,d3⟩:∃j,j<i∧qU l.ds i j=true∧∀k,k<j→qU l.ds i k=false:=by
       rcases A with⟨a,-⟩|⟨-,a⟩
       ·rw[t]at a;cases a
       ·exact a
      have lq:=bT.count (P:=zZq) (Good:=G) (gb:=0) (body:=ah f77 1) (e:=.ret) (s':=drR 6) (fun j=>drT l i j) j B (by intro h;cases h) (fun k d=>Of b (by omega) c q (d3 k d)) (ahC b d1 c d2)
      exact Spec.r b func77 [2] [.er 10 (nat i),.prop m,.prop g,.eq 12 p,.call f,.code n,.call o,.eb 40 r,.code lq]
     ·rename_i t
      have s:∀j,j<i→qU l.ds i j=false:=by
       rcases A with⟨-,a⟩|⟨a,-⟩
       ·exact a
       ·exact apC a t
      have lq:=bT.count (P:=zZq) (Good:=G) (gb:=0) (body:=ah f77 1) (e:=.exit 2) (s':=drT l i i) (fun j=>drT l i j) i B (by intro h;cases h) (fun k d=>Of b d c q (s k d)) (ahB b)
      exact Spec.r b func77 [2] [.er 10 (nat i),.prop m,.prop g,.eq 12 p,.call f,.code n,.call o,.eb 40 r,.code lq]
end
end Tw
end Lw
