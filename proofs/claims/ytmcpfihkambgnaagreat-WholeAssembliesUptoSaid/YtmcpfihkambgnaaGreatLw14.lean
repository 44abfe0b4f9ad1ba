/- Part 14. -/
import Derived.Test.YtmcpfihkambgnaaGreatLw13
open Int renaming ofNat→zNq
open Go.Proofs.Tryz renaming prog→zZq
open Go.Proofs.Tryz
open Bool renaming and_eq_true→zLq
namespace Lw
open Go Go.RowKit Go.Proofs
variable {P:Program} {Good:World→Prop}
def D.jJ(ρ:Nat→Nat):D→D
 |.ptr b off=>.ptr (ρ b) off
 |.bz b off len cap=>.bz (ρ b) off len cap
 |.cR b n size=>.cR (ρ b) n size
 |d=>d
def D.HW(ρ:Nat→Nat):D→D
 |.agg xs=>.agg (xs.map (D.jJ ρ))
 |.aY xs=>.aY (xs.map (D.jJ ρ))
 |d=>d.jJ ρ
theorem xy(ρ:Nat→Nat)(d:D):(d.jJ ρ).ref=d.ref.map ρ:=by cases d<;>rfl
theorem CE(ρ:Nat→Nat){d:D}(h:d.ref=none):d.jJ ρ=d:=by cases d<;>first|rfl|simp[D.ref]at h
theorem UF(ρ:Nat→Nat)(d:D):(d.HW ρ).refs=d.refs.map ρ:=by
 have key:∀a:List D,(a.map (D.jJ ρ)).filterMap D.ref=(a.filterMap D.ref).map ρ:=fun a=>by
  induction a with
  |nil=>rfl
  |cons x a b=>
   rw[amt,apd,apd,xy,b];cases x.ref<;>rfl
 cases d<;>first|rfl|exact key _
theorem cu.Eo{β ρ:Nat→Nat}{w:World}{X:Nat→Prop}{v:Value}{d:D}(h:cu β w X v (d.jJ ρ)):cu (fun b=>β (ρ b)) w X v d:=by
 cases c:d.ref with
 |none=>
  rw[CE ρ c]at h;exact .p (h.pure c)
 |some b=>
  have no:∀{e:D},e.ref=some (ρ b)→¬cU w X v e:=fun i a=>by rw[jk a]at i;cases i
  cases d with
  |ptr b off=>
   change cu β w X v (.ptr (ρ b) off)at h
   cases h with
   |p a=>exact apC (jk a) (by simp[D.ref])
   |ptr=>exact .ptr (β:=fun b=>β (ρ b)) b off
  |bz b off len cap=>
   change cu β w X v (.bz (ρ b) off len cap)at h
   cases h with
   |p a=>exact apC (jk a) (by simp[D.ref])
   |bz _ _ _ _ g f=>exact .bz (β:=fun b=>β (ρ b)) b off len cap g f
  |cR b n size=>
   change cu β w X v (.cR (ρ b) n size)at h
   cases h with
   |p a=>exact apC (jk a) (by simp[D.ref])
   |cR _ _ _ cap e g f j=>exact .cR (β:=fun b=>β (ρ b)) b n size cap e g f j
  |_=>simp[D.ref]at c
theorem LQ.Eo{β ρ:Nat→Nat}{w:World}{X:Nat→Prop}{us:List Value}{xs:List D}(h:LQ (cu β w X) us (xs.map (D.jJ ρ))):LQ (cu (fun b=>β (ρ b)) w X) us xs:=by
 refine⟨by simpa using h.1,fun i c a=>cu.Eo (ρ:=ρ) ?_⟩
 have:=h.2 i c (by simpa using a)
 rwa [amg]at this
theorem cW.Eo{β ρ:Nat→Nat}{w:World}{X:Nat→Prop}{v:Value}{d:D}(h:cW β w X v (d.HW ρ)):cW (fun b=>β (ρ b)) w X v d:=by
 by_cases l:∃a,d=.agg a
 ·obtain⟨a,rfl⟩:=l
  change cW β w X v (.agg (a.map (D.jJ ρ)))at h
  cases h with
  |c j=>
   have i:=j.pure rfl;cases i with
   |agg us _ f g=>exact .agg us a (LQ.Eo (ρ:=ρ) (a9.lq ⟨f,g⟩))
  |agg us _ f=>exact .agg us a f.Eo
 by_cases k:∃a,d=.aY a
 ·obtain⟨a,rfl⟩:=k
  change cW β w X v (.aY (a.map (D.jJ ρ)))at h
  cases h with
  |c j=>
   have i:=j.pure rfl;cases i with
   |aY us _ f g=>exact .aY us a (LQ.Eo (ρ:=ρ) (a9.lq ⟨f,g⟩))
  |aY us _ f=>exact .aY us a f.Eo
 have e:d.HW ρ=d.jJ ρ:=by cases d<;>first|rfl|exact apC ⟨_,rfl⟩ l|exact apC ⟨_,rfl⟩ k
 rw[e]at h;refine .c (cu.Eo (ρ:=ρ) (h.cell (fun a=>?_) (fun a=>?_)))
 ·cases d<;>first|(intro h;cases h;done)|exact apC ⟨_,rfl⟩ l
 ·cases d<;>first|(intro h;cases h;done)|exact apC ⟨_,rfl⟩ k
theorem dk.uG{c:Ctx}{n:Nat}{s s':FSt}{a:Act}{w:World}{β ρ:Nat→Nat}{X:Nat→Prop}(h:dk c n s a w β X)(r:∀b g,ρ b=ρ g→b=g)(u:∀b,b<c.gb→ρ b=b)
  (v:∀t,s.tmp t=(s'.tmp t).HW ρ) (B:∀b,s.blk (ρ b)=(s'.blk b).map fun cs=>if s'.b_ b=true then cs.map (D.jJ ρ)else cs) (z:∀b,s.b_ (ρ b)=s'.b_ b):dk c n s' a w (fun b=>β (ρ b)) X:=by
 have q:∀b,s.blk (ρ b)=(s'.blk b).map (List.map (D.jJ ρ)):=fun b=>by
  have e:=B b;cases y:s'.blk b with
  |none=>rw[e,y];rfl
  |some cs=>
   rw[y]at e;rw[e];show some (if s'.b_ b=true then cs.map (D.jJ ρ)else cs)=some (cs.map (D.jJ ρ))
   split
   ·rfl
   ·rename_i x
    have J:s.blk (ρ b)=some cs:=by rw[e];show some (if s'.b_ b=true then cs.map (D.jJ ρ)else cs)=some cs;rw[apA x]
    have I:cs.map (D.jJ ρ)=cs.map id:=amQ fun d l=>CE ρ (by
     cases C:d.ref with
     |none=>rfl
     |some g=>exact apC (by rw[←z];exact(h.tB _ _ J d l g C).1) x)
    rw[I,List.map_id]
 have live:∀b,(s.blk (ρ b)).isSome=(s'.blk b).isSome:=fun b=>by rw[q];cases s'.blk b<;>rfl
 refine⟨h.defers,h.size,fun t=>?_,fun t b m=>?_,fun b cs j=>?_,fun b cs j d l g K=>?_,fun b g H G F=>?_,h.F,h.vt,h.oE,h.below,fun p i=>?_,fun p i b f=>?_,⟨h.kp.obj,h.kp.x,h.kp.lt,fun k E b o=>?_⟩⟩
 ·have:=h.tmp t
  rw[v]at this;exact this.Eo
 ·rw[←live]
  refine h.nd t _ ?_;rw[v,UF];exact anB m
 ·have e:s.blk (ρ b)=some (cs.map (D.jJ ρ)):=by rw[q,j];rfl
  obtain⟨k1,k2,A,ty,k3,k4,k5⟩:=h.blk _ _ e;rw[alR]at k4 k5;exact⟨k1,k2,A,ty,k3,k4,k5.Eo⟩
 ·have e:s.blk (ρ b)=some (cs.map (D.jJ ρ)):=by rw[q,j];rfl
  obtain⟨k1,k2⟩:=h.tB _ _ e _ (anB l) (ρ g) (by rw[xy,K];rfl)
  exact⟨by rw[←z];exact k1,by rw[←live];exact k2⟩
 ·exact r _ _ (h.inj _ _ (by rw[live];exact H) (by rw[live];exact G) F)
 ·exact(h.gh p i).congr fun b f=>by rw[u b (h.iY p i b f).1]
 ·obtain⟨k1,k2⟩:=h.iY p i b f
  exact⟨k1,by rw[←live,u b k1];exact k2⟩
 ·exact h.kp.off k E _ (by rw[live];exact o)
def swp(x y b:Nat):Nat:=if b=x then y else if b=y then x else b
def mI:List (Nat×Nat)→Nat→Nat
 |[],b=>b
 |(x,y)::l,b=>swp x y (mI l b)
theorem acx(x y:Nat){b a:Nat}(h:swp x y b=swp x y a):b=a:=by
 unfold swp at h;split at h<;>split at h<;>(try split at h)<;>(try split at h)<;>omega
theorem A4:∀(l:List (Nat×Nat))(b a:Nat),mI l b=mI l a→b=a
 |[],_,_,h=>h
 |(_,_)::l,b,a,h=>A4 l b a (acx _ _ h)
theorem Mm{gb:Nat}:∀(l:List (Nat×Nat)),(∀p∈l,gb≤p.1∧gb≤p.2)→∀b,b<gb→mI l b=b
 |[],_,b,_=>rfl
 |(x,y)::l,h,b,d=>by
  have a:=h (x,y) (alW ..);rw[mI,Mm l (fun p c=>h p (al_ _ c)) b d,swp,apA (by have:=a.1;omega),apA (by have:=a.2;omega)]
theorem NA(n:Nat)(l:List (Nat×D))(bl:List (Nat×List D))(ns:List Nat)(b:Nat):(lay n l bl ns).fs.blk b=(bl.find? fun p=>p.1==b).map (·.2):=by
 rw[vX];split
 ·rfl
 ·rename_i h
  rw[aom.2 fun p a e=>h (Fp (an'.2 (ama.2 ⟨p,a,by simpa using e⟩)))];rfl
def UG(ρ:Nat→Nat)(ns:List Nat)(bl:List (Nat×List D)):List (Nat×List D):=bl.map fun p=>(ρ p.1,bif ns.contains p.1 then p.2.map (D.jJ ρ)else p.2)
theorem Rel.uG{c:Ctx}{n m gb:Nat}{l:List (Nat×D)}{bl:List (Nat×List D)}{ns:List Nat}{a:Act}{w:World}(r:List (Nat×Nat))(f:∀p∈r,gb≤p.1∧gb≤p.2)(i:c.gb≤gb)
  (h:Rel c n (lay m (l.map fun p=>(p.1,p.2.HW (mI r))) (UG (mI r) ns bl) (ns.map (mI r))).fs a w):Rel c n (lay m l bl ns).fs a w:=by
 obtain⟨β,X,h⟩:=h;refine⟨_,X,h.uG (ρ:=mI r) (A4 r) (fun b k=>Mm r f b (ami k i)) (fun t=>?_) (fun b=>?_) (fun b=>?_)⟩
 ·rw[dN,dN]
  split
  ·rw[List.find?_map]
   show(((l.find? fun p=>p.1==t).map fun p=>(p.1,p.2.HW (mI r))).map (·.2)).getD .any=_
   cases l.find? fun p=>p.1==t<;>rfl
  ·rfl
 ·rw[NA,NA,UG,List.find?_map]
  have e:((fun p:Nat×List D=>p.1==mI r b)∘fun p:Nat×List D=>(mI r p.1,bif ns.contains p.1 then p.2.map (D.jJ (mI r))else p.2))=fun p:Nat×List D=>p.1==b:=by
   funext p
   show(mI r p.1==mI r b)=(p.1==b);by_cases h:p.1=b
   ·rw[h,beq_self_eq_true,beq_self_eq_true]
   ·have:mI r p.1≠mI r b:=fun e=>h (A4 r _ _ e)
    rw[beq_eq_false_iff_ne.2 this,beq_eq_false_iff_ne.2 h]
  rw[e];cases j:bl.find? fun p=>p.1==b with
  |none=>rfl
  |some p=>
   have g:p.1=b:=by simpa using aon j
   show some (bif ns.contains p.1 then p.2.map (D.jJ (mI r))else p.2)=some (if ns.contains b=true then p.2.map (D.jJ (mI r))else p.2)
   rw[g];cases ns.contains b<;>rfl
 ·show(ns.map (mI r)).contains (mI r b)=ns.contains b
  rw[am3,an',an',ama];exact⟨fun⟨x,d,e⟩=>by rw[←A4 r _ _ e];exact d,fun d=>⟨b,d,rfl⟩⟩
def iC(P:Program)(Good:World→Prop)(gb:Nat)(k:Code)(s:St)(e:o_)(s':St):Prop:=
 ∃s1,apL P Good gb k s e s1∧∀(c:Ctx)(a:Act)(w:World),c.gb≤gb→Rel c s.tmps.length s1.fs a w→Rel c s.tmps.length s'.fs a w
theorem ak.XH{gb:Nat}{k:Code}{s s':St}{e:o_}(h:ak P Good gb k s e s'):iC P Good gb k s e s':=by
 obtain⟨s1,j,m,l,i,g,f⟩:=h;exact⟨s1,i,fun c a w d b=>by rw[←f];exact b.mask d g⟩
theorem iC.ae(j:aa Good){ro:List Nat}{gb m n:Nat}{k:Code}{s:St}{l:List (Nat×D)}{bl:List (Nat×List D)}{ns:List Nat}{e:o_}(r:List (Nat×Nat))(i:s.tmps.length=n)(b:List (Item P Good))
  (d:r.all (fun p=>Nat.ble gb p.1&&Nat.ble gb p.2)=true)
  (h:rz P m ro gb k s b (l.map (·.1)) (bl.map fun p=>mI r p.1) (ns.map (mI r))=some (e,l.map (fun p=>p.2.HW (mI r)),bl.map (fun p=>some (bif ns.contains p.1 then p.2.map (D.jJ (mI r))else p.2)),[],said b):=by kernel_rfl):iC P Good gb k s e (lay n l bl ns):=by
 have t:rz P m ro gb k s b ((l.map fun p=>(p.1,p.2.HW (mI r))).map (·.1)) ((UG (mI r) ns bl).map (·.1)) (ns.map (mI r))=some (e,(l.map fun p=>(p.1,p.2.HW (mI r))).map (·.2),(UG (mI r) ns bl).map (fun p=>some p.2),[],said b):=by
  rw[UG,anD,anD,anD,anD];exact h
 obtain⟨s1,q,o⟩:=(ak.ae j i b t).XH;rw[al9]at d;exact⟨s1,q,fun c a w f u=>Rel.uG r (fun p g=>by have:=d p g;rw[Bool.and_eq_true,anb,anb]at this;exact this) f (o c a w f u)⟩
theorem iC.seq{gb:Nat}{x y:Code}{s s1 s2:St}{e:o_}(u:iC P Good gb x s .normal s1)(i:s1.tmps.length=s.tmps.length)(t:iC P Good gb y s1 e s2):iC P Good gb (.seq x y) s e s2:=by
 obtain⟨t1,h,q⟩:=u;obtain⟨t2,b,p⟩:=t;refine⟨t2,⟨b.1.trans i,fun c Q a w n m l d f o=>?_⟩,fun c a w d f=>?_⟩
 ·refine oJ rfl ?_
  refine h.2 c _ a w n m l d f fun j g r=>?_
  show y.wpIn (Fw c.rd) 0 P Q j g;have k:=q c j g d r;rw[←i]at k o;exact b.2 c Q j g n m l d k o
 ·rw[←i]at f⊢
  exact p c a w d f
theorem bT.uG{n m gb:Nat}{k:Code}{l:List (Nat×D)}{bl:List (Nat×List D)}{ns:List Nat}{e:o_}{s':St}(r:List (Nat×Nat))(b:r.all (fun p=>Nat.ble gb p.1&&Nat.ble gb p.2)=true)
  (h:bT P Good n gb k (lay m l bl ns) e s'):bT P Good n gb k (lay m (l.map fun p=>(p.1,p.2.HW (mI r))) (UG (mI r) ns bl) (ns.map (mI r))) e s':=by
 intro c Q a w i g f d q o;rw[al9]at b;exact h c Q a w i g f d (Rel.uG r (fun p j=>by have:=b p j;rw[Bool.and_eq_true,anb,anb]at this;exact this) d q) o
theorem bT.Km{ι:Type}{gb:Nat}{body:Code}(R:ι→Prop)(inv:ι→St)(μ:ι→Nat){n:Nat}{e:o_}{s':St}(b:∀i,(inv i).tmps.length=n)(v:e≠.normal)
  (round:∀i,R i→(∃j,R j∧μ j<μ i∧iC P Good gb body (inv i) .normal (inv j))∨iC P Good gb body (inv i) e s') (i:ι) (p:R i):bT P Good n gb (.loop body) (inv i) e s':=by
 intro c Q a w s r q h l x;have y:∀f d,Rel c n s'.fs f d→Q e.Cw f d:=fun f d g=>by have:=x f d g;cases e<;>exact this
 refine wpIn_loop_ghost (fun k a w=>∃i,μ i=k∧R i∧Rel c n (inv i).fs a w) (μ i) ⟨i,rfl,p,l⟩ fun k a w t=>?_
 obtain⟨i,rfl,p,l⟩:=t;rcases round i p with⟨j,u,z,s1,m,o⟩|⟨s1,m,o⟩
 ·refine m.2 c _ a w s r q h (by rw[b];exact l) fun f d g=>?_
  have:=o c f d h g;rw[b]at this;exact⟨μ j,z,j,rfl,u,this⟩
 ·refine m.2 c _ a w s r q h (by rw[b];exact l) fun f d g=>?_
  have:=o c f d h g;rw[b]at this;have:=y f d this;cases e with
  |normal=>exact apC rfl v
  |exit id=>exact this
  |ret=>exact this
end Lw
namespace Lw
open Go Go.RowKit Go.Proofs
namespace Tw
open fL
variable {G:World→Prop}
theorem pK{n:Nat}(h:n≤1000000):zNq n=zNq n∧(0:Int)≤zNq n∧zNq n*((1:Nat):Int)≤2^47∧zNq n≤2^62:=by
 have a:zNq n=(n:Int):=rfl;rw[a];refine⟨rfl,by omega,by omega,by omega⟩
theorem Pv{n:Nat}(h:0<n):(0:Int)≤0∧(0:Int)<(((zNq n).toNat:Nat):Int):=by
 have:(zNq n).toNat=n:=rfl;rw[this];omega
theorem Mp{n:Nat}{d:D}(h:0<n):0+(0:Int).toNat*1+1≤(List.replicate (zNq n).toNat d).length:=by
 have:(zNq n).toNat=n:=rfl;rw[amz,this];exact h
theorem aD{i n:Nat}(h:i<n):(0:Int)≤zNq i∧zNq i<(n:Int):=⟨by simp,by simpa using h⟩
theorem gM{i:Nat}{m:List Bool}(h:i<m.length):0+(zNq i).toNat*1+1≤(m.map bool).length:=by
 have:(zNq i).toNat=i:=rfl;rw[alR,this];omega
theorem bG{m:List Bool}{i:Nat}(h:i<m.length):aF (m.map bool) (0+(zNq i).toNat*1) [bool true]=(m.set i true).map bool:=by
 have e:0+(zNq i).toNat*1=i:=by show 0+i*1=i;omega
 rw[e,List.map_set,List.set_eq_take_append_cons_drop,apB (by rwa [alR])]
 rfl
def Tq(l:Lk)(g:D):List D:=EB l++[.bz 1 0 l.bs.length l.bs.length,.bz 2 0 l.bs.length l.bs.length,.bz 3 0 l.js.length l.js.length,g]
def AF(l:Lk)(i:Nat):List Bool:=(l.ds.take i).foldl (fun m d=>m.set d.body true) (List.replicate l.bs.length false)
theorem G0(l:Lk)(i:Nat):(AF l i).length=l.bs.length:=by
 unfold AF;have:∀(a:List Dr)(m:List Bool),(a.foldl (fun m d=>m.set d.body true) m).length=m.length:=fun a=>by
  induction a with
  |nil=>intro m;rfl
  |cons d a b=>intro m;rw[List.foldl_cons,b,amf]
 rw[this,amz]
theorem JG(l:Lk){i:Nat}(h:i<l.ds.length):AF l (i+1)=(AF l i).set (l.ds.getD i default).body true:=by
 unfold AF;rw[aob,alK h,am9,alD,alK h];rfl
def fdL(l:Lk)(b a:List D)(i:Nat):St:=lay 105 [(5,.ptr 4 0),(40,aU PJ l.ds),(41,nat l.ds.length),(42,nat i)] [(1,b),(2,(AF l i).map bool),(3,a),(4,Tq l (.row 0 true []))] [4]
theorem ad4(h:aa G){l:Lk}(d:gO l)(c b:List D):bT zZq G 105 0 (.loop (ah f113 0)) (fdL l c b 0) (.exit 0) (lay 105 [(5,.ptr 4 0)] [(1,c),(2,(AF l l.ds.length).map bool),(3,b),(4,Tq l (.row 0 true []))] [4]):=by
 have k:=d.nd;refine bT.c (fun i=>fdL l c b i) l.ds.length (fun i a=>?_) (ak.r h [.eb 43 (aH (alE l.ds.length))])
 have e:=cg fC a default;have f:(l.ds.getD i default).body<l.bs.length:=d.body _ (aN a _);have j:(l.ds.getD i default).body<(AF l i).length:=by rw[G0];exact f
 have g:ak zZq G 0 (ah f113 0) (fdL l c b i) .normal (lay 105 [(5,.ptr 4 0),(40,aU PJ l.ds),(41,nat l.ds.length),(42,nat (i+1))] [(1,c),(2,aF ((AF l i).map bool) (0+(zNq (l.ds.getD i default).body).toNat*1) [bool true]),(3,b),(4,Tq l (.row 0 true []))] [4]):=
  ak.r h [.eb 43 (ay a),.prop (aC fC (by omega) a),.prop (av fC (by omega) a),.eq 45 e,.er 51 (nat (l.ds.getD i default).body),.prop (aD f),.prop (gM j),.eq 53 (bQ (aI a (by omega)))]
 rw[bG j,←JG l a]at g;exact g
def fmB(l:Lk)(s:Fn)(a:List D):List (Nat×List D):=
 match s.gs with
 |[]=>[(1,s.known.map bool),(2,s.mM.map bool),(3,s.used.map bool),(4,Tq l (.row 0 true [])),(5,a)]
 |_::_=>[(1,s.known.map bool),(2,s.mM.map bool),(3,s.used.map bool),(4,Tq l (.cR 6 s.gs.length 4)),(5,a),(6,s.gs.flatMap iV)]
def gpC:Option Gp→List D
 |some g=>iV g
 |none=>Br
def fmL(l:Lk)(s:Fn)(a:Option Gp):St:=lay 105 [(5,.ptr 4 0),(8,.ptr 5 0),(9,bool a.isSome)] (fmB l s (gpC a)) [4]
def L5(l:Lk)(s:Fn)(g:Gp):St:=lay 105 [(5,.ptr 4 0),(8,.ptr 5 0)] (fmB l s (iV g)) [4]
noncomputable def ou:Code:=ah f113 1
theorem aaW:ou=.seq (kL ou) (.seq (kL (kR ou)) (kR (kR ou))):=by kernel_rfl
theorem ajL(a:aa G)(l:Lk)(s:Fn)(g:Gp):iC zZq G 0 (kL ou) (fmL l s (some g)) .normal (L5 l s g):=by
 unfold fmL L5 fmB;cases s.gs<;>exact(ak.r a []).XH
def fmE(l:Lk)(s:Fn):St:=lay 105 [(5,.ptr 4 0)] (fmB l s Br) [4]
theorem ahv(a:aa G)(l:Lk)(s:Fn):iC zZq G 0 ou (fmL l s none) (.exit 2) (fmE l s):=by
 unfold fmL fmE fmB;cases s.gs<;>exact(ak.r a []).XH
def ei(m:List Bool)(a:List Nat):List Bool:=a.foldl (fun m i=>m.set i true) m
def Fn.add(s:Fn)(g:Gp):Fn:=⟨ei s.known g.bs,s.mM,ei s.used g.js,s.gs++[g]⟩
theorem mu{gs:List Gp}{g:Gp}(h:gs.length≤1000)(a:(iV g).all D.iq=true):(iV g).all D.iq=true∧0<1∧(gs.flatMap iV).length=gs.length*4∧(iV g).length=1*4∧gs.length+1≤2^62∧(gs.length+1)*64≤2^47:=by
 refine⟨a,by omega,?_,rfl,by omega,by omega⟩
 clear h a;induction gs with
 |nil=>rfl
 |cons x xs b=>rw[amx,amj,b,amm];simp[iV];omega
theorem rT{m:List Bool}{i k:Nat}(a:i<m.length)(b:k<m.length):0+(zNq k).toNat*1+1≤(aF (m.map bool) (0+(zNq i).toNat*1) [bool true]).length:=by
 rw[bG a];exact gM (by rwa [amf])
theorem FE{m:List Bool}{i j k:Nat}(a:i<m.length)(c:j<m.length)(b:k<m.length):0+(zNq k).toNat*1+1≤(aF (aF (m.map bool) (0+(zNq i).toNat*1) [bool true]) (0+(zNq j).toNat*1) [bool true]).length:=by
 rw[bG a,bG (by rwa [amf])]
 exact gM (by rwa [amf,amf])
theorem E5(gs:List Gp)(g:Gp):(gs++[g]).flatMap iV=gs.flatMap iV++iV g:=by
 rw[anC,amx,aoU,amX]
section
variable {l:Lk} {s:Fn} (hs:pT l s) (hn:s.gs.length≤1000)
include hs hn
theorem ak6(n:aa G){k i a d:Nat}(j:i<l.bs.length)(m:a<l.js.length):iC zZq G 0 (kL (kR ou)) (L5 l s ⟨k,[i],[a],d⟩) .normal (L5 l (s.add ⟨k,[i],[a],d⟩) ⟨k,[i],[a],d⟩):=by
 have e:i<s.known.length:=by rw[hs.k];exact j
 have b:a<s.used.length:=by rw[hs.u];exact m
 refine ak.XH ?_;obtain⟨f,h,c,gs⟩:=s;cases gs with
 |nil=>
  have g:ak zZq G 0 (kL (kR ou)) (L5 l ⟨f,h,c,[]⟩ ⟨k,[i],[a],d⟩) .normal (lay 105 [(5,.ptr 4 0),(8,.ptr 5 0)] [(1,aF (f.map bool) (0+(zNq i).toNat*1) [bool true]),(2,h.map bool),(3,aF (c.map bool) (0+(zNq a).toNat*1) [bool true]),(4,Tq l (.cR 6 1 4)),(5,iV ⟨k,[i],[a],d⟩),(6,iV ⟨k,[i],[a],d⟩)] [4]):=
   ak.r n [.er 76 (nat i),.prop (aD j),.prop (gM e),.er 90 (nat a),.prop (aD m),.prop (gM b)]
  rw[bG e,bG b]at g;exact g
 |cons x xs=>
  have g:ak zZq G 0 (kL (kR ou)) (L5 l ⟨f,h,c,x::xs⟩ ⟨k,[i],[a],d⟩) .normal (lay 105 [(5,.ptr 4 0),(8,.ptr 5 0)] [(1,aF (f.map bool) (0+(zNq i).toNat*1) [bool true]),(2,h.map bool),(3,aF (c.map bool) (0+(zNq a).toNat*1) [bool true]),(4,Tq l (.cR 6 ((x::xs).length+1) 4)),(5,iV ⟨k,[i],[a],d⟩),(6,(x::xs).flatMap iV++iV ⟨k,[i],[a],d⟩)] [4]):=
   ak.r n [.er 76 (nat i),.prop (aD j),.prop (gM e),.er 90 (nat a),.prop (aD m),.prop (gM b),.er 99 (.row 1 true (iV ⟨k,[i],[a],d⟩)),.prop (mu (gs:=x::xs) (g:=⟨k,[i],[a],d⟩) hn rfl)]
  rw[bG e,bG b,←E5]at g;rw[show(x::xs).length+1=((x::xs)++[(⟨k,[i],[a],d⟩:Gp)]).length from by simp]at g
  exact g
theorem ak5(q:aa G){k i a b d:Nat}(n:i<l.bs.length)(p:a<l.js.length)(o:b<l.js.length):iC zZq G 0 (kL (kR ou)) (L5 l s ⟨k,[i],[a,b],d⟩) .normal (L5 l (s.add ⟨k,[i],[a,b],d⟩) ⟨k,[i],[a,b],d⟩):=by
 have f:i<s.known.length:=by rw[hs.k];exact n
 have c:a<s.used.length:=by rw[hs.u];exact p
 have m:b<s.used.length:=by rw[hs.u];exact o
 refine ak.XH ?_;obtain⟨h,j,e,gs⟩:=s;cases gs with
 |nil=>
  have g:ak zZq G 0 (kL (kR ou)) (L5 l ⟨h,j,e,[]⟩ ⟨k,[i],[a,b],d⟩) .normal (lay 105 [(5,.ptr 4 0),(8,.ptr 5 0)] [(1,aF (h.map bool) (0+(zNq i).toNat*1) [bool true]),(2,j.map bool),(3,aF (aF (e.map bool) (0+(zNq a).toNat*1) [bool true]) (0+(zNq b).toNat*1) [bool true]),(4,Tq l (.cR 6 1 4)),(5,iV ⟨k,[i],[a,b],d⟩),(6,iV ⟨k,[i],[a,b],d⟩)] [4]):=
   ak.r q [.er 76 (nat i),.prop (aD n),.prop (gM f),.er 90 (nat a),.prop (aD p),.prop (gM c),.er 90 (nat b),.prop (aD o),.prop (rT c m)]
  rw[bG f,bG c,bG (by rw[amf];exact m)]at g
  exact g
 |cons x xs=>
  have g:ak zZq G 0 (kL (kR ou)) (L5 l ⟨h,j,e,x::xs⟩ ⟨k,[i],[a,b],d⟩) .normal (lay 105 [(5,.ptr 4 0),(8,.ptr 5 0)] [(1,aF (h.map bool) (0+(zNq i).toNat*1) [bool true]),(2,j.map bool),(3,aF (aF (e.map bool) (0+(zNq a).toNat*1) [bool true]) (0+(zNq b).toNat*1) [bool true]),(4,Tq l (.cR 6 ((x::xs).length+1) 4)),(5,iV ⟨k,[i],[a,b],d⟩),(6,(x::xs).flatMap iV++iV ⟨k,[i],[a,b],d⟩)] [4]):=
   ak.r q [.er 76 (nat i),.prop (aD n),.prop (gM f),.er 90 (nat a),.prop (aD p),.prop (gM c),.er 90 (nat b),.prop (aD o),.prop (rT c m),.er 99 (.row 1 true (iV ⟨k,[i],[a,b],d⟩)),.prop (mu (gs:=x::xs) (g:=⟨k,[i],[a,b],d⟩) hn rfl)]
  rw[bG f,bG c,bG (by rw[amf];exact m),←E5]at g
  rw[show(x::xs).length+1=((x::xs)++[(⟨k,[i],[a,b],d⟩:Gp)]).length from by simp]at g
  exact g
theorem ak4(y:aa G){k i j a b c d:Nat}(t:i<l.bs.length)(r:j<l.bs.length)(w:a<l.js.length)(v:b<l.js.length)(u:c<l.js.length):iC zZq G 0 (kL (kR ou)) (L5 l s ⟨k,[i,j],[a,b,c],d⟩) .normal (L5 l (s.add ⟨k,[i,j],[a,b,c],d⟩) ⟨k,[i,j],[a,b,c],d⟩):=by
 have f:i<s.known.length:=by rw[hs.k];exact t
 have q:j<s.known.length:=by rw[hs.k];exact r
 have e:a<s.used.length:=by rw[hs.u];exact w
 have h:b<s.used.length:=by rw[hs.u];exact v
 have n:c<s.used.length:=by rw[hs.u];exact u
 refine ak.XH ?_;obtain⟨o,p,m,gs⟩:=s;cases gs with
 |nil=>
  have g:ak zZq G 0 (kL (kR ou)) (L5 l ⟨o,p,m,[]⟩ ⟨k,[i,j],[a,b,c],d⟩) .normal (lay 105 [(5,.ptr 4 0),(8,.ptr 5 0)] [(1,aF (aF (o.map bool) (0+(zNq i).toNat*1) [bool true]) (0+(zNq j).toNat*1) [bool true]),(2,p.map bool),(3,aF (aF (aF (m.map bool) (0+(zNq a).toNat*1) [bool true]) (0+(zNq b).toNat*1) [bool true]) (0+(zNq c).toNat*1) [bool true]),(4,Tq l (.cR 6 1 4)),(5,iV ⟨k,[i,j],[a,b,c],d⟩),(6,iV ⟨k,[i,j],[a,b,c],d⟩)] [4]):=
   ak.r y [.er 76 (nat i),.prop (aD t),.prop (gM f),.er 76 (nat j),.prop (aD r),.prop (rT f q),.er 90 (nat a),.prop (aD w),.prop (gM e),.er 90 (nat b),.prop (aD v),.prop (rT e h),.er 90 (nat c),.prop (aD u),.prop (FE e h n)]
  rw[bG f,bG (by rw[amf];exact q),bG e,bG (by rw[amf];exact h),bG (by rw[amf,amf];exact n)]at g
  exact g
 |cons x xs=>
  have g:ak zZq G 0 (kL (kR ou)) (L5 l ⟨o,p,m,x::xs⟩ ⟨k,[i,j],[a,b,c],d⟩) .normal (lay 105 [(5,.ptr 4 0),(8,.ptr 5 0)] [(1,aF (aF (o.map bool) (0+(zNq i).toNat*1) [bool true]) (0+(zNq j).toNat*1) [bool true]),(2,p.map bool),(3,aF (aF (aF (m.map bool) (0+(zNq a).toNat*1) [bool true]) (0+(zNq b).toNat*1) [bool true]) (0+(zNq c).toNat*1) [bool true]),(4,Tq l (.cR 6 ((x::xs).length+1) 4)),(5,iV ⟨k,[i,j],[a,b,c],d⟩),(6,(x::xs).flatMap iV++iV ⟨k,[i,j],[a,b,c],d⟩)] [4]):=
   ak.r y [.er 76 (nat i),.prop (aD t),.prop (gM f),.er 76 (nat j),.prop (aD r),.prop (rT f q),.er 90 (nat a),.prop (aD w),.prop (gM e),.er 90 (nat b),.prop (aD v),.prop (rT e h),.er 90 (nat c),.prop (aD u),.prop (FE e h n),.er 99 (.row 1 true (iV ⟨k,[i,j],[a,b,c],d⟩)),.prop (mu (gs:=x::xs) (g:=⟨k,[i,j],[a,b,c],d⟩) hn rfl)]
  rw[bG f,bG (by rw[amf];exact q),bG e,bG (by rw[amf];exact h),bG (by rw[amf,amf];exact n),←E5]at g
  rw[show(x::xs).length+1=((x::xs)++[(⟨k,[i,j],[a,b,c],d⟩:Gp)]).length from by simp]at g
  exact g
end
def ajM(l:Lk)(s:Fn):D:=.aV (EB l++[.row l.bs.length false (((s.known.map bool).drop 0).take l.bs.length),.row l.bs.length false (((s.mM.map bool).drop 0).take l.bs.length),.row l.js.length false (((s.used.map bool).drop 0).take l.js.length),.row s.gs.length false ((s.gs.flatMap iV).take (s.gs.length*4))])
def aaU(l:Lk)(s:Fn):D:=.aV (EB l++[.row l.bs.length false (((s.known.map bool).drop 0).take l.bs.length),.row l.bs.length false (((s.mM.map bool).drop 0).take l.bs.length),.row l.js.length false (((s.used.map bool).drop 0).take l.js.length),.row 0 true []])
theorem lP{m:List Bool}{n:Nat}(h:m.length=n):D.row n false (((m.map bool).drop 0).take n)=gC m:=by
 rw[amS,al4 (by rw[alR,h];exact alE _),←h];rfl
theorem Oy(gs:List Gp):(gs.flatMap iV).length=gs.length*4:=by
 induction gs with
 |nil=>rfl
 |cons x xs a=>rw[amx,amj,a,amm];simp[iV];omega
theorem Ts{l:Lk}{s:Fn}(a:pT l s)(b:s.gs≠[]):ajM l s=uD l s:=by
 unfold ajM uD cFn;rw[lP a.k,lP a.d,lP a.u,al4 (by rw[Oy];exact alE _)]
 cases h:s.gs with
 |nil=>exact apC h b
 |cons x xs=>rfl
theorem N8{l:Lk}{s:Fn}(a:pT l s)(b:s.gs=[]):aaU l s=uD l s:=by
 unfold aaU uD cFn;rw[lP a.k,lP a.d,lP a.u,b];rfl
def jH(l:Lk)(s:Fn):Option Gp:=match rH l s with
 |some g=>some g
 |none=>match zJ l s with
  |some g=>some g
  |none=>ry l s
theorem ad2(b:aa G){l:Lk}{s:Fn}(f:gO l)(a:pT l s)(e:s.gs≠[])(g:Gp):iC zZq G 0 (kR (kR ou)) (L5 l s g) .normal (fmL l s (jH l s)):=by
 have c:=Oa b f a;have d:=Y2 b f a;have cs:=Mt b f a;rw[←Ts a e]at c d cs;unfold jH;cases n:rH l s with
 |some x=>
  rw[n]at c;clear a;obtain⟨j,o,i,gs⟩:=s;cases gs with
  |nil=>exact apC rfl e
  |cons y h=>exact iC.ae b (ro:=[]) (m:=60) [(5,7)] (af ..) [.inl [] func172,.dY c] (by decide)
 |none=>
  rw[n]at c;cases k:zJ l s with
  |some x=>
   rw[k]at d;clear a;obtain⟨j,o,i,gs⟩:=s;cases gs with
   |nil=>exact apC rfl e
   |cons y h=>exact iC.ae b (ro:=[]) (m:=60) [(5,7)] (af ..) [.inl [] func172,.dY c,.dY d] (by decide)
  |none=>
   rw[k]at d;show iC zZq G 0 (kR (kR ou)) (L5 l s g) .normal (fmL l s (ry l s));generalize ry l s=os at cs;clear a;obtain⟨j,o,i,gs⟩:=s;cases gs with
   |nil=>exact apC rfl e
   |cons y h=>
    cases os with
    |some x=>exact iC.ae b (ro:=[]) (m:=60) [(5,7)] (af ..) [.inl [] func172,.dY c,.dY d,.dY cs] (by decide)
    |none=>exact iC.ae b (ro:=[]) (m:=60) [(5,7)] (af ..) [.inl [] func172,.dY c,.dY d,.dY cs] (by decide)
def W7(l:Lk)(s:Fn)(kind body qO:Nat):Prop:=qO<l.js.length∧(l.js.getD qO default).kind=kind∧∃o,sK (l.js.getD qO default) body=some o∧s.known.getD o false=true
inductive rL(l:Lk)(s:Fn):Gp→Prop
 |s_ (d body qO:Nat) (hd:d<l.ds.length) (hb:(l.ds.getD d default).body=body) (kb:s.known.getD body false=false) (hp:W7 l s 0 body qO):rL l s ⟨0,[body],[qO],d⟩
 |pair (i j a b c:Nat) (oZ:i<j) (hj:j<l.bs.length) (fi:qz s i=true) (fj:qz s j=true) (ha:W7 l s 0 i a) (hb:W7 l s 0 j b) (hc:c<l.js.length) (kc:(l.js.getD c default).kind=0) (oc:sK (l.js.getD c default) i=some j):rL l s ⟨1,[i,j],[a,b,c],0⟩
 |single (i a b:Nat) (hi:i<l.bs.length) (fi:qz s i=true) (ha:W7 l s 0 i a) (hb:W7 l s 1 i b):rL l s ⟨fW l i b,[i],[a,b],0⟩
theorem NT{kind body:Nat}{pass:Nat→Bool}{j:Jt}(h:tF kind body pass j=true):j.kind=kind∧∃o,sK j body=some o∧pass o=true:=by
 unfold tF at h;rw[zLq,decide_eq_true_eq]at h;refine⟨h.1,?_⟩;have a:=h.2;cases b:sK j body with
 |none=>rw[b]at a;cases a
 |some o=>rw[b]at a;exact⟨o,rfl,a⟩
theorem NG{α:Type}{p:α→Bool}{l:List α}{n:Nat}(d:α)(h:C2 p l=zNq n):n<l.length∧p (l.getD n d)=true:=by
 unfold C2 at h;split at h
 ·rename_i a
  have e:l.findIdx p=n:=Int.ofNat.inj h;rw[←e];exact⟨a,kJ d a⟩
 ·cases h
theorem GC{l:Lk}{s:Fn}{kind body:Nat}(h:0≤Ao l s kind body .known):W7 l s kind body (Ao l s kind body .known).toNat:=by
 rcases eO (tF kind body (tH s .known)) l.js with a|⟨n,-,a⟩
 ·rw[show Ao l s kind body .known= -1 from a]at h
  exact apC h (by decide)
 ·obtain⟨f,e⟩:=NG default a
  rw[show Ao l s kind body .known=zNq n from a]
  obtain⟨d,o,c,b⟩:=NT e;exact⟨f,d,o,c,b⟩
theorem RF{l:Lk}{s:Fn}{g:Gp}(h:rH l s=some g):rL l s g:=by
 unfold rH at h;split at h
 ·rename_i b
  cases h;have a:=kJ (p:=jV l s) default b;rw[jV,zLq,decide_eq_true_eq]at a;exact .s_ _ _ _ b rfl (by simpa using a.1) (GC a.2)
 ·cases h
theorem agL{N:Nat}{free:Nat→Bool}{x:Nat×Nat}(h:x∈Gr.Lp N free N 0):x.1<x.2∧x.2<N∧free x.1=true∧free x.2=true:=by
 unfold Gr.Lp at h;rw[Gr.Kt N free N (j:=0) (by omega),amX,anI]at h
 obtain⟨i,c,b⟩:=h;unfold Gr.CI at b;rw[ama]at b;obtain⟨k,a,rfl⟩:=b;rw[anR,zLq,zLq,decide_eq_true_eq,ann]at a;exact⟨a.2.1,a.1,a.2.2.1,a.2.2.2⟩
theorem Y3{l:Lk}{s:Fn}{g:Gp}(h:zJ l s=some g):rL l s g:=by
 unfold zJ at h;rw[Option.map_eq_some_iff]at h;obtain⟨x,c,rfl⟩:=h;obtain⟨v,u,t,r⟩:=agL (anN c);have d:=aon c;rw[Gr.L4,zLq,zLq,decide_eq_true_eq,decide_eq_true_eq,decide_eq_true_eq]at d;obtain⟨⟨q,p⟩,e⟩:=d;have b:(cmP l s x.1 x.2).toNat<l.js.length∧(l.js.getD (cmP l s x.1 x.2).toNat default).kind=0∧sK (l.js.getD (cmP l s x.1 x.2).toNat default) x.1=some x.2:=by
  rcases eO (tF 0 x.1 (tH s (.only x.2))) l.js with a|⟨n,-,a⟩
  ·rw[show cmP l s x.1 x.2= -1 from a]at e
   exact apC e (by decide)
  ·obtain⟨m,k⟩:=NG default a
   rw[show cmP l s x.1 x.2=zNq n from a]
   obtain⟨j,o,i,f⟩:=NT k;have:o=x.2:=by simpa [tH]using f
   exact⟨m,j,by rw[←this];exact i⟩
 exact .pair _ _ _ _ _ v u t r (GC q) (GC p) b.1 b.2.1 b.2.2
theorem P7{l:Lk}{s:Fn}{g:Gp}(h:ry l s=some g):rL l s g:=by
 unfold ry at h;split at h
 ·rename_i b
  cases h;have c:(List.range l.bs.length).findIdx (wR l s)<(List.range l.bs.length).length:=by rw[am_];exact b
  have a:wR l s ((List.range l.bs.length).getD (FK l s) 0)=true:=kJ (p:=wR l s) 0 c;rw[lZ b,wR,zLq,zLq,decide_eq_true_eq,decide_eq_true_eq]at a;exact .single _ _ _ b a.1 (GC a.2.1) (GC a.2.2)
 ·cases h
theorem Bw{l:Lk}{s:Fn}{g:Gp}(h:jH l s=some g):rL l s g:=by
 unfold jH at h;cases b:rH l s with
 |some x=>rw[b]at h;cases h;exact RF b
 |none=>
  rw[b]at h;cases a:zJ l s with
  |some x=>rw[a]at h;cases h;exact Y3 a
  |none=>rw[a]at h;exact P7 h
inductive yp(l:Lk):Fn→Fn→Prop
 |stop {s:Fn} (h:jH l s=none):yp l s s
 |step {s t:Fn} {g:Gp} (h:jH l s=some g) (r:yp l (s.add g) t):yp l s t
theorem mq(a:List Nat):∀m:List Bool,(ei m a).length=m.length:=by
 induction a with
 |nil=>intro m;rfl
 |cons i a b=>intro m;show(ei (m.set i true) a).length=_;rw[b,amf]
theorem pT.add{l:Lk}{s:Fn}(h:pT l s)(g:Gp):pT l (s.add g):=⟨by show(ei _ _).length=_;rw[mq];exact h.k,h.d,by show(ei _ _).length=_;rw[mq];exact h.u⟩
theorem count_set:∀(m:List Bool)(i:Nat),(m.set i true).count false≤m.count false∧(i<m.length→m.getD i false=false→(m.set i true).count false<m.count false)
 |[],i=>⟨alE _,fun h=>by simp at h⟩
 |b::m,0=>by
  rw[List.set_cons_zero,ao',ao'];refine⟨by simp,fun _ h=>?_⟩
  have:b=false:=by simpa using h
  rw[this];simp
 |b::m,i+1=>by
  obtain⟨e,d⟩:=count_set m i;rw[List.set_cons_succ,ao',ao'];refine⟨by omega,fun c a=>?_⟩
  have:=d (by simpa using c) (by simpa using a)
  omega
theorem f_{s:Fn}{i:Nat}(h:qz s i=true):s.known.getD i false=false:=by
 unfold qz at h;rw[zLq]at h;simpa using h.1
theorem rL.less{l:Lk}{s:Fn}{g:Gp}(n:gO l)(e:pT l s)(h:rL l s g):(s.add g).known.count false<s.known.count false:=by
 cases h with
 |s_ d body qO p f m v=>exact(count_set s.known body).2 (by rw[e.k,←f];exact n.body _ (aN p _)) m
 |pair i j a b c t w k y q f x u r=>
  show((s.known.set i true).set j true).count false<_;exact amD (count_set _ j).1 ((count_set s.known i).2 (by rw[e.k];omega) (f_ k))
 |single i a b o k q f=>exact(count_set s.known i).2 (by rw[e.k];exact o) (f_ k)
theorem yp.ex{l:Lk}(c:gO l):∀(n:Nat)(s:Fn),pT l s→s.known.count false≤n→∃t,yp l s t
 |0,s,b,h=>by
  cases a:jH l s with
  |none=>exact⟨s,.stop a⟩
  |some g=>have:=(Bw a).less c b;omega
 |n+1,s,b,h=>by
  cases a:jH l s with
  |none=>exact⟨s,.stop a⟩
  |some g=>
   have:=(Bw a).less c b;obtain⟨t,d⟩:=yp.ex c n (s.add g) (b.add g) (by omega)
   exact⟨t,.step a d⟩
theorem aaC(n:aa G){l:Lk}{s:Fn}(p:gO l)(f:pT l s)(k:s.gs.length≤1000){g:Gp}(h:rL l s g):iC zZq G 0 (kL (kR ou)) (L5 l s g) .normal (L5 l (s.add g) g):=by
 cases h with
 |s_ d body qO t e z o=>exact ak6 f k n (by rw[←e];exact p.body _ (aN t _)) o.1
 |pair i j a b c x q v A m e u y w=>exact ak4 f k n (by omega) q m.1 e.1 u
 |single i a b r v m e=>exact ak5 f k n r m.1 e.1
theorem ad3(b:aa G){l:Lk}(c:gO l){t:Fn}(s:Fn)(a:pT l s)(e:s.gs.length+s.known.count false≤1000)(d:yp l s t):
  bT zZq G 105 0 (.loop ou) (fmL l s (jH l s)) (.exit 2) (fmE l t):=by
 refine bT.Km (ι:=Fn) (fun s=>pT l s∧s.gs.length+s.known.count false≤1000∧yp l s t) (fun s=>fmL l s (jH l s)) (fun s=>s.known.count false) (fun s=>af ..) (by intro h;cases h) (fun s h=>?_) s ⟨a,e,d⟩
 obtain⟨a,e,d⟩:=h;cases d with
 |stop h=>rw[h];exact .inr (ahv b l _)
 |step h r=>
  rename_i g;have f:=Bw h;have i:=f.less c a;refine .inl ⟨s.add g,⟨a.add g,?_,r⟩,i,?_⟩
  ·show(s.gs++[g]).length+_≤1000
   rw[amj];simp only[List.length_cons,List.length_nil];omega
  ·rw[h,aaW]
   refine(ajL b l s g).seq (af ..) ((aaC b c a (by omega) f).seq (af ..) (ad2 b c (a.add g) ?_ g))
   show s.gs++[g]≠[];simp
def wV(l:Lk):Fn:=⟨(List.replicate l.bs.length false).set 0 true,AF l l.ds.length,List.replicate l.js.length false,[]⟩
theorem wh(l:Lk):pT l (wV l):=⟨by simp[wV],G0 l _,by simp[wV]⟩
def NC(n:Nat):List D:=aF (List.replicate n (bool false)) (0+(0:Int).toNat*1) [bool true]
theorem EZ{n:Nat}(h:0<n):NC n=((List.replicate n false).set 0 true).map bool:=by
 have:=bG (m:=List.replicate n false) (i:=0) (by simpa using h)
 rw[aoI]at this;exact this
theorem J'(n:Nat):List.replicate n (bool false)=(List.replicate n false).map bool:=by rw[aoI]
theorem ahx(d:aa G){l:Lk}(c:gO l)(b a:List D):bT zZq G 105 0 (.loop (ah f113 0)) (lay 105 [(5,.ptr 4 0),(40,aU PJ l.ds),(41,nat l.ds.length),(42,nat 0)] [(1,b),(2,List.replicate l.bs.length (bool false)),(3,a),(4,Tq l (.row 0 true []))] [4]) (.exit 0) (lay 105 [(5,.ptr 4 0)] [(1,b),(2,(AF l l.ds.length).map bool),(3,a),(4,Tq l (.row 0 true []))] [4]):=by
 rw[J'];exact ad4 d c b a
theorem ahu(c:aa G){l:Lk}(a:gO l){t:Fn}(b:yp l (wV l) t):bT zZq G 105 0 (.loop ou) (lay 105 [(5,.ptr 4 0),(8,.ptr 5 0),(9,bool (jH l (wV l)).isSome)] [(1,NC l.bs.length),(2,(AF l l.ds.length).map bool),(3,List.replicate l.js.length (bool false)),(4,Tq l (.row 0 true [])),(5,gpC (jH l (wV l)))] [4]) (.exit 2) (fmE l t):=by
 rw[EZ a.b0,J'];refine ad3 c a (wV l) (wh l) ?_ b;have:=(wh l).k;have d:(wV l).known.count false≤(wV l).known.length:=apa;have:=a.nb;show 0+_≤1000;omega
def aaT(l:Lk):D:=.aV (EB l++[.row l.bs.length false (((NC l.bs.length).drop 0).take l.bs.length),.row l.bs.length false ((((AF l l.ds.length).map bool).drop 0).take l.bs.length),.row l.js.length false (((List.replicate l.js.length (bool false)).drop 0).take l.js.length),.row 0 true []])
theorem VH{l:Lk}(a:gO l):aaT l=uD l (wV l):=by
 rw[←N8 (wh l) rfl];unfold aaT aaU;rw[EZ a.b0,J'];rfl
theorem ahw(c:aa G){l:Lk}(h:gO l)(ck:Spec zZq G 37 [g7 l] (.lit .nilIface)){t:Fn}(q:yp l (wV l) t)(p:pT l t):Spec zZq G 113 [g7 l] (.aY [uD l t,.lit .nilIface]):=by
 have a:=pK (n:=l.bs.length) (by have:=h.nb;omega)
 have m:=pK h.nj;have k:=Pv h.b0;have j:=Mp (d:=bool false) h.b0;have o:=ahx c h (NC l.bs.length) (List.replicate l.js.length (bool false));have lm:=ahu c h q;have e:=Oa c h (wh l);have g:=Y2 c h (wh l);have cs:=Mt c h (wh l);rw[←VH h]at e g cs;obtain⟨s,u,r,gs⟩:=t;cases gs with
 |nil=>
  rw[←N8 p rfl];cases b:rH l (wV l)with
  |some y=>
   rw[show jH l (wV l)=some y from by rw[jH,b]]at lm
   rw[b]at e;exact Spec.r c func113 [32] [.call ck,.er 22 (nat l.bs.length),.prop a,.er 26 (nat l.bs.length),.prop a,.er 30 (nat l.js.length),.prop m,.er 37 (.bz 1 0 l.bs.length l.bs.length),.prop k,.prop j,.code o,.inl [] func172,.dY e,.code (bT.uG [(5,7)] (by decide) lm)]
  |none=>
   rw[b]at e;cases f:zJ l (wV l)with
   |some y=>
    rw[show jH l (wV l)=some y from by rw[jH,b,f]]at lm
    rw[f]at g;exact Spec.r c func113 [32] [.call ck,.er 22 (nat l.bs.length),.prop a,.er 26 (nat l.bs.length),.prop a,.er 30 (nat l.js.length),.prop m,.er 37 (.bz 1 0 l.bs.length l.bs.length),.prop k,.prop j,.code o,.inl [] func172,.dY e,.dY g,.code (bT.uG [(5,8)] (by decide) lm)]
   |none=>
    rw[f]at g;cases i:ry l (wV l)with
    |some y=>
     rw[show jH l (wV l)=some y from by rw[jH,b,f];exact i]at lm
     rw[i]at cs;exact Spec.r c func113 [32] [.call ck,.er 22 (nat l.bs.length),.prop a,.er 26 (nat l.bs.length),.prop a,.er 30 (nat l.js.length),.prop m,.er 37 (.bz 1 0 l.bs.length l.bs.length),.prop k,.prop j,.code o,.inl [] func172,.dY e,.dY g,.dY cs,.code (bT.uG [(5,8)] (by decide) lm)]
    |none=>
     rw[show jH l (wV l)=none from by rw[jH,b,f];exact i]at lm
     rw[i]at cs;exact Spec.r c func113 [32] [.call ck,.er 22 (nat l.bs.length),.prop a,.er 26 (nat l.bs.length),.prop a,.er 30 (nat l.js.length),.prop m,.er 37 (.bz 1 0 l.bs.length l.bs.length),.prop k,.prop j,.code o,.inl [] func172,.dY e,.dY g,.dY cs,.code (bT.uG [(5,8)] (by decide) lm)]
 |cons x xs=>
  rw[←Ts p (by simp)]
  cases b:rH l (wV l)with
  |some y=>
   rw[show jH l (wV l)=some y from by rw[jH,b]]at lm
   rw[b]at e;exact Spec.r c func113 [32] [.call ck,.er 22 (nat l.bs.length),.prop a,.er 26 (nat l.bs.length),.prop a,.er 30 (nat l.js.length),.prop m,.er 37 (.bz 1 0 l.bs.length l.bs.length),.prop k,.prop j,.code o,.inl [] func172,.dY e,.code (bT.uG [(5,7)] (by decide) lm)]
  |none=>
   rw[b]at e;cases f:zJ l (wV l)with
   |some y=>
    rw[show jH l (wV l)=some y from by rw[jH,b,f]]at lm
    rw[f]at g;exact Spec.r c func113 [32] [.call ck,.er 22 (nat l.bs.length),.prop a,.er 26 (nat l.bs.length),.prop a,.er 30 (nat l.js.length),.prop m,.er 37 (.bz 1 0 l.bs.length l.bs.length),.prop k,.prop j,.code o,.inl [] func172,.dY e,.dY g,.code (bT.uG [(5,8)] (by decide) lm)]
   |none=>
    rw[f]at g;cases i:ry l (wV l)with
    |some y=>
     rw[show jH l (wV l)=some y from by rw[jH,b,f];exact i]at lm
     rw[i]at cs;exact Spec.r c func113 [32] [.call ck,.er 22 (nat l.bs.length),.prop a,.er 26 (nat l.bs.length),.prop a,.er 30 (nat l.js.length),.prop m,.er 37 (.bz 1 0 l.bs.length l.bs.length),.prop k,.prop j,.code o,.inl [] func172,.dY e,.dY g,.dY cs,.code (bT.uG [(5,8)] (by decide) lm)]
    |none=>
     rw[show jH l (wV l)=none from by rw[jH,b,f];exact i]at lm
     rw[i]at cs;exact Spec.r c func113 [32] [.call ck,.er 22 (nat l.bs.length),.prop a,.er 26 (nat l.bs.length),.prop a,.er 30 (nat l.js.length),.prop m,.er 37 (.bz 1 0 l.bs.length l.bs.length),.prop k,.prop j,.code o,.inl [] func172,.dY e,.dY g,.dY cs,.code (bT.uG [(5,8)] (by decide) lm)]
end Tw
end Lw
namespace Lw
open Go Go.RowKit Go.Proofs
variable {P:Program} {Good:World→Prop}
theorem cU.loose{w:World}{X:Nat→Prop}{v:Value}{n:Nat}{xs:List D}(h:cU w X v (.row n true xs)):cU w X v (.row n false xs):=by
 cases h with
 |row a _ cap _ us _ c hlen d e hm b=>exact .row a _ cap false us _ c hlen d (by intro h;cases h) hm b
theorem cU.agV{w:World}{X:Nat→Prop}{v:Value}{n:Nat}{xs:List D}{e:D}(h:cU w X v (.aY [.row n true xs,e])):cU w X v (.aY [.row n false xs,e]):=by
 cases h with
 |aY us _ c b=>
  refine .aY us _ c fun i h a=>?_
  have:=b i h (by simpa using a)
  cases i with
  |zero=>exact cU.loose this
  |succ i=>cases i with
   |zero=>exact this
   |succ i=>exfalso;simp only[List.length_cons,List.length_nil]at a;omega
theorem iD.loose{fn:Func}{mx:Nat}{args:List D}{blks blks':List (Option (List D))}{ns ns':List Nat}{n:Nat}{xs:List D}{e:D}(x:e.ref=none)(h:iD P Good fn mx args blks ns (.aY [.row n true xs,e]) blks' ns'):iD P Good fn mx args blks ns (.aY [.row n false xs,e]) blks' ns':=by
 intro f u c w β X vals s r q p o m l k j a;refine(h f u c w β X vals s r q p o m l k j a).mono fun H E B=>?_
 obtain⟨v,i,C,rfl,A,y,F⟩:=B;have d:∀z:Bool,(D.aY [.row n z xs,e]).refs=[]:=fun z=>by
  show [D.row n z xs,e].filterMap D.ref=[];rw[aoG rfl,aoG x,List.filterMap_nil]
 refine⟨v,i,C,rfl,A,.c (.p (cU.agV (y.pure (d true)))),fun b g=>?_⟩
 rw[d]at g;cases g
namespace Tw
open fL
structure wK where
 T:aS
 ps:List Pl
 mode:Int
def abw(s:wK):List D:=cSd s.T s.ps s.mode
def Mq:Option (List wK)→D
 |none=>.aY [QQ,e_ 15]
 |some l=>.aY [.row l.length false (l.flatMap abw),.lit .nilIface]
open Classical in
noncomputable def FO(t:aS)(A B:Hd):Option (List wK):=
 if A.v.sq=0∨B.v.sq=0 then none
 else if a7 t (cD t A.cr B.cr)=0 then(if a7 t (jg A.cr.r B.cr.r)=0 then none else some [])
 else if a7 t (cX t A.cr B.cr)=1 then some [⟨cT t A.cr B.cr,[sJ (cT t A.cr B.cr) (cP1 t A.cr B.cr) A,sJ (cT t A.cr B.cr) (cP1 t A.cr B.cr) B],1⟩,⟨cT t A.cr B.cr,[sJ (cT t A.cr B.cr) (cP2 t A.cr B.cr) A,sJ (cT t A.cr B.cr) (cP2 t A.cr B.cr) B],-1⟩]
 else if a7 t (cX t A.cr B.cr)=0 then some [⟨t,[sJ t (HN t A.cr B.cr) A,sJ t (HN t A.cr B.cr) B],0⟩]
 else some []
def Xf(t:aS)(A:Hd)(p q:Pt):Option (List wK):=
 if A.v.sq=0 then none
 else if a7 t (lX t A.cr p q)=1 then some [⟨lT t A.cr p q,[sJ (lT t A.cr p q) (dR (lT t A.cr p q) p (lG t A.cr p q) (lV p q)) A],1⟩,⟨lT t A.cr p q,[sJ (lT t A.cr p q) (dR (lT t A.cr p q) p (lH t A.cr p q) (lV p q)) A],-1⟩]
 else if a7 t (lX t A.cr p q)=0 then some [⟨t,[sJ t (dR t p (lF t A.cr p q) (lV p q)) A],0⟩]
 else some []
def Xd(t:aS)(x:Rp):Option (List wK):=
 if a7 t (x.d t)=0∧a7 t x.h=0 then none
 else if a7 t (x.r t)=1 then some [⟨x.T t,[x.pl t (x.T t) (eM t.length)],1⟩,⟨x.T t,[x.pl t (x.T t) (xI (eM t.length))],-1⟩]
 else if a7 t (x.r t)=0 then some [⟨t,[x.pl t t []],0⟩]
 else some []
def Lj(l:Lk)(a:As)(g:Gp)(b:Nat)(x:Tn):Option (List wK):=some [⟨a.t,[G1 l a g b x.cos x.sin],1⟩]
def Uy(l:Lk)(g:Gp)(a:As)(i:Nat)(j:Jt):Rp:=⟨nE (kE l g 0 i),jG l g a 0 i,(nE (dP l i j.to)).sub (nE (dP l i j.on)),nE (dP l i j.on),b9 l a j.a j.p⟩
noncomputable def ot(l:Lk)(a:As)(g:Gp)(x:Tn):Option (List wK):=
 match g.kind,g.bs,g.js with
 |0,[b],_=>Lj l a g b x
 |1,[i,k],_=>FO a.t (NW l g a 0 i) (NW l g a 1 k)
 |2,[i],[_,c]=>Xf a.t (Vu l a (i:=i) g (l.js.getD c default)) (b9 l a (l.js.getD c default).b (l.js.getD c default).on) (b9 l a (l.js.getD c default).b (l.js.getD c default).to)
 |_,[i],[_,c]=>Xd a.t (Uy l g a i (l.js.getD c default))
 |_,_,_=>none
structure abS(r n δ k N D:Nat)(n1 nd nS nX nW I nG nF nH nP nw nC:Nat):Prop where
 e1:n1=n+r+r+2
 ed:nd=4*n1+3+tb δ k
 eS:nS=nd+2*(8*r+5)+2
 eX:nX=(8*r+5+nd+2*tb δ k+3)+(2*nS+tb δ k)+1
 eW:nW=nd+2+tb δ k
 eI:I=ib δ k nW
 eG:nG=nS+I+tb δ k
 eF:nF=nG+(2*n1+1)+tb δ k+n1+1
 eH:nH=I+tb (δ+nX) (k+1)
 eP:nP=nH+(2*n1+1)+tb (δ+nX) (k+1)+nF+1
 ew:nw=nP+n1+1
 eC:nC=nw+2*(2*r+1)+1+2*(4*(2*r+1)+1)
 sX:sb δ k nX≤NB
 sT:sb (δ+nX) (k+1) (δ+nX)≤NB
 tT:tb (δ+nX) (k+1)≤MB
 sW:sb (δ+nX) (k+1) nW≤NB
 iW:ib (δ+nX) (k+1) nW≤MB
 sB:sb (δ+nX) (k+1) (4*(2*r+1)+1)≤NB
 iB:ib (δ+nX) (k+1) (4*(2*r+1)+1)≤MB
 iB0:ib δ k (4*(2*r+1)+1)≤MB
 bN:nC+2*r+2+n1≤N
 bM:N≤MB
 bX:nX≤MB
 bD:δ+nX≤D
structure afz(r n δ k N D:Nat)(n1 nQ nX I nP nw nC:Nat):Prop where
 e1:n1=n+r+r+2
 eQ:nQ=4*n1+3+tb δ k
 eX:nX=(nQ+(8*r+5)+tb δ k)+(2*nQ+tb δ k)+1
 eI:I=ib δ k nQ
 eP:nP=nQ+1+I+tb (δ+nX) (k+1)+(2*n1+1)+tb (δ+nX) (k+1)+n1+1
 eP0:nQ+I+tb δ k+(2*n1+1)+tb δ k+n1+1≤nP
 ew:nw=nP+n1+1
 eC:nC=nw+2*(2*r+1)+1+2*(4*(2*r+1)+1)
 sX:sb δ k nX≤NB
 iQ0:ib δ k nQ≤MB
 sT:sb (δ+nX) (k+1) (δ+nX)≤NB
 tT:tb (δ+nX) (k+1)≤MB
 sQ:sb (δ+nX) (k+1) nQ≤NB
 iQ:ib (δ+nX) (k+1) nQ≤MB
 sB:sb (δ+nX) (k+1) (4*(2*r+1)+1)≤NB
 iB:ib (δ+nX) (k+1) (4*(2*r+1)+1)≤MB
 iB0:ib δ k (4*(2*r+1)+1)≤MB
 bN:nC+2*r+2+n1≤N
 bM:N≤MB
 bX:nX≤MB
 bD:δ+nX≤D
structure afx(r n δ k N D:Nat)(n1 nd nX I nz nz0 nC nC0:Nat):Prop where
 e1:n1=n+r+r+2
 ed:nd=4*n1+3+tb δ k
 eX:nX=(8*r+5+nd+tb δ k)+(2*(8*r+5)+tb δ k)+1
 eI:I=ib δ k nd
 ez:nz=(2*n1+1+tb (δ+nX) (k+1))+(8*r+5+(2*n1+1)+tb (δ+nX) (k+1))+1+I+tb (δ+nX) (k+1)
 ez0:nz0=(2*n1+1+tb δ k)+(8*r+5+(2*n1+1)+tb δ k)+1+I+tb δ k
 eC:nC=nz+2*(2*r+1)+1+2*(4*(2*r+1)+1)
 eC0:nC0=nz0+2*(2*r+1)+1+2*(4*(2*r+1)+1)
 sX:sb δ k nX≤NB
 id0:ib δ k nd≤MB
 sT:sb (δ+nX) (k+1) (δ+nX)≤NB
 tT:tb (δ+nX) (k+1)≤MB
 sd:sb (δ+nX) (k+1) nd≤NB
 id1:ib (δ+nX) (k+1) nd≤MB
 sB:sb (δ+nX) (k+1) (4*(2*r+1)+1)≤NB
 iB:ib (δ+nX) (k+1) (4*(2*r+1)+1)≤MB
 iB0:ib δ k (4*(2*r+1)+1)≤MB
 bN:nC+2*r+2+n1≤N
 bN0:nC0+2*r+2+n1≤N
 bM:N≤MB
 bX:nX≤MB
 bD:δ+nX≤D
structure PB(N D:Nat)(t:aS)(s:wK):Prop where
 tow:s.T=t∨∃d,s.T=tN t d
 ok:me s.T
 bt:w5 D s.T
 ps:∀b∈s.ps,vr N s.T b
end Tw
namespace fL
theorem w5.mono{δ η:Nat}{t:aS}(h:w5 δ t)(a:δ≤η):w5 η t:=by
 obtain⟨D,B,a1,d,c,b⟩:=h;exact⟨D,B,a1,alJ d (iJ a),alJ c (iJ a),b⟩
end fL
namespace Tw
open fL
variable {G:World→Prop} {t T:aS} {δ η:Nat}
theorem vM(l:aa G)(k:b7 η T){A:Hd}{c:Pt}{r d e b f N:Nat}(a:LV r d T A)(h:A.v.sq≠0)(g:lJ e T c)(s:b=e+d+1)(o:f=b+2*(2*r+1)+1+2*(4*(2*r+1)+1))(p:f+2*r+2+d≤N)(u:N≤MB)
  (i:sb η T.length (4*(2*r+1)+1)≤NB) (j:ib η T.length (4*(2*r+1)+1)≤MB):Bdy G η T c A∧vr N T (sJ T c A):=by
 have q:MB≤NB:=rl;have hw:lJ b T (fD c A.o):=(tK g a.o).mono (by omega)
 obtain⟨n,m⟩:=LC l k a.v a.p h hw a.o o rfl (by omega) i j
 exact⟨⟨g.ok (by omega),a.o.ok (by omega),a.c.fit (by omega),a.p.fit (by omega),n⟩,vr.mono m p⟩
end Tw
end Lw
namespace Lw
open Go Go.RowKit Go.Proofs
namespace Tw
open fL
variable {G:World→Prop} {t T:aS} {δ η:Nat}
theorem A8{t:aS}{a:List Rat}(b:a7 t a≠1)(c:a7 t a≠0):a7 t a= -1:=by
 have:=(je t t.length a);unfold a7 at b c⊢;omega
theorem Cz{t:aS}{a:List Rat}(h:a7 t a=1):0≤a7 t a:=by rw[h];decide
theorem Oe{a b:Cr}(c:n7 δ t)(m:fP t (cV a b))(j:a7 t (cD t a b)≠0):a7 t (cD t a b)=1:=by
 obtain⟨K,_,ι,s,g⟩:=c.ok.model t.length (alE _);have f:=m.1.sh;have d:=m.2.sh;have e:vl ι s t (cD t a b)=vl ι s t (cV a b).1*vl ι s t (cV a b).1+vl ι s t (cV a b).2*vl ι s t (cV a b).2:=by
  unfold cD ta;rw[r_ ι s (Sh.mul c.ok.sh f f) (Sh.mul c.ok.sh d d),dW ι s c.ok.sh g f f,dW ι s c.ok.sh g d d]
 have n:Sh t.length (cD t a b):=(Sh.mul c.ok.sh f f).add (Sh.mul c.ok.sh d d);rw[lN ι s c.ok.sh g n]at j⊢;rcases fw.QP (fw.qX (vl ι s t (cV a b).1)) (fw.qX (vl ι s t (cV a b).2))with h|h
 ·rw[e];exact fw.sG h
 ·rw[e,h]at j;exact apC fw.iE j
section
variable (l:Lk) (a:As) {kd i k j0 j1 j2 dr:Nat}
theorem Ux(c:aa G)(d:b7 δ a.t)(hl:a.t.length≤3){A B:Hd}{r n N D P nd nS M nW I nG nF nH nP nw nC:Nat}(F:abS r n δ a.t.length N D P nd nS M nW I nG nF nH nP nw nC)
  (g:LV r P a.t A) (p:LV r P a.t B) (q:fF zZq G f196 [.ptr 0 0] (iH l ⟨kd,[i,k],[j0,j1,j2],dr⟩ a) (.aY [Sa A,Sa B]) (iH l ⟨kd,[i,k],[j0,j1,j2],dr⟩ a)):
  fF zZq G f150 [.ptr 0 0] (iH l ⟨kd,[i,k],[j0,j1,j2],dr⟩ a) (Mq (FO a.t A B)) (iH l ⟨kd,[i,k],[j0,j1,j2],dr⟩ a)∧∀ss,FO a.t A B=some ss→∀s∈ss,PB N D a.t s:=by
 have hN:MB≤NB:=rl;have bN:=F.bN;have bM:=F.bM;have bX:=F.bX;have eC:=F.eC;have ew:=F.ew;have eP:=F.eP;have e1:=F.e1;have ed:=F.ed;have eS:=F.eS;have eX:=F.eX;have eF:=F.eF;have eG:=F.eG;have a1:=g.c.fit (show r≤NB by omega)
 have y:=g.p.fit (show r≤NB by omega)
 have x:=g.v.XU (show(2*r+1)+(2*r+1)+((2*r+1)+(2*r+1))+1≤NB by omega)
 have w:=p.c.fit (show r≤NB by omega)
 have v:=p.p.fit (show r≤NB by omega)
 have E:=p.v.XU (show(2*r+1)+(2*r+1)+((2*r+1)+(2*r+1))+1≤NB by omega)
 have H:δ≤NB:=alJ (qZ _ _ _) d.b.sz;unfold FO;by_cases S:A.v.sq=0∨B.v.sq=0
 ·rw[apB S]
  refine⟨?_,fun ss h=>by cases h⟩
  by_cases u:A.v.sq=0
  ·exact MD l a c q a1 y w v (T0 c x (by rw[u];decide))
  ·exact MD l a c q a1 y w v (TZ c x (V2.sq_pos u) E (by rw[S.resolve_left u];decide))
 ·rw[apA S]
  have nA:A.v.sq≠0:=fun h=>S (.inl h)
  have O:B.v.sq≠0:=fun h=>S (.inr h)
  have a4:=V2.sq_pos nA;have Z:=V2.sq_pos O;obtain⟨pre,sz⟩:=abm d g p F.ed F.eS F.eX F.bX F.sX;have Y:=g.cr d.b.ok nA (m:=M) (by omega) (by omega) F.bX F.sX
  have X:=p.cr d.b.ok O (m:=M) (by omega) (by omega) F.bX F.sX
  have C:=sf c d.b H (by omega)
  by_cases d0:a7 a.t (cD a.t A.cr B.cr)=0
  ·rw[apB d0]
   have ss:yl δ a.t (jg A.cr.r B.cr.r):=.of (aQ.sub (g.rho.num a.t) (p.rho.num a.t)) (by omega) F.sX
   by_cases s0:a7 a.t (jg A.cr.r B.cr.r)=0
   ·rw[apB s0]
    exact⟨Yc l a c q a1 y x a4 w v E Z (Wv c d Y X pre d0 ss s0),fun ss h=>by cases h⟩
   ·rw[apA s0]
    refine⟨?_,fun ss h=>by cases h;intro s o;cases o⟩
    have Tg:a7 a.t (jg A.cr.r B.cr.r)=1∨a7 a.t (jg A.cr.r B.cr.r)= -1:=by
     by_cases h1:a7 a.t (jg A.cr.r B.cr.r)=1
     ·exact .inl h1
     ·exact .inr (A8 h1 s0)
    exact Kk l a c q a1 y x a4 w v E Z (RP c d Y X pre C.1 d0 Tg ss rfl) (MU c d C.2)
  ·rw[apA d0]
   have d1:=Oe d.b pre.v d0;have eI:=F.eI;have sW:sb δ a.t.length nW≤NB:=alJ (mj _ _ (by have:=F.eW;omega)) F.sX
   obtain⟨ft,kF,kW,w0,kI⟩:=Wx d g.o sz d0 F.eW F.eI F.eG F.eF sW (by omega)
   by_cases z:a7 a.t (cX a.t A.cr B.cr)=1
   ·rw[apB z]
    have f:b7 (δ+M) (cT a.t A.cr B.cr):=X_ d sz.x (Cz z) (by omega) F.sT F.tT
    have eL:(cT a.t A.cr B.cr).length=a.t.length+1:=gF _;have E3:δ+M≤NB:=alJ (qZ _ _ _) F.sT;obtain⟨tw,k1,k2⟩:=Om d sz f kF kW w0 F.eI F.eH F.eP F.sW F.iW (by omega)
    have L:=sf c f.b E3 (by rw[eL];omega)
    have ex:=Lb c d H sz.x F.bX F.sX (Cz z) hl;have W:LV r P (cT a.t A.cr B.cr) A:=g.up _;have V:LV r P (cT a.t A.cr B.cr) B:=p.up _;have j:=F.sB;have R:=F.iB;rw[←eL]at j R;have K:=vM c f W nA k1 F.ew F.eC F.bN F.bM j R;have J:=vM c f V O k1 F.ew F.eC F.bN F.bM j R;have p3:=vM c f W nA k2 F.ew F.eC F.bN F.bM j R;have p4:=vM c f V O k2 F.ew F.eC F.bN F.bM j R;refine⟨Kk l a c q a1 y x a4 w v E Z (abl c d Y X pre L.1 ft f tw ex d1 z) (YL c f L.2 K.1 J.1 p3.1 p4.1),fun ss h=>?_⟩
    cases h;intro s o;rcases uv o with rfl|rfl
    ·exact⟨.inr ⟨_,rfl⟩,f.b.ok,f.b.bt.mono F.bD,fun b U=>(uv U).elim (fun e=>e▸K.2) (fun e=>e▸J.2)⟩
    ·exact⟨.inr ⟨_,rfl⟩,f.b.ok,f.b.bt.mono F.bD,fun b U=>(uv U).elim (fun e=>e▸p3.2) (fun e=>e▸p4.2)⟩
   ·rw[apA z]
    by_cases x0:a7 a.t (cX a.t A.cr B.cr)=0
    ·rw[apB x0]
     have j:sb δ a.t.length (4*(2*r+1)+1)≤NB:=alJ (mj _ _ (by omega)) F.sX
     have Q:lJ nP a.t (HN a.t A.cr B.cr):=kF.mono (by omega)
     have K:=vM c d g nA Q F.ew F.eC F.bN F.bM j F.iB0;have J:=vM c d p O Q F.ew F.eC F.bN F.bM j F.iB0;refine⟨Kk l a c q a1 y x a4 w v E Z (abn c d Y X pre C.1 ft d1 x0) (YN c d C.2 K.1 J.1),fun ss h=>?_⟩
     cases h;intro s o;rw[alI]at o;subst o;exact⟨.inl rfl,d.b.ok,d.b.bt.mono (by have:=F.bD;omega),fun b U=>(uv U).elim (fun e=>e▸K.2) (fun e=>e▸J.2)⟩
    ·rw[apA x0]
     refine⟨Kk l a c q a1 y x a4 w v E Z (Ww c d Y X pre C.1 d1 (A8 z x0)) (MU c d C.2),fun ss h=>?_⟩
     cases h;intro s o;cases o
end
section
variable (l:Lk) (a:As) {kd i j0 j1 dr:Nat}
theorem YG(c:aa G)(d:b7 δ a.t)(Z:a.t.length≤3){A:Hd}{p q:Pt}{r n N D x V E I W U X:Nat}(F:afz r n δ a.t.length N D x V E I W U X)
  (g:LV r x a.t A) (M:lJ x a.t p) (Y:lJ x a.t q) (K:a7 a.t (lQ a.t p q)=1)
  (B:fF zZq G f202 [.ptr 0 0] (iH l ⟨kd,[i],[j0,j1],dr⟩ a) (.aY [Sa A,iX p,iX q]) (iH l ⟨kd,[i],[j0,j1],dr⟩ a)):
  fF zZq G f151 [.ptr 0 0] (iH l ⟨kd,[i],[j0,j1],dr⟩ a) (Mq (Xf a.t A p q)) (iH l ⟨kd,[i],[j0,j1],dr⟩ a)∧∀ss,Xf a.t A p q=some ss→∀s∈ss,PB N D a.t s:=by
 have hN:MB≤NB:=rl;have bN:=F.bN;have bM:=F.bM;have bX:=F.bX;have eC:=F.eC;have ew:=F.ew;have eP:=F.eP;have e1:=F.e1;have eQ:=F.eQ;have eX:=F.eX;have a1:=g.c.fit (show r≤NB by omega)
 have J:=g.p.fit (show r≤NB by omega)
 have H:=g.v.XU (show(2*r+1)+(2*r+1)+((2*r+1)+(2*r+1))+1≤NB by omega)
 have o:δ≤NB:=alJ (qZ _ _ _) d.b.sz;unfold Xf;by_cases f:A.v.sq=0
 ·rw[apB f]
  exact⟨adf l a c B a1 J H (by rw[f];decide),fun ss h=>by cases h⟩
 ·rw[apA f]
  have P:=V2.sq_pos f;obtain⟨pre,sz⟩:=ZQ c d g M Y K F.eQ F.eX F.bX F.sX F.iQ0;have O:=g.cr d.b.ok f (m:=E) (by omega) (by omega) F.bX F.sX
  have C:=sf c d.b o (by omega)
  by_cases j:a7 a.t (lX a.t A.cr p q)=1
  ·rw[apB j]
   have e:b7 (δ+E) (lT a.t A.cr p q):=X_ d sz.bx (Cz j) (by omega) F.sT F.tT
   have R:(lT a.t A.cr p q).length=a.t.length+1:=gF _;have E3:δ+E≤NB:=alJ (qZ _ _ _) F.sT;obtain⟨S,k1,k2⟩:=Nt d M sz K e F.eI F.eP F.sQ F.iQ (by omega)
   have w:=sf c e.b E3 (by rw[R];omega)
   have ex:=Lb c d o sz.bx F.bX F.sX (Cz j) Z;have z:LV r x (lT a.t A.cr p q) A:=g.up _;have u:=F.sB;have L:=F.iB;rw[←R]at u L;have v:=vM c e z f k1 F.ew F.eC F.bN F.bM u L;have Q:=vM c e z f k2 F.ew F.eC F.bN F.bM u L;refine⟨YH l a c B a1 J H P (ZP c d O pre w.1 e S ex j) (YM c e w.2 v.1 Q.1),fun ss h=>?_⟩
   cases h;intro s k;rcases uv k with rfl|rfl
   ·exact⟨.inr ⟨_,rfl⟩,e.b.ok,e.b.bt.mono F.bD,fun b y=>(alI.1 y)▸v.2⟩
   ·exact⟨.inr ⟨_,rfl⟩,e.b.ok,e.b.bt.mono F.bD,fun b y=>(alI.1 y)▸Q.2⟩
  ·rw[apA j]
   by_cases x0:a7 a.t (lX a.t A.cr p q)=0
   ·rw[apB x0]
    have u:sb δ a.t.length (4*(2*r+1)+1)≤NB:=alJ (mj _ _ (by omega)) F.sX
    obtain⟨ft,k1⟩:=Va d M sz K F.eI rfl (alJ F.eP0 (by omega))
    have v:=vM c d g f (k1.mono F.eP0) F.ew F.eC F.bN F.bM u F.iB0;refine⟨YH l a c B a1 J H P (ZR c d O pre C.1 ft x0) (YO c d C.2 v.1),fun ss h=>?_⟩
    cases h;intro s k;rw[alI]at k;subst k;exact⟨.inl rfl,d.b.ok,d.b.bt.mono (by have:=F.bD;omega),fun b y=>(alI.1 y)▸v.2⟩
   ·rw[apA x0]
    refine⟨YH l a c B a1 J H P (U' c d O pre C.1 (A8 j x0)) (YP c d C.2),fun ss h=>?_⟩
    cases h;intro s k;cases k
theorem Yd(d:aa G)(c:b7 δ a.t)(hl:a.t.length≤3){j:Jt}(J:l.js.getD j1 default=j)(R:j1<l.js.length){x:Rp}{r n N D Z nd X I B W nC Y:Nat}(F:afx r n δ a.t.length N D Z nd X I B W nC Y)
  (H:RpB r Z a.t x (nE (dP l i j.to))) (B:x.v.sq≠0)
  (A:fF zZq G f192 [.ptr 0 0,nat 0,nat i] (iH l ⟨kd,[i],[j0,j1],dr⟩ a) (.aY [x.p.AH,iX x.o]) (iH l ⟨kd,[i],[j0,j1],dr⟩ a)) (L:x.f=nE (dP l i j.on)) (E:x.q=b9 l a j.a j.p) (f1:jL l i j.on) (f2:jL l i j.to) (y:jL l j.a j.p) (w:j.a<a.bs.length) (v:xe G l a j.a j.p):
  fF zZq G f152 [.ptr 0 0] (iH l ⟨kd,[i],[j0,j1],dr⟩ a) (Mq (Xd a.t x)) (iH l ⟨kd,[i],[j0,j1],dr⟩ a)∧∀ss,Xd a.t x=some ss→∀s∈ss,PB N D a.t s:=by
 have hN:MB≤NB:=rl;have bN:=F.bN;have bN0:=F.bN0;have bM:=F.bM;have bX:=F.bX;have eC:=F.eC;have eC0:=F.eC0;have e1:=F.e1;have ed:=F.ed;have eX:=F.eX;have ez:=F.ez;have ez0:=F.ez0;have q:δ≤NB:=alJ (qZ _ _ _) c.b.sz;obtain⟨pre,sz⟩:=af8 d c H F.ed F.eX F.bX F.sX;have hcr:a7 a.t (x.d a.t)=0→a7 a.t x.h≠0→a7 a.t (x.r a.t)= -1:=fun U S=>by
  obtain⟨K,_,ι,s,P⟩:=c.b.ok.model a.t.length (alE _);have m:=c.b.ok.sh;rw[lN ι s m P sz.bd.sh,fw.ny]at U;rw[lN ι s m P sz.bh.sh]at S;have hn:=pre.n.sh;have e:vl ι s a.t (x.r a.t)= -(vl ι s a.t x.h*vl ι s a.t x.h):=by
   unfold Rp.r;rw[gP ι s (Sh.mul m hn sz.bd.sh) (Sh.mul m sz.bh.sh sz.bh.sh),dW ι s m P hn sz.bd.sh,dW ι s m P sz.bh.sh sz.bh.sh,U,zY.cO,zY.sub_def',zY.g8]
  rw[lN ι s m P sz.bx.sh,e];refine fw.xl ?_;rw[zY.Gj];exact fw.sq_pos fun hh=>S (by rw[hh];exact fw.iE)
 unfold Xd;by_cases C:a7 a.t (x.d a.t)=0∧a7 a.t x.h=0
 ·rw[apB C]
  exact⟨(tk l a d J R c A L E f1 f2 y w v pre).1 trivial C.1 C.2,fun ss h=>by cases h⟩
 ·rw[apA C]
  by_cases d0:a7 a.t (x.d a.t)=0
  ·have U:a7 a.t x.h≠0:=fun h=>C ⟨d0,h⟩
   have hr:=hcr d0 U;rw[apA (by rw[hr];decide),apA (by rw[hr];decide)]
   refine⟨((tk l a d J R c A L E f1 f2 y w v pre).2.2.1 hr d0 ?_).loose rfl,fun ss h=>?_⟩
   ·by_cases S:a7 a.t x.h=1
    ·exact .inl S
    ·exact .inr (A8 S U)
   ·cases h
    intro s g;cases g
  ·have d1:a7 a.t (x.d a.t)=1:=Oe (a:=⟨x.o,[]⟩) (b:=⟨x.q,[]⟩) c.b pre.w d0
   have ow:=sf d c.b q (by omega)
   have hI0:aQ I a.t (iS a.t a.t.length (x.d a.t)):=by rw[F.eI];exact sz.bd.inv c.b d0
   by_cases p:a7 a.t (x.r a.t)=1
   ·rw[apB p]
    have f:b7 (δ+X) (x.T a.t):=X_ c sz.bx (Cz p) (by omega) F.sT F.tT
    have eL:(x.T a.t).length=a.t.length+1:=gF _;have E3:δ+X≤NB:=alJ (qZ _ _ _) F.sT;have V:=sf d f.b E3 (by rw[eL];omega)
    have ex:=Lb d c q sz.bx F.bX F.sX (Cz p) hl;have H2:RpB r Z (x.T a.t) x (nE (dP l i j.to)):=⟨H.bp,H.bf,H.bt,H.hv,H.bo.up (x.r a.t),H.bq.up (x.r a.t)⟩;have Q:aQ I (x.T a.t) (iS (x.T a.t) (x.T a.t).length (x.d a.t)):=by rw[F.eI];exact Q_ c.b sz.bd d0 _
    have M:a7 (x.T a.t) (x.d a.t)≠0:=by
     show a7 (a.t++[bA (x.r a.t) (2^a.t.length)]) (x.d a.t)≠0;rw[P' sz.bd.sh c.b.ok.sh];exact d0
    have kr:aQ 0 (x.T a.t) (eM a.t.length):=qi (x.r a.t);have u:=F.sB;have iB:=F.iB;have k:=F.sd;have o:=F.id1;rw[←eL]at u iB k o ez;have z:=Ye (t:=a.t) d f H2 B (sz.bw.up (x.r a.t)) (sz.bd.up (x.r a.t)) (sz.bh.up (x.r a.t)) kr Q M k o ez F.eC rfl (by omega) u iB
    have p2:=Ye (t:=a.t) d f H2 B (sz.bw.up (x.r a.t)) (sz.bd.up (x.r a.t)) (sz.bh.up (x.r a.t)) kr.neg Q M k o ez F.eC rfl (by omega) u iB
    refine⟨(tk l a d J R c A L E f1 f2 y w v pre).2.2.2.2 _ f V.2 (kr.mono (by omega)) z.1 p2.1 ex p d1,fun ss h=>?_⟩
    cases h;intro s g;rcases uv g with rfl|rfl
    ·exact⟨.inr ⟨_,rfl⟩,f.b.ok,f.b.bt.mono F.bD,fun b O=>(alI.1 O)▸z.2.mono F.bN⟩
    ·exact⟨.inr ⟨_,rfl⟩,f.b.ok,f.b.bt.mono F.bD,fun b O=>(alI.1 O)▸p2.2.mono F.bN⟩
   ·rw[apA p]
    by_cases x0:a7 a.t (x.r a.t)=0
    ·rw[apB x0]
     have u:sb δ a.t.length (4*(2*r+1)+1)≤NB:=alJ (mj _ _ (by omega)) F.sX
     have z:=Ye (t:=a.t) d c H B sz.bw sz.bd sz.bh (aQ.nil 0 _) hI0 d0 (alJ (mj _ _ (by omega)) F.sX) F.id0 F.ez0 F.eC0 rfl (by omega) u F.iB0
     refine⟨(tk l a d J R c A L E f1 f2 y w v pre).2.2.2.1 ow.2 z.1 x0 d1,fun ss h=>?_⟩
     cases h;intro s g;rw[alI]at g;subst g;exact⟨.inl rfl,c.b.ok,c.b.bt.mono (by have:=F.bD;omega),fun b O=>(alI.1 O)▸z.2.mono F.bN0⟩
    ·rw[apA x0]
     refine⟨((tk l a d J R c A L E f1 f2 y w v pre).2.1 (A8 p x0) d1).loose rfl,fun ss h=>?_⟩
     cases h;intro s g;cases g
theorem Tn.szs{r:Nat}{x:Tn}(h:iA r x.t):iA (4*r+4) x.cos∧iA (4*r+4) x.sin∧(x.den≠0→4*r+4≤NB→(x.half=true→x.t=0)→abR x):=by
 have o1:iA 0 ((1:Int):Rat):=iA.int (m:=0) 1 (by decide)
 have c:iA (r+r) (x.t*x.t):=h.mul h;have e:iA (2*r+1) x.den:=(o1.add c).mono (by omega)
 have d:iA (2*r+1) (((1:Int):Rat)-x.t*x.t):=(o1.sub c).mono (by omega)
 have hm:iA (2*r+1) (x.t+x.t):=(h.add h).mono (by omega)
 have f:∀{p:Rat},iA (2*r+1) p→iA (4*r+4) (p/x.den):=fun{p} g=>by
  by_cases b:x.den=0
  ·rw[b,aoO,apw,apx];exact iA.zero _
  ·rw[aoO];exact(g.mul (e.inv b)).mono (by omega)
 refine⟨?_,?_,fun b k j=>⟨h.qk (by omega),j,c.qk (by omega),e.qk (by omega),b,d.qk (by omega),hm.qk (by omega)⟩⟩
 ·unfold Tn.cos
  split
  ·exact(iA.int (m:=0) (-1) (by decide)).mono (by omega)
  ·exact f d
 ·unfold Tn.sin
  split
  ·exact iA.zero _
  ·exact f hm
theorem Tn.AG(x:Tn):x.den≠0:=by
 intro h;have d:fw.nn (x.t*x.t):=fw.qX x.t;have c:fw.pos (((1:Int):Rat)):=fw.jM;have b:=fw.Ae c d;have e:((1:Int):Rat)+x.t*x.t=0:=h;rw[e]at b;exact fw.kD b
structure ab7(r n δ k N:Nat):Prop where
 sB:sb δ k 1≤NB
 iB:ib δ k 1≤MB
 bN:8*r+8+1+2+2*r+2+(n+r+r+2)≤N
 bM:N≤MB
theorem VM(f:aa G)(c:b7 δ a.t)(z:a.t.length≤4){b j d r n N D:Nat}{x:Tn}(v:iA r x.t)(A:x.half=true→x.t=0)(F:ab7 r n δ a.t.length N)(C:δ≤D)(w:V2.B r (nE (kE l ⟨kd,[b],[j],d⟩ 0 b)))(y:lJ (n+r+r+2) a.t (jG l ⟨kd,[b],[j],d⟩ a 0 b))
  (q:fF zZq G f192 [.ptr 0 0,nat 0,nat b] (iH l ⟨kd,[b],[j],d⟩ a) (.aY [(nE (kE l ⟨kd,[b],[j],d⟩ 0 b)).AH,iX (jG l ⟨kd,[b],[j],d⟩ a 0 b)]) (iH l ⟨kd,[b],[j],d⟩ a)):
  fF zZq G f149 [.ptr 0 0,EF x] (iH l ⟨kd,[b],[j],d⟩ a) (Mq (Lj l a ⟨kd,[b],[j],d⟩ b x)) (iH l ⟨kd,[b],[j],d⟩ a)∧∀ss,Lj l a ⟨kd,[b],[j],d⟩ b x=some ss→∀s∈ss,PB N D a.t s:=by
 have H:MB≤NB:=rl;have I:=F.bN;have J:=F.bM;obtain⟨o,e,u⟩:=Tn.szs v;have ok:=u x.AG (by omega) A
 have g:δ≤NB:=alJ (qZ _ _ _) c.b.sz;have hu:V2.B 0 ⟨((1:Int):Rat),0⟩:=⟨iA.int (m:=0) 1 (by decide),iA.zero 0⟩
 have p:V2.sq ⟨((1:Int):Rat),0⟩≠0:=by decide+kernel
 obtain⟨E,bl⟩:=LC f c hu w p (o.pt e a.t) y rfl rfl (by omega) F.sB F.iB
 have k:vr N a.t (G1 l a ⟨kd,[b],[j],d⟩ b x.cos x.sin):=vr.mono bl (by omega)
 refine⟨(aa2 f l a c (o.qk (by omega)) (e.qk (by omega)) (aj3 f ok) (aj1 f ok) q E (sf f c.b g z).2).loose rfl,fun ss h=>?_⟩
 cases h;intro s e;rw[alI]at e;subst e;exact⟨.inl rfl,c.b.ok,c.b.bt.mono C,fun b B=>(alI.1 B)▸k⟩
end
end Tw
end Lw
