/- Part 1. -/
import Derived.Test.YtmcpfihkambgnaaGreatLw00
import Derived.Orders
import Derived.Below
import Derived.Laws.CopyRow
import Derived.Laws.Rows
import Derived.Laws.Tables
import Derived.Laws.Cells
import Derived.Laws.AppendOwn
import Derived.Great.Frames
import GoSem.Dispatch
import Derived.Laws.Entries
import Derived.Great.FillDense
import Derived.Great.BuildSlice
import Derived.Laws.NewFold
import Derived.ChangeKeysEq
import Derived.Laws.MakeOwn
open Int renaming ofNat→zNq
open Option renaming some.injEq→zIq
open Prod renaming mk.injEq→zJq
open Bool renaming and_eq_true→zLq
namespace Lw
open Go Go.RowKit
inductive D where
 |any
 |lit (v:Value)
 |row (len:Nat) (full:Bool) (xs:List D)
 |agg (xs:List D)
 |aY (xs:List D)
 |aV (xs:List D)
 |ptr (b off:Nat)
 |bz (b off len cap:Nat)
 |cR (b n size:Nat)
 |fn (f:FuncId) (first vi:List D)
 deriving Inhabited
inductive cU(w:World)(X:Nat→Prop):Value→D→Prop
 |any (v:Value):cU w X v .any
 |lit (v:Value):cU w X v (.lit v)
 |row (a:Option Addr) (len cap:Nat) (full:Bool) (us:List Value) (xs:List D)
   (hl:us.length=xs.length) (hlen:len≤cap) (Ey:cap≤maxLen) (hf:full=true→cap=len)
   (hm:∀i(h:i<us.length),∃a',a=some a'∧¬X a'.block∧w.cell? (a'.add i)=some us[i])
   (hr:∀i(h:i<us.length)(h':i<xs.length),cU w X us[i] xs[i]):cU w X (.slice a len cap) (.row len full xs)
 |aV (a:Addr) (us:List Value) (xs:List D) (hl:us.length=xs.length)
   (hm:∀i(h:i<us.length),¬X a.block∧w.cell? (a.add i)=some us[i])
   (hr:∀i(h:i<us.length)(h':i<xs.length),cU w X us[i] xs[i]):cU w X (.pointer (some a)) (.aV xs)
 |agg (us:List Value) (xs:List D) (hl:us.length=xs.length)
   (hr:∀i(h:i<us.length)(h':i<xs.length),cU w X us[i] xs[i]):cU w X (.agg us.toArray) (.agg xs)
 |aY (us:List Value) (xs:List D) (hl:us.length=xs.length)
   (hr:∀i(h:i<us.length)(h':i<xs.length),cU w X us[i] xs[i]):cU w X (.tuple us.toArray) (.aY xs)
 |fn (f:FuncId) (us dD:List Value) (xs Iv:List D) (hl:us.length=xs.length) (Jp:dD.length=Iv.length)
   (hr:∀i(h:i<us.length)(h':i<xs.length),cU w X us[i] xs[i]) (uH:∀i(h:i<dD.length)(h':i<Iv.length),cU w X dD[i] Iv[i]):
   cU w X (.func (.func f) us.toArray dD.toArray) (.fn f xs Iv)
theorem apK:(2:Nat)^43=8796093022208:=by decide
theorem apJ:(2:Nat)^44=17592186044416:=by decide
theorem apI:(2:Nat)^45=35184372088832:=by decide
theorem apM:(2:Nat)^47=140737488355328:=by decide
theorem apO:(2:Nat)^59=576460752303423488:=by decide
theorem apH:(2:Nat)^60=1152921504606846976:=by decide
theorem apN:(2:Nat)^62=4611686018427387904:=by decide
theorem cU.mono{w w':World}{X X':Nat→Prop}(h:∀a u,w.cell? a=some u→¬X a.block→w'.cell? a=some u∧¬X' a.block)
  {v:Value} {d:D} (q:cU w X v d):cU w' X' v d:=by
 induction q with
 |any v=>exact .any v
 |lit v=>exact .lit v
 |row a len cap full us xs e hlen y r hm _ b=>
  refine .row a len cap full us xs e hlen y r (fun i m=>?_) b
  obtain⟨j,t,l,p⟩:=hm i m;have g:(j.add i).block=j.block:=by unfold Addr.add;split<;>rfl
  have:=h (j.add i) _ p (by rw[g];exact l)
  exact⟨j,t,by rw[g]at this;exact this.2,this.1⟩
 |aV a us xs e hm _ b=>
  refine .aV a us xs e (fun i m=>?_) b
  obtain⟨l,p⟩:=hm i m;have g:(a.add i).block=a.block:=by unfold Addr.add;split<;>rfl
  have:=h (a.add i) _ p (by rw[g];exact l)
  exact⟨by rw[g]at this;exact this.2,this.1⟩
 |agg us xs e _ b=>exact .agg us xs e b
 |aY us xs e _ b=>exact .aY us xs e b
 |fn f us dD xs Iv e x _ _ b k=>exact .fn f us dD xs Iv e x b k
def a9(w:World)(X:Nat→Prop)(us:List Value)(xs:List D):Prop:=
 us.length=xs.length∧∀i(h:i<us.length)(b:i<xs.length),cU w X us[i] xs[i]
theorem a9.nil{w:World}{X:Nat→Prop}:a9 w X [] []:=⟨rfl,fun i h=>apC h (by simp)⟩
theorem a9.cons{w:World}{X:Nat→Prop}{u:Value}{x:D}{us:List Value}{xs:List D}(h:cU w X u x)(b:a9 w X us xs):a9 w X (u::us) (x::xs):=by
 refine⟨by simp[b.1],fun i e d=>?_⟩
 cases i with
 |zero=>exact h
 |succ i=>exact b.2 i (by simpa using e) (by simpa using d)
theorem a9.head{w:World}{X:Nat→Prop}{u:Value}{x:D}{us:List Value}{xs:List D}(h:a9 w X (u::us) (x::xs)):cU w X u x:=h.2 0 (by simp) (by simp)
theorem a9.tail{w:World}{X:Nat→Prop}{u:Value}{x:D}{us:List Value}{xs:List D}(h:a9 w X (u::us) (x::xs)):a9 w X us xs:=
 ⟨by simpa using h.1,fun i d b=>by have:=h.2 (i+1) (by simpa using d) (by simpa using b);simpa using this⟩
theorem a9.mono{w w':World}{X X':Nat→Prop}(h:∀a u,w.cell? a=some u→¬X a.block→w'.cell? a=some u∧¬X' a.block)
  {us:List Value} {xs:List D} (b:a9 w X us xs):a9 w' X' us xs:=⟨b.1,fun i e d=>(b.2 i e d).mono h⟩
theorem a9.append{w:World}{X:Nat→Prop}{us dD:List Value}{xs Iv:List D}(h:a9 w X us xs)(d:a9 w X dD Iv):a9 w X (us++dD) (xs++Iv):=by
 refine⟨by simp[h.1,d.1],fun i g j=>?_⟩
 by_cases b:i<us.length
 ·rw[anQ b,anQ (by rw[←h.1];exact b)];exact h.2 i b (by rw[←h.1];exact b)
 ·rw[anM (by omega),anM (by rw[←h.1];omega)]
  have e:i-xs.length=i-us.length:=by rw[h.1]
  have f:i-us.length<dD.length:=by simp at g;omega
  have:=d.2 (i-us.length) f (by rw[←d.1];exact f)
  simp only[e];exact this
theorem a9.drop{w:World}{X:Nat→Prop}{us:List Value}{xs:List D}(h:a9 w X us xs)(n:Nat):a9 w X (us.drop n) (xs.drop n):=by
 refine⟨by simp[h.1],fun i d b=>?_⟩
 rw[anT,anT];exact h.2 _ (by simp at d;omega) (by simp at b;omega)
theorem a9.take{w:World}{X:Nat→Prop}{us:List Value}{xs:List D}(h:a9 w X us xs)(n:Nat):a9 w X (us.take n) (xs.take n):=by
 refine⟨by simp[h.1],fun i d b=>?_⟩
 rw[anU,anU];exact h.2 _ (by simp at d;omega) (by simp at b;omega)
def LQ(Q:Value→D→Prop)(us:List Value)(xs:List D):Prop:=us.length=xs.length∧∀i(h:i<us.length)(b:i<xs.length),Q us[i] xs[i]
section
variable {Q Q':Value→D→Prop} {us dD:List Value} {xs Iv:List D}
theorem LQ.nil:LQ Q [] []:=⟨rfl,fun i h=>apC h (by simp)⟩
theorem LQ.cons{u:Value}{x:D}(h:Q u x)(b:LQ Q us xs):LQ Q (u::us) (x::xs):=by
 refine⟨by simp[b.1],fun i e d=>?_⟩
 cases i with
 |zero=>exact h
 |succ i=>exact b.2 i (by simpa using e) (by simpa using d)
theorem LQ.mono(h:LQ Q us xs)(d:∀u x,x∈xs→Q u x→Q' u x):LQ Q' us xs:=⟨h.1,fun i e b=>d _ _ (al2 b) (h.2 i e b)⟩
theorem LQ.append(h:LQ Q us xs)(d:LQ Q dD Iv):LQ Q (us++dD) (xs++Iv):=by
 refine⟨by simp[h.1,d.1],fun i g j=>?_⟩
 by_cases b:i<us.length
 ·rw[anQ b,anQ (by rw[←h.1];exact b)];exact h.2 i b (by rw[←h.1];exact b)
 ·rw[anM (by omega),anM (by rw[←h.1];omega)]
  have e:i-xs.length=i-us.length:=by rw[h.1]
  have f:i-us.length<dD.length:=by simp at g;omega
  have:=d.2 (i-us.length) f (by rw[←d.1];exact f)
  simp only[e];exact this
theorem LQ.drop(h:LQ Q us xs)(n:Nat):LQ Q (us.drop n) (xs.drop n):=by
 refine⟨by simp[h.1],fun i d b=>?_⟩
 rw[anT,anT];exact h.2 _ (by simp at d;omega) (by simp at b;omega)
theorem LQ.take(h:LQ Q us xs)(n:Nat):LQ Q (us.take n) (xs.take n):=by
 refine⟨by simp[h.1],fun i d b=>?_⟩
 rw[anU,anU];exact h.2 _ (by simp at d;omega) (by simp at b;omega)
theorem LQ.vF(h:LQ Q us xs):LQ Q (us.take xs.length) xs:=by rw[←h.1,ank];exact h
theorem LQ.map{f:D→D}(h:LQ Q us xs)(d:∀u x,x∈xs→Q u x→Q' u (f x)):LQ Q' us (xs.map f):=
 ⟨by simp[h.1],fun i g e=>by
  have b:i<xs.length:=by simpa using e
  rw[amg];exact d _ _ (al2 b) (h.2 i g b)⟩
end
inductive cu(β:Nat→Nat)(w:World)(X:Nat→Prop):Value→D→Prop
 |p {v:Value} {d:D} (h:cU w X v d):cu β w X v d
 |ptr (b off:Nat):cu β w X (.pointer (some ⟨β b,off,none⟩)) (.ptr b off)
 |bz (b off len cap:Nat) (h1:len≤cap) (h2:cap≤maxLen):cu β w X (.slice (some ⟨β b,off,none⟩) len cap) (.bz b off len cap)
 |cR (b n size cap:Nat) (e:TypeId) (h1:n≤cap) (h2:cap≤maxLen) (h3:w.shape? (β b)=some (e,cap*size)):cu β w X (.slice (some ⟨β b,0,none⟩) n cap) (.cR b n size)
def Dx(w w':World):Prop:=∀k b,w.shape? k=some b→w'.shape? k=some b
theorem cu.mono{β:Nat→Nat}{w w':World}{X X':Nat→Prop}(h:∀a u,w.cell? a=some u→¬X a.block→w'.cell? a=some u∧¬X' a.block)(i:Dx w w')
  {v:Value} {d:D} (j:cu β w X v d):cu β w' X' v d:=by
 cases j with
 |p k=>exact .p (k.mono h)
 |ptr b off=>exact .ptr b off
 |bz b off len cap g f=>exact .bz b off len cap g f
 |cR b n size cap e g f l=>exact .cR b n size cap e g f (i _ _ l)
def D.ref:D→Option Nat
 |.ptr b _=>some b
 |.bz b _ _ _=>some b
 |.cR b _ _=>some b
 |_=>none
def D.refs:D→List Nat
 |.agg xs=>xs.filterMap D.ref
 |.aY xs=>xs.filterMap D.ref
 |.ptr b _=>[b]
 |.bz b _ _ _=>[b]
 |.cR b _ _=>[b]
 |_=>[]
theorem cu.pure{β:Nat→Nat}{w:World}{X:Nat→Prop}{v:Value}{d:D}(h:cu β w X v d)(b:d.ref=none):cU w X v d:=by
 cases h with
 |p h=>exact h
 |ptr=>simp[D.ref]at b
 |bz=>simp[D.ref]at b
 |cR=>simp[D.ref]at b
theorem cu.congr{β j:Nat→Nat}{w:World}{X:Nat→Prop}{v:Value}{d:D}(h:cu β w X v d)(f:∀b,d.ref=some b→j b=β b):cu j w X v d:=by
 cases h with
 |p h=>exact .p h
 |ptr b off=>rw[←f b rfl];exact .ptr b off
 |bz b off len cap i g=>rw[←f b rfl];exact .bz b off len cap i g
 |cR b n size cap e i g k=>rw[←f b rfl];exact .cR b n size cap e i g (by rw[f b rfl];exact k)
inductive cW(β:Nat→Nat)(w:World)(X:Nat→Prop):Value→D→Prop
 |c {v:Value} {d:D} (h:cu β w X v d):cW β w X v d
 |agg (us:List Value) (xs:List D) (h:LQ (cu β w X) us xs):cW β w X (.agg us.toArray) (.agg xs)
 |aY (us:List Value) (xs:List D) (h:LQ (cu β w X) us xs):cW β w X (.tuple us.toArray) (.aY xs)
theorem rC{d:D}{b:Nat}(h:d.ref=some b):b∈d.refs:=by
 cases d<;>simp[D.ref]at h<;>simp[D.refs,h]
theorem Yp{d:D}{b:Nat}(h:d.ref=some b):d.refs=[b]:=by
 cases d<;>simp[D.ref]at h<;>simp[D.refs,h]
theorem UI{d:D}(h:∀xs,d≠.agg xs)(b:∀xs,d≠.aY xs):d.refs=d.ref.toList:=by
 cases d<;>first|rfl|exact apC rfl (h _)|exact apC rfl (b _)
theorem jk{w:World}{X:Nat→Prop}{v:Value}{d:D}(b:cU w X v d):d.ref=none:=by cases b<;>rfl
theorem LQ.pure{β:Nat→Nat}{w:World}{X:Nat→Prop}{us:List Value}{xs:List D}(h:LQ (cu β w X) us xs)(e:∀d∈xs,d.ref=none):a9 w X us xs:=
 ⟨h.1,fun i f b=>(h.2 i f b).pure (e _ (al2 b))⟩
theorem a9.lq{β:Nat→Nat}{w:World}{X:Nat→Prop}{us:List Value}{xs:List D}(h:a9 w X us xs):LQ (cu β w X) us xs:=⟨h.1,fun i d b=>.p (h.2 i d b)⟩
theorem filterMap_nil{xs:List D}(h:xs.filterMap D.ref=[]):∀d∈xs,d.ref=none:=by
 intro d f;cases e:d.ref with
 |none=>rfl
 |some b=>
  have:b∈xs.filterMap D.ref:=amh.2 ⟨d,f,e⟩;rw[h]at this;cases this
theorem cW.pure{β:Nat→Nat}{w:World}{X:Nat→Prop}{v:Value}{d:D}(h:cW β w X v d)(e:d.refs=[]):cU w X v d:=by
 cases h with
 |c h=>
  refine h.pure ?_;cases f:d.ref with
  |none=>rfl
  |some b=>rw[Yp f]at e;cases e
 |agg us xs h=>have:=h.pure (filterMap_nil e);exact .agg us xs this.1 this.2
 |aY us xs h=>have:=h.pure (filterMap_nil e);exact .aY us xs this.1 this.2
theorem cW.mono{β:Nat→Nat}{w w':World}{X X':Nat→Prop}(h:∀a u,w.cell? a=some u→¬X a.block→w'.cell? a=some u∧¬X' a.block)(b:Dx w w')
  {v:Value} {d:D} (g:cW β w X v d):cW β w' X' v d:=by
 cases g with
 |c i=>exact .c (i.mono h b)
 |agg us xs f=>exact .agg us xs (f.mono fun u x _ e=>e.mono h b)
 |aY us xs f=>exact .aY us xs (f.mono fun u x _ e=>e.mono h b)
theorem cW.congr{β j:Nat→Nat}{w:World}{X:Nat→Prop}{v:Value}{d:D}(h:cW β w X v d)(i:∀b∈d.refs,j b=β b):cW j w X v d:=by
 cases h with
 |c h=>exact .c (h.congr fun b e=>i b (rC e))
 |agg us xs h=>exact .agg us xs (h.mono fun u x f g=>g.congr fun b e=>i b (amh.2 ⟨x,f,e⟩))
 |aY us xs h=>exact .aY us xs (h.mono fun u x f g=>g.congr fun b e=>i b (amh.2 ⟨x,f,e⟩))
theorem cW.cell{β:Nat→Nat}{w:World}{X:Nat→Prop}{v:Value}{d:D}(h:cW β w X v d)(e:∀xs,d≠.agg xs)(b:∀xs,d≠.aY xs):cu β w X v d:=by
 cases h with
 |c h=>exact h
 |agg us xs=>exact apC rfl (e xs)
 |aY us xs=>exact apC rfl (b xs)
structure FSt where
 tmp:Nat→D
 blk:Nat→Option (List D)
 b_:Nat→Bool
structure Ctx where
 P:Program
 Good:World→Prop
 F:Nat→Prop
 w0:World
 gh:List (Value×D)
 gb:Nat
 rd:Option Nat
 dfs:List Deferred
 nc:Nat→Option Obj
 ns:Nat
 kp:Nat→Option Obj
 kx:Nat→Prop
structure HJ(c:Ctx)(w:World):Prop where
 uJ:Below c.w0.heap.size c.w0 w
 nc:∀k o,c.nc k=some o→(∀us e fr,o≠.cells us e fr)→w.heap[k]? =some o
 sz:c.ns≤w.heap.size
theorem HJ.grow{c:Ctx}{w w':World}(h:HJ c w)(b:Below w.heap.size w w'):HJ c w':=
 ⟨h.uJ.trans (b.mono h.uJ.size),fun k o e d=>by
  have:=h.nc k o e d;rw[b.block k (amE.1 this).1];exact this,alJ h.sz b.size⟩
structure n9(c:Ctx)(s:FSt)(w:World)(β:Nat→Nat)(X:Nat→Prop):Prop where
 obj:∀k o,c.kp k=some o→w.heap[k]? =some o
 x:∀k,c.kx k→X k
 lt:∀k,c.kx k→k<w.heap.size
 off:∀k,(c.kp k).isSome=true∨c.kx k→∀b,(s.blk b).isSome=true→β b≠k
theorem n9.none{c:Ctx}{s:FSt}{w:World}{β:Nat→Nat}{X:Nat→Prop}(f:c.kp=fun _=>Option.none)(e:c.kx=fun _=>False):n9 c s w β X:=by
 have d:∀k,c.kp k=Option.none:=fun k=>by rw[f]
 have b:∀k,¬c.kx k:=fun k h=>by rw[e]at h;exact h
 refine⟨fun k o h=>?_,fun k h=>(b k h).elim,fun k h=>(b k h).elim,fun k h=>?_⟩
 ·rw[d]at h;cases h
 ·rcases h with h|h
  ·rw[d]at h;cases h
  ·exact(b k h).elim
theorem n9.grow{c:Ctx}{s:FSt}{w w':World}{β:Nat→Nat}{X:Nat→Prop}(h:n9 c s w β X)(d:Below w.heap.size w w'):n9 c s w' β X:=
 ⟨fun k o b=>by have:=h.obj k o b;rw[d.block k (amE.1 this).1];exact this,h.x,fun k b=>ami (h.lt k b) d.size,h.off⟩
theorem n9.sub{c:Ctx}{s s':FSt}{w:World}{β:Nat→Nat}{X:Nat→Prop}(h:n9 c s w β X)(d:∀b,(s'.blk b).isSome=true→(s.blk b).isSome=true):n9 c s' w β X:=
 ⟨h.obj,h.x,h.lt,fun k e b f=>h.off k e b (d b f)⟩
theorem n9.below{c:Ctx}{s:FSt}{w:World}{β:Nat→Nat}{X:Nat→Prop}(h:n9 c s w β X){k:Nat}(b:(c.kp k).isSome=true∨c.kx k):k<w.heap.size:=by
 rcases b with b|b
 ·obtain⟨o,d⟩:=alL.1 b
  exact(amE.1 (h.obj k o d)).1
 ·exact h.lt k b
structure dk(c:Ctx)(n:Nat)(s:FSt)(a:Act)(w:World)(β:Nat→Nat)(X:Nat→Prop):Prop where
 defers:a.defers=c.dfs
 size:a.tmps.size=n
 tmp:∀t,cW β w X (a.tmps.getD t undef) (s.tmp t)
 nd:∀t b,b∈(s.tmp t).refs→(s.blk b).isSome=true
 blk:∀b cs,s.blk b=some cs→c.w0.heap.size≤β b∧X (β b)∧∃us e,w.heap[β b]? =some (.cells us e (0,0))∧cs.length≤us.size∧LQ (cu β w X) (us.toList.take cs.length) cs
 tB:∀b cs,s.blk b=some cs→∀d∈cs,∀b',d.ref=some b'→s.b_ b=true∧(s.blk b').isSome=true
 inj:∀b b',(s.blk b).isSome=true→(s.blk b').isSome=true→β b=β b'→b=b'
 F:∀k,c.F k→X k
 vt:∀k,c.F k→k<c.w0.heap.size
 oE:∀k,X k→k<w.heap.size
 below:HJ c w
 gh:∀p∈c.gh,cW β w X p.1 p.2
 iY:∀p∈c.gh,∀b,b∈p.2.refs→b<c.gb∧(s.blk b).isSome=true
 kp:n9 c s w β X
def Rel(c:Ctx)(n:Nat)(s:FSt)(a:Act)(w:World):Prop:=∃β X,dk c n s a w β X
def aa(Good:World→Prop):Prop:=∀w b,Below w.heap.size w b→Good w→Good b
def Spec(P:Program)(Good:World→Prop)(f:FuncId)(args:List D)(r:D):Prop:=
 ∀(w:World)(F:Nat→Prop)(vals:List Value),Good w→a9 w F vals args→(∀k,F k→k<w.heap.size)→
  Calls P f vals.toArray w fun e b=>∃v,e=.returned v∧cU b F v r∧Below w.heap.size w b∧Good b
def zX(P:Program)(Good:World→Prop)(f:FuncId)(args:List D)(n:Nat)(cs:List D):Prop:=
 ∀(w:World)(F:Nat→Prop)(vals:List Value),Good w→a9 w F vals args→(∀k,F k→k<w.heap.size)→
  Calls P f vals.toArray w fun e b=>∃k us ty,e=.returned (.slice (some ⟨k,0,none⟩) n n)∧n≤maxLen∧w.heap.size≤k∧b.heap[k]? =some (.cells us ty (0,0))∧cs.length≤us.size∧
   a9 b (fun j=>F j∨j=k) (us.toList.take cs.length) cs∧Below w.heap.size w b∧Good b
def iz(P:Program)(Good:World→Prop)(f:FuncId)(args:List D)(r:D):Prop:=
 ∀(w:World)(vals:List Value),Good w→a9 w (fun _=>False) vals args→
  Calls P f vals.toArray w fun e b=>∃v,e=.returned v∧cU b (fun k=>k<w.heap.size) v r∧Below w.heap.size w b∧Good b
theorem Addr.block_add(a:Addr)(n:Nat):(a.add n).block=a.block:=by unfold Addr.add;split<;>rfl
theorem Addr.add_add(a:Addr)(m n:Nat):(a.add m).add n=a.add (m+n):=by
 unfold Addr.add;by_cases hm:m=0
 ·subst hm;simp
 ·by_cases b:n=0
  ·subst b;simp[hm]
  ·simp[hm,b];omega
theorem Addr.jr(b o n:Nat):(⟨b,o,none⟩:Addr).add n=⟨b,o+n,none⟩:=by
 unfold Addr.add;split<;>simp_all
theorem zf{w:World}{a:Addr}{u:Value}(h:w.cell? a=some u):a.block<w.heap.size:=World.block_lt_of_cell? w a h
theorem iG{w w':World}{X:Nat→Prop}(d:Below w.heap.size w w'):
  ∀a u,w.cell? a=some u→¬X a.block→w'.cell? a=some u∧¬X a.block:=fun a u h b=>by
 have:=d.cell (p:=a) (zf h);exact⟨by rw[this];exact h,b⟩
theorem wQ{w w':World}{X:Nat→Prop}(e:Below w.heap.size w w'){k:Nat}(f:w.heap.size≤k):
  ∀a u,w.cell? a=some u→¬X a.block→w'.cell? a=some u∧¬(X a.block∨a.block=k):=fun a u h b=>by
 have g:=zf h;refine⟨(iG (X:=X) e a u h b).1,?_⟩;rintro(d|d)
 ·exact b d
 ·omega
theorem dk.l7{c:Ctx}{n:Nat}{s:FSt}{a:Act}{w:World}{β:Nat→Nat}{X:Nat→Prop}(h:dk c n s a w β X)(b:aa c.Good)(d:c.Good c.w0):c.Good w:=b _ _ h.below.uJ d
theorem cY{w:World}{k:Nat}{us:Array Value}{e:TypeId}{b:Nat×Nat}(h:w.heap[k]? =some (.cells us e b)):w.shape? k=some (e,us.size):=by
 simp[World.shape?,h]
theorem jW{w:World}{k:Nat}{e:TypeId}{m:Nat}(h:w.shape? k=some (e,m)):∃us b,w.heap[k]? =some (.cells us e b)∧us.size=m:=by
 unfold World.shape? at h;split at h
 ·rename_i us f b d
  cases h;exact⟨us,b,d,rfl⟩
 ·cases h
theorem mi{w w':World}(f:Below w.heap.size w w'):Dx w w':=fun k d h=>by
 obtain⟨e,m⟩:=d;obtain⟨us,g,b,rfl⟩:=jW h;have:=f.block k (amE.1 b).1;rw[b]at this;exact cY this
theorem HS{w:World}{g:Nat}{us dD:Array Value}{e:TypeId}(hu:w.heap[g]? =some (.cells us e (0,0)))(i:dD.size=us.size):Dx w (w.setRow g dD):=fun k f h=>by
 obtain⟨l,m⟩:=f;obtain⟨p,j,d,rfl⟩:=jW h;by_cases b:k=g
 ·subst b
  rw[hu]at d;cases d;have:=setRow_heap w k us dD e (0,0) hu;rw[cY this,i]
 ·have:=setRow_other w g k dD b
  rw[d]at this;exact cY this
theorem dk.grow{c:Ctx}{n:Nat}{s:FSt}{a:Act}{w w':World}{β:Nat→Nat}{X:Nat→Prop}(h:dk c n s a w β X)
  (d:Below w.heap.size w w'):dk c n s a w' β X where
 defers:=h.defers
 size:=h.size
 tmp:=fun t=>(h.tmp t).mono (iG d) (mi d)
 nd:=h.nd
 blk:=fun b cs g=>by
  obtain⟨v,r,us,e,f,q,m⟩:=h.blk b cs g;refine⟨v,r,us,e,?_,q,m.mono fun u x _ i=>i.mono (iG d) (mi d)⟩
  rw[d.block (β b) (amE.1 f).1];exact f
 tB:=h.tB
 inj:=h.inj
 F:=h.F
 vt:=h.vt
 oE:=fun k l=>ami (h.oE k l) d.size
 below:=h.below.grow d
 gh:=fun p j=>(h.gh p j).mono (iG d) (mi d)
 iY:=h.iY
 kp:=h.kp.grow d
theorem um{a:Act}{k:Nat}{v:Value}(h:k<a.tmps.size):(a.put (some k) v).tmps.getD k undef=v:=by
 have:=Act.eval_put_same a k v h;simpa [Act.eval]using this
theorem Ks{a:Act}{k:Nat}{v:Value}(h:¬k<a.tmps.size):(a.put (some k) v)=a:=by
 cases a;simp[Act.put,Array.setIfInBounds,h]
theorem j6{a:Act}{k t:Nat}{v:Value}(h:k≠t):(a.put (some k) v).tmps.getD t undef=a.tmps.getD t undef:=by
 have:=Act.eval_put_ne a k t v h;simpa [Act.eval]using this
def FSt.put(s:FSt)(n:Nat)(dst:Option Tmp)(d:D):FSt where
 tmp:=fun t=>if dst=some t∧t<n then d else s.tmp t
 blk:=s.blk
 b_:=s.b_
theorem dk.put{c:Ctx}{n:Nat}{s:FSt}{a:Act}{w:World}{β:Nat→Nat}{X:Nat→Prop}(h:dk c n s a w β X)
  {dst:Option Tmp} {v:Value} {d:D} (j:cW β w X v d) (m:∀b∈d.refs,(s.blk b).isSome=true):
  dk c n (s.put n dst d) (a.put dst v) w β X where
 defers:=by rw[Act.defers_put'];exact h.defers
 size:=by rw[Act.size_put];exact h.size
 tmp:=fun t=>by
  show cW β w X _ (if dst=some t∧t<n then d else s.tmp t)
  cases dst with
  |none=>rw[apA (by simp)];exact h.tmp t
  |some k=>
   by_cases g:k=t
   ·subst g
    by_cases e:k<n
    ·rw[apB ⟨rfl,e⟩,um (by rw[h.size];exact e)];exact j
    ·rw[apA (by rintro⟨_,q⟩;exact e q),Ks (by rw[h.size];exact e)];exact h.tmp k
   ·rw[apA (by rintro⟨r,_⟩;exact g (amq r)),j6 g];exact h.tmp t
 nd:=fun t b l=>by
  have f:b∈(if dst=some t∧t<n then d else s.tmp t).refs:=l
  by_cases i:dst=some t∧t<n
  ·rw[apB i]at f;exact m b f
  ·rw[apA i]at f;exact h.nd t b f
 blk:=h.blk
 tB:=h.tB
 inj:=h.inj
 F:=h.F
 vt:=h.vt
 oE:=h.oE
 below:=h.below
 gh:=h.gh
 iY:=h.iY
 kp:=h.kp.sub fun _ p=>p
theorem Rel.weaken{c:Ctx}{n:Nat}{s s':FSt}{a:Act}{w:World}(h:Rel c n s a w)
  (v:∀t,s'.tmp t=.any∨s'.tmp t=s.tmp t) (y:∀b,s'.blk b=none∨s'.blk b=s.blk b) (E:∀b,s.b_ b=true→s'.b_ b=true)
  (C:∀t b,b∈(s'.tmp t).refs→(s'.blk b).isSome=true) (q:∀b cs,s'.blk b=some cs→s.b_ b=true→∀d∈cs,∀g,d.ref=some g→(s'.blk g).isSome=true)
  (u:∀b,b<c.gb→s'.blk b=s.blk b):Rel c n s' a w:=by
 obtain⟨β,X,h⟩:=h;have back:∀b cs,s'.blk b=some cs→s.blk b=some cs:=fun b cs f=>by
  rcases y b with e|e
  ·rw[e]at f;cases f
  ·rw[←e];exact f
 refine⟨β,X,h.defers,h.size,fun t=>?_,C,fun b cs f=>h.blk b cs (back b cs f),fun b cs f d r g e=>?_,fun b g i k=>?_,h.F,h.vt,h.oE,h.below,h.gh,fun p x b j=>?_,h.kp.sub fun b B=>by
   obtain⟨m,l⟩:=alL.1 B;rw[back b m l];rfl⟩
 ·rcases v t with e|e
  ·rw[e];exact .c (.p (.any _))
  ·rw[e];exact h.tmp t
 ·have:=(h.tB b cs (back b cs f) d r g e).1
  exact⟨E b this,q b cs f this d r g e⟩
 ·obtain⟨m,l⟩:=alL.1 i
  obtain⟨A,z⟩:=alL.1 k;exact h.inj b g (by rw[back b m l];rfl) (by rw[back g A z];rfl)
 ·obtain⟨i,k⟩:=h.iY p x b j
  exact⟨i,by rw[u b i];exact k⟩
def FSt.bS(s:FSt)(b:Nat)(cs:Option (List D))(d:Bool):FSt where
 tmp:=s.tmp
 blk:=fun k=>if k=b then cs else s.blk k
 b_:=fun k=>s.b_ k||(d&&(k==b))
theorem KN{s:FSt}{b:Nat}{cs:Option (List D)}{d:Bool}{k:Nat}(h:s.b_ k=true):(s.bS b cs d).b_ k=true:=by
 show(s.b_ k||_)=true
 rw[h];rfl
theorem Zn{s:FSt}{b:Nat}{cs:Option (List D)}{d:Bool}(h:(s.b_ b||d)=true):(s.bS b cs d).b_ b=true:=by
 show(s.b_ b||(d&&(b==b)))=true
 simpa using h
theorem n9.add{c:Ctx}{s:FSt}{w w':World}{β:Nat→Nat}{X:Nat→Prop}(h:n9 c s w β X)(b:Nat)(cs:List D)(l:Bool){g:Nat}(m:w.heap.size≤g)(j:Below w.heap.size w w'):
  n9 c (s.bS b (some cs) l) w' (fun k=>if k=b then g else β k) (fun k=>X k∨k=g):=
 ⟨(h.grow j).obj,fun k d=>.inl (h.x k d),(h.grow j).lt,fun k d f p=>by
  by_cases e:f=b
  ·rw[apB e]
   have:=h.below d;omega
  ·rw[apA e]
   have i:(if f=b then some cs else s.blk f).isSome=true:=p
   rw[apA e]at i;exact h.off k d f i⟩
theorem n9.freeze{c:Ctx}{s s':FSt}{w:World}{β:Nat→Nat}{X:Nat→Prop}(h:n9 c s w β X){b:Nat}(f:(s.blk b).isSome=true)(g:∀b,(s'.blk b).isSome=true→(s.blk b).isSome=true):
  n9 c s' w β (fun k=>X k∧k≠β b):=
 ⟨h.obj,fun k d=>⟨h.x k d,fun e=>h.off k (.inr d) b f e.symm⟩,h.lt,fun k d b f=>h.off k d b (g b f)⟩
theorem dk.new{c:Ctx}{n:Nat}{s:FSt}{a:Act}{w:World}{β:Nat→Nat}{X:Nat→Prop}(h:dk c n s a w β X)
  (b:Nat) (S:s.blk b=none) (e:TypeId) (us:Array Value) (cs:List D) (E:Bool) (hle:cs.length≤us.size) (U:LQ (cu β w X) (us.toList.take cs.length) cs)
  (A:∀d∈cs,∀f,d.ref=some f→E=true∧(s.blk f).isSome=true):
  dk c n (s.bS b (some cs) E) a (w.alloc (.cells us e)) (fun k=>if k=b then w.heap.size else β k) (fun k=>X k∨k=w.heap.size):=by
 have y:Below w.heap.size w (w.alloc (.cells us e)):=(Below.refl _ _).alloc (alE _) _;have C:=wQ (X:=X) y (alE w.heap.size);have B:=mi y;have K2:(w.alloc (.cells us e)).heap[w.heap.size]? =some (.cells us e (0,0)):=heap_alloc_new w _;have lt:∀j,(s.blk j).isSome=true→β j<w.heap.size:=fun j V=>by
  obtain⟨cs',W⟩:=alL.1 V;exact h.oE _ (h.blk j cs' W).2.1
 have J:∀f,(s.blk f).isSome=true→f≠b:=fun f g e=>by rw[e,S]at g;simp at g
 have F:∀f,(s.blk f).isSome=true→((s.bS b (some cs) E).blk f).isSome=true:=fun f g=>by
  show(if f=b then some cs else s.blk f).isSome=true
  split
  ·rfl
  ·exact g
 refine⟨h.defers,h.size,fun t=>?_,fun t f T=>F f (h.nd t f T),fun k cs' i=>?_,fun k cs' i d P f O=>?_,fun k z i l H=>?_,fun k i=>.inl (h.F k i),h.vt,fun k i=>?_,h.below.grow y,fun p G=>?_,fun p G f g=>?_,h.kp.add b cs E (alE _) y⟩
 ·refine((h.tmp t).mono C B).congr fun f g=>?_
  rw[apA (J f (h.nd t f g))]
 ·have l:(if k=b then some cs else s.blk k)=some cs':=i
  by_cases v:k=b
  ·rw[apB v]at l
   obtain rfl:=amq l;simp only[v,if_true];exact⟨h.below.uJ.size,.inr trivial,us,e,K2,hle,U.mono fun u x M N=>(N.mono C B).congr fun f g=>apA (J f (A x M f g).2)⟩
  ·rw[apA v]at l
   obtain⟨q,m,dD,e',R,Z,Y⟩:=h.blk k cs' l;simp only[if_neg v];refine⟨q,.inl m,dD,e',?_,Z,Y.mono fun u x M N=>(N.mono C B).congr fun f g=>apA (J f (h.tB k cs' l x M f g).2)⟩
   rw[y.block (β k) (amE.1 R).1];exact R
 ·have l:(if k=b then some cs else s.blk k)=some cs':=i
  by_cases v:k=b
  ·rw[apB v]at l
   obtain rfl:=amq l;subst v;obtain⟨L,K⟩:=A d P f O;exact⟨Zn (by rw[L];simp),F f K⟩
  ·rw[apA v]at l
   obtain⟨L,K⟩:=h.tB k cs' l d P f O;exact⟨KN L,F f K⟩
 ·have I:(if k=b then some cs else s.blk k).isSome=true:=i
  have r:(if z=b then some cs else s.blk z).isSome=true:=l
  by_cases q:k=b<;>by_cases m:z=b
  ·rw[q,m]
  ·rw[apA m]at r
   simp only[if_pos q,if_neg m]at H;have:=lt z r;omega
  ·rw[apA q]at I
   simp only[if_neg q,if_pos m]at H;have:=lt k I;omega
  ·rw[apA q]at I
   rw[apA m]at r;simp only[if_neg q,if_neg m]at H;exact h.inj k z I r H
 ·have hs:(w.alloc (.cells us e)).heap.size=w.heap.size+1:=by simp
  rcases i with i|i
  ·have:=h.oE k i;omega
  ·omega
 ·refine((h.gh p G).mono C B).congr fun f g=>?_
  rw[apA (J f (h.iY p G f g).2)]
 ·obtain⟨q,m⟩:=h.iY p G f g
  exact⟨q,F f m⟩
theorem dk.aft{c:Ctx}{n:Nat}{s:FSt}{a:Act}{w w':World}{β:Nat→Nat}{X:Nat→Prop}(h:dk c n s a w β X)(A:Below w.heap.size w w')
  (b:Nat) (R:s.blk b=none) {B:Nat} {e:TypeId} {us:Array Value} {cs:List D} (y:w.heap.size≤B) (hu:w'.heap[B]? =some (.cells us e (0,0))) (hle:cs.length≤us.size)
  (L:a9 w' (fun k=>X k∨k=B) (us.toList.take cs.length) cs):
  dk c n (s.bS b (some cs) false) a w' (fun k=>if k=b then B else β k) (fun k=>X k∨k=B):=by
 have J:=wQ (X:=X) A y;have I:=mi A;have lt:∀j,(s.blk j).isSome=true→β j<w.heap.size:=fun j Y=>by
  obtain⟨cs',Z⟩:=alL.1 Y;exact h.oE _ (h.blk j cs' Z).2.1
 have M:∀f,(s.blk f).isSome=true→f≠b:=fun f m e=>by rw[e,R]at m;simp at m
 have K:∀f,(s.blk f).isSome=true→((s.bS b (some cs) false).blk f).isSome=true:=fun f m=>by
  show(if f=b then some cs else s.blk f).isSome=true
  split
  ·rfl
  ·exact m
 refine⟨h.defers,h.size,fun t=>?_,fun t f V=>K f (h.nd t f V),fun k cs' g=>?_,fun k cs' g d O f H=>?_,fun k C g l F=>?_,fun k g=>.inl (h.F k g),h.vt,fun k g=>?_,h.below.grow A,fun p E=>?_,fun p E f m=>?_,h.kp.add b cs false y A⟩
 ·refine((h.tmp t).mono J I).congr fun f m=>?_
  rw[apA (M f (h.nd t f m))]
 ·have l:(if k=b then some cs else s.blk k)=some cs':=g
  by_cases z:k=b
  ·rw[apB z]at l
   obtain rfl:=amq l;simp only[z,if_true];exact⟨alJ h.below.uJ.size y,.inr trivial,us,e,hu,hle,L.lq⟩
  ·rw[apA z]at l
   obtain⟨r,q,dD,e',P,h4,h5⟩:=h.blk k cs' l;simp only[if_neg z];refine⟨r,.inl q,dD,e',?_,h4,h5.mono fun u x U W=>(W.mono J I).congr fun f m=>apA (M f (h.tB k cs' l x U f m).2)⟩
   rw[A.block (β k) (amE.1 P).1];exact P
 ·have l:(if k=b then some cs else s.blk k)=some cs':=g
  by_cases z:k=b
  ·rw[apB z]at l
   obtain rfl:=amq l;obtain⟨i,N,rfl⟩:=alZ.1 O;have:=jk (L.2 i (by rw[L.1];exact N) N)
   rw[this]at H;cases H
  ·rw[apA z]at l
   obtain⟨T,S⟩:=h.tB k cs' l d O f H;exact⟨KN T,K f S⟩
 ·have G:(if k=b then some cs else s.blk k).isSome=true:=g
  have v:(if C=b then some cs else s.blk C).isSome=true:=l
  by_cases r:k=b<;>by_cases q:C=b
  ·rw[r,q]
  ·rw[apA q]at v
   simp only[if_pos r,if_neg q]at F;have:=lt C v;omega
  ·rw[apA r]at G
   simp only[if_neg r,if_pos q]at F;have:=lt k G;omega
  ·rw[apA r]at G
   rw[apA q]at v;simp only[if_neg r,if_neg q]at F;exact h.inj k C G v F
 ·have hs:=(amE.1 hu).1
  have:=A.size;rcases g with g|g
  ·have:=h.oE k g;omega
  ·omega
 ·refine((h.gh p E).mono J I).congr fun f m=>?_
  rw[apA (M f (h.iY p E f m).2)]
 ·obtain⟨r,q⟩:=h.iY p E f m
  exact⟨r,K f q⟩
theorem dk.store{c:Ctx}{n:Nat}{s:FSt}{a:Act}{w:World}{β:Nat→Nat}{X:Nat→Prop}(h:dk c n s a w β X)
  (b:Nat) (cs cs':List D) (y:Bool) (B:s.blk b=some cs) (us dD:Array Value) (e:TypeId) (hu:w.heap[β b]? =some (.cells us e (0,0))) (D4:dD.size=us.size)
  (hle:cs'.length≤dD.size) (U:LQ (cu β w X) (dD.toList.take cs'.length) cs') (I:∀d∈cs',∀f,d.ref=some f→(s.b_ b||y)=true∧(s.blk f).isSome=true):
  dk c n (s.bS b (some cs') y) a (w.setRow (β b) dD) β X:=by
 obtain⟨C,O,S,e0,h3,h4⟩:=h.blk b cs B;have v:∀a u,w.cell? a=some u→¬X a.block→(w.setRow (β b) dD).cell? a=some u∧¬X a.block:=fun a u W L=>
  ⟨by rw[cell_setRow_other w (β b) dD a (fun e=>L (by rw[e];exact O))];exact W,L⟩
 have r:=HS hu D4;have R:Below c.w0.heap.size w (w.setRow (β b) dD):=⟨rfl,rfl,rfl,by simp,fun k g=>setRow_other w (β b) k dD (by omega)⟩
 have z:∀f,(s.blk f).isSome=true→((s.bS b (some cs') y).blk f).isSome=true:=fun f l=>by
  show(if f=b then some cs' else s.blk f).isSome=true
  split
  ·rfl
  ·exact l
 have E:∀f,((s.bS b (some cs') y).blk f).isSome=true→(s.blk f).isSome=true:=fun f l=>by
  have P:(if f=b then some cs' else s.blk f).isSome=true:=l
  by_cases C:f=b
  ·rw[C,B];rfl
  ·rw[apA C]at P;exact P
 refine⟨h.defers,h.size,fun t=>(h.tmp t).mono v r,fun t f T=>z f (h.nd t f T),fun k j g=>?_,fun k j g d N f J=>?_,fun k K g i V=>h.inj k K (E k g) (E K i) V,h.F,h.vt,fun k g=>by simpa using h.oE k g,
  ⟨h.below.uJ.trans R,fun k o g M=>by
   have q:=h.below.nc k o g M;rw[setRow_other w (β b) k dD (fun e=>by rw[e,hu]at q;cases q;exact M _ _ _ rfl)];exact q,by simpa using h.below.sz⟩,fun p A=>(h.gh p A).mono v r,fun p A f l=>⟨(h.iY p A f l).1,z f (h.iY p A f l).2⟩,
  ⟨fun k o g=>by rw[setRow_other w (β b) k dD (fun e=>h.kp.off k (.inl (by rw[g];rfl)) b (by rw[B];rfl) e.symm)];exact h.kp.obj k o g,h.kp.x,fun k g=>by simpa using h.kp.lt k g,fun k g f l=>h.kp.off k g f (E f l)⟩⟩
 ·have i:(if k=b then some cs' else s.blk k)=some j:=g
  by_cases m:k=b
  ·rw[apB m]at i
   obtain rfl:=amq i;subst m;exact⟨C,O,dD,e,setRow_heap w (β k) us dD e (0,0) hu,hle,U.mono fun u x _ H=>H.mono v r⟩
  ·rw[apA m]at i
   obtain⟨k1,k2,Xb,Z,k3,k4,k5⟩:=h.blk k j i;have Y:β k≠β b:=fun e=>m (h.inj k b (by rw[i];rfl) (by rw[B];rfl) e)
   exact⟨k1,k2,Xb,Z,by rw[setRow_other w (β b) (β k) dD Y];exact k3,k4,k5.mono fun u x _ H=>H.mono v r⟩
 ·have i:(if k=b then some cs' else s.blk k)=some j:=g
  by_cases m:k=b
  ·rw[apB m]at i
   obtain rfl:=amq i;subst m;obtain⟨G,F⟩:=I d N f J;exact⟨Zn G,z f F⟩
  ·rw[apA m]at i
   obtain⟨G,F⟩:=h.tB k j i d N f J;exact⟨KN G,z f F⟩
def D.clear(b:Nat)(d:D):D:=if d.refs.contains b then .any else d
theorem wA{b f:Nat}{d:D}(h:f∈(d.clear b).refs):f∈d.refs∧f≠b:=by
 unfold D.clear at h;split at h
 ·simp[D.refs]at h
 ·rename_i g
  exact⟨h,fun e=>g (by rw[←e];simpa using h)⟩
theorem JP{b e:Nat}{d:D}(h:(d.clear b).ref=some e):d.ref=some e∧e≠b:=by
 have f:=wA (rC h);refine⟨?_,f.2⟩;unfold D.clear at h;split at h
 ·simp[D.ref]at h
 ·exact h
def FSt.clear(s:FSt)(b:Nat):FSt where
 tmp:=fun t=>(s.tmp t).clear b
 blk:=fun k=>if s.b_ k then(s.blk k).map (List.map (D.clear b))else s.blk k
 b_:=s.b_
theorem pO{s:FSt}{b k:Nat}:((s.clear b).blk k).isSome=(s.blk k).isSome:=by
 show(if s.b_ k then(s.blk k).map (List.map (D.clear b))else s.blk k).isSome=_
 split<;>simp
theorem AI{s:FSt}{b k:Nat}{cs:List D}(h:(s.clear b).blk k=some cs):∃cs',s.blk k=some cs'∧cs.length=cs'.length∧((s.b_ k=true∧cs=cs'.map (D.clear b))∨(s.b_ k=false∧cs=cs')):=by
 have d:(if s.b_ k then(s.blk k).map (List.map (D.clear b))else s.blk k)=some cs:=h
 split at d
 ·rename_i e
  cases f:s.blk k with
  |none=>rw[f]at d;cases d
  |some cs'=>
   rw[f]at d;simp only[Option.map_some,zIq]at d;exact⟨cs',rfl,by rw[←d];simp,.inl ⟨e,d.symm⟩⟩
 ·rename_i e
  exact⟨cs,d,rfl,.inr ⟨by simpa using e,rfl⟩⟩
theorem dk.clear{c:Ctx}{n:Nat}{s:FSt}{a:Act}{w:World}{β:Nat→Nat}{X:Nat→Prop}(h:dk c n s a w β X)(b:Nat):dk c n (s.clear b) a w β X where
 defers:=h.defers
 size:=h.size
 tmp:=fun t=>by
  show cW β w X _ ((s.tmp t).clear b);unfold D.clear;split
  ·exact .c (.p (.any _))
  ·exact h.tmp t
 nd:=fun t f y=>by
  rw[pO];exact h.nd t f (wA y).1
 blk:=fun k cs g=>by
  obtain⟨cs',i,r,j⟩:=AI g;obtain⟨k1,k2,us,e,k3,k4,k5⟩:=h.blk k cs' i;refine⟨k1,k2,us,e,k3,by omega,?_⟩
  rw[r];rcases j with⟨_,rfl⟩|⟨_,rfl⟩
  ·refine k5.map fun u x _ z=>?_
   unfold D.clear;split
   ·exact .p (.any _)
   ·exact z
  ·exact k5
 tB:=fun k cs g d q f m=>by
  rw[pO];obtain⟨cs',i,r,j⟩:=AI g;rcases j with⟨_,rfl⟩|⟨_,rfl⟩
  ·obtain⟨d0,C,rfl⟩:=ama.1 q
   exact h.tB k cs' i d0 C f (JP m).1
  ·exact h.tB k _ i d q f m
 inj:=fun k v g B=>h.inj k v (by rwa [pO]at g) (by rwa [pO]at B)
 F:=h.F
 vt:=h.vt
 oE:=h.oE
 below:=h.below
 gh:=h.gh
 iY:=fun p A f l=>by rw[pO];exact h.iY p A f l
 kp:=h.kp.sub fun f l=>by rwa [pO]at l
theorem dk.ai0{c:Ctx}{n:Nat}{s:FSt}{a:Act}{w:World}{β:Nat→Nat}{X:Nat→Prop}(h:dk c n s a w β X)(b:Nat)(O:c.gb≤b)
  (N:∀t,b∉(s.tmp t).refs) (z:∀k cs,s.blk k=some cs→∀d∈cs,d.ref≠some b) (e:TypeId) (us:Array Value) (cs:List D) (hle:cs.length≤us.size) (u:a9 w X (us.toList.take cs.length) cs):
  dk c n (s.bS b (some cs) false) a (w.alloc (.cells us e)) (fun k=>if k=b then w.heap.size else β k) (fun k=>X k∨k=w.heap.size):=by
 have L:dk c n (s.bS b none false) a w β X:=by
  have back:∀k cs',(s.bS b none false).blk k=some cs'→k≠b∧s.blk k=some cs':=fun k cs' j=>by
   have m:(if k=b then none else s.blk k)=some cs':=j
   split at m
   ·cases m
   ·rename_i g;exact⟨g,m⟩
  refine⟨h.defers,h.size,h.tmp,fun t f E=>?_,fun k cs' j=>h.blk k cs' (back k cs' j).2,fun k cs' j d q f l=>?_,fun k C j m J=>?_,h.F,h.vt,h.oE,h.below,h.gh,fun p I f A=>?_,h.kp.sub fun f A=>by
    obtain⟨y,x⟩:=alL.1 A;rw[(back f y x).2];rfl⟩
  ·show(if f=b then none else s.blk f).isSome=true
   rw[apA (fun e=>N t (by rw[←e];exact E))];exact h.nd t f E
  ·obtain⟨P,B⟩:=back k cs' j
   obtain⟨H,G⟩:=h.tB k cs' B d q f l;refine⟨KN H,?_⟩;show(if f=b then none else s.blk f).isSome=true
   rw[apA (fun e=>z k cs' B d q (by rw[←e];exact l))];exact G
  ·obtain⟨y,x⟩:=alL.1 j
   obtain⟨M,v⟩:=alL.1 m;exact h.inj k C (by rw[(back k y x).2];rfl) (by rw[(back C M v).2];rfl) J
  ·obtain⟨r,K⟩:=h.iY p I f A
   refine⟨r,?_⟩;show(if f=b then none else s.blk f).isSome=true
   rw[apA (by omega)];exact K
 have r:=L.new b (by simp[FSt.bS]) e us cs false hle u.lq (fun d q f l=>by
  obtain⟨i,F,rfl⟩:=alZ.1 q;have:=jk (u.2 i (by rw[u.1];exact F) F)
  rw[this]at l;cases l)
 have v:(s.bS b none false).bS b (some cs) false=s.bS b (some cs) false:=by
  simp only[FSt.bS];congr 1
  ·funext k
   split<;>rfl
  ·funext k;simp
 rw[v]at r;exact r
def D.dX(b:Nat)(cs:List D):D→D
 |.ptr e off=>if e==b then .aV (cs.drop off)else .ptr e off
 |.bz e off len cap=>if e==b then .row len false ((cs.drop off).take len)else .bz e off len cap
 |.cR e n size=>if e==b then .row n false (cs.take (n*size))else .cR e n size
 |d=>d
def D.Aa(b:Nat)(cs:List D):D→D
 |.agg xs=>.agg (xs.map (D.dX b cs))
 |.aY xs=>.aY (xs.map (D.dX b cs))
 |d=>d.dX b cs
def FSt.freeze(s:FSt)(b:Nat)(cs:List D):FSt where
 tmp:=fun t=>(s.tmp t).Aa b cs
 blk:=fun k=>if k=b then none else if s.b_ k then(s.blk k).map (List.map (D.dX b cs))else s.blk k
 b_:=s.b_
theorem lO{β:Nat→Nat}{w:World}{X:Nat→Prop}{b:Nat}{cs:List D}{us:Array Value}{e:TypeId}(hu:w.heap[β b]? =some (.cells us e (0,0)))
  (E:a9 w X (us.toList.take cs.length) cs) {v:Value} {d:D} (C:cu β w X v d):cu β w (fun k=>X k∧k≠β b) v (d.dX b cs):=by
 have B:∀a u,w.cell? a=some u→¬X a.block→w.cell? a=some u∧¬(X a.block∧a.block≠β b):=fun a u h q=>⟨h,fun j=>q j.1⟩
 have y:=E.mono (X':=fun k=>X k∧k≠β b) B
 have cells:∀f m i(h:i<((us.toList.take cs.length).drop f|>.take m).length),w.cell? ((⟨β b,f,none⟩:Addr).add i)=some (((us.toList.take cs.length).drop f|>.take m)[i]):=by
  intro f m i r;rw[Addr.jr,cell_of_row w _ _ us e (0,0) hu];simp at r⊢
 cases C with
 |p z=>
  have:d.dX b cs=d:=by cases z<;>rfl
  rw[this];exact .p (z.mono B)
 |ptr g f=>
  by_cases l:g=b
  ·subst l
   simp only[D.dX,beq_self_eq_true,if_true];have j:=y.drop f;refine .p (.aV _ _ _ j.1 (fun i r=>⟨fun q=>q.2 rfl,?_⟩) j.2)
   have:=cells f ((us.toList.take cs.length).drop f).length i (by rw[ank];exact r)
   simpa using this
  ·have:(D.ptr g f).dX b cs=.ptr g f:=by simp[D.dX,l]
   rw[this];exact .ptr g f
 |bz g f len cap t j=>
  by_cases l:g=b
  ·subst l
   simp only[D.dX,beq_self_eq_true,if_true];have x:=(y.drop f).take len;exact .p (.row _ _ _ _ _ _ x.1 t j (fun h=>by cases h) (fun i r=>⟨_,rfl,fun q=>q.2 rfl,cells f len i r⟩) x.2)
  ·have:(D.bz g f len cap).dX b cs=.bz g f len cap:=by simp[D.dX,l]
   rw[this];exact .bz g f len cap t j
 |cR g n size cap F t j x=>
  by_cases l:g=b
  ·subst l
   simp only[D.dX,beq_self_eq_true,if_true];have A:=(y.drop 0).take (n*size);refine .p (.row _ _ _ _ _ _ A.1 t j (fun h=>by cases h) (fun i r=>⟨_,rfl,fun q=>q.2 rfl,cells 0 (n*size) i r⟩) A.2)
  ·have:(D.cR g n size).dX b cs=.cR g n size:=by simp[D.dX,l]
   rw[this];exact .cR g n size cap F t j x
theorem XO{b:Nat}{cs:List D}{d:D}(h:d.ref=none):d.dX b cs=d:=by cases d<;>simp[D.ref]at h<;>rfl
theorem IK{b:Nat}{cs xs:List D}(h:∀d∈xs,d.ref=none):xs.map (D.dX b cs)=xs:=by
 rw[amQ fun d e=>XO (h d e)];exact List.map_id' xs
theorem IJ{β:Nat→Nat}{w:World}{X:Nat→Prop}{b:Nat}{cs:List D}{us:Array Value}{e:TypeId}(hu:w.heap[β b]? =some (.cells us e (0,0)))
  (f:a9 w X (us.toList.take cs.length) cs) {v:Value} {d:D} (A:cW β w X v d):cW β w (fun k=>X k∧k≠β b) v (d.Aa b cs):=by
 cases A with
 |c h=>
  cases h with
  |p y=>
   have E:cW β w (fun k=>X k∧k≠β b) v d:=.c (.p (y.mono fun a u h z=>⟨h,fun j=>z j.1⟩))
   have:d.Aa b cs=d:=by
    cases y with
    |agg us xs q f=>simp only[D.Aa];rw[IK fun d r=>by
      obtain⟨i,g,rfl⟩:=alZ.1 r;exact jk (f i (by rw[q];exact g) g)]
    |aY us xs q f=>simp only[D.Aa];rw[IK fun d r=>by
      obtain⟨i,g,rfl⟩:=alZ.1 r;exact jk (f i (by rw[q];exact g) g)]
    |_=>rfl
   rw[this];exact E
  |ptr l off=>exact .c (lO hu f (.ptr l off))
  |bz l off len cap t j=>exact .c (lO hu f (.bz l off len cap t j))
  |cR l n size cap C t j B=>exact .c (lO hu f (.cR l n size cap C t j B))
 |agg us xs h=>exact .agg us _ (h.map fun u x _ m=>lO hu f m)
 |aY us xs h=>exact .aY us _ (h.map fun u x _ m=>lO hu f m)
theorem Cx{d:D}{b g:Nat}{cs:List D}(h:(d.dX b cs).ref=some g):d.ref=some g∧g≠b:=by
 cases d<;>simp only[D.dX]at h
 case ptr f off=>
  by_cases e:f=b
  ·subst e;simp[D.ref]at h
  ·simp[e,D.ref]at h;subst h;exact⟨rfl,e⟩
 case bz f off len cap=>
  by_cases e:f=b
  ·subst e;simp[D.ref]at h
  ·simp[e,D.ref]at h;subst h;exact⟨rfl,e⟩
 case cR f n size=>
  by_cases e:f=b
  ·subst e;simp[D.ref]at h
  ·simp[e,D.ref]at h;subst h;exact⟨rfl,e⟩
 all_goals (exfalso;revert h;simp[D.ref])
theorem Uf{d:D}{b f:Nat}{cs:List D}(h:f∈(d.Aa b cs).refs):f∈d.refs∧f≠b:=by
 have key:∀xs:List D,f∈(xs.map (D.dX b cs)).filterMap D.ref→f∈xs.filterMap D.ref∧f≠b:=by
  intro xs i;obtain⟨d1,l,e⟩:=amh.1 i;obtain⟨d0,q,rfl⟩:=ama.1 l;obtain⟨k,j⟩:=Cx e;exact⟨amh.2 ⟨d0,q,k⟩,j⟩
 have one:∀d0:D,(∀xs,d0.dX b cs≠.agg xs)→(∀xs,d0.dX b cs≠.aY xs)→f∈(d0.dX b cs).refs→f∈d0.refs∧f≠b:=by
  intro d0 p m i;rw[UI p m,Option.mem_toList]at i;obtain⟨k,j⟩:=Cx i;exact⟨rC k,j⟩
 cases d with
 |agg xs=>exact key xs h
 |aY xs=>exact key xs h
 |ptr g off=>exact one (.ptr g off) (fun xs=>by simp only[D.dX];split<;>simp) (fun xs=>by simp only[D.dX];split<;>simp) h
 |bz g off len cap=>exact one (.bz g off len cap) (fun xs=>by simp only[D.dX];split<;>simp) (fun xs=>by simp only[D.dX];split<;>simp) h
 |cR g n size=>exact one (.cR g n size) (fun xs=>by simp only[D.dX];split<;>simp) (fun xs=>by simp only[D.dX];split<;>simp) h
 |any=>simp[D.Aa,D.dX,D.refs]at h
 |lit v=>simp[D.Aa,D.dX,D.refs]at h
 |row=>simp[D.Aa,D.dX,D.refs]at h
 |aV=>simp[D.Aa,D.dX,D.refs]at h
 |fn=>simp[D.Aa,D.dX,D.refs]at h
theorem qy{s:FSt}{b:Nat}{cs:List D}{k:Nat}{cs':List D}(h:(s.freeze b cs).blk k=some cs'):
  k≠b∧∃e,s.blk k=some e∧cs'.length=e.length∧((s.b_ k=true∧cs'=e.map (D.dX b cs))∨(s.b_ k=false∧cs'=e)):=by
 have d:(if k=b then none else if s.b_ k then(s.blk k).map (List.map (D.dX b cs))else s.blk k)=some cs':=h
 split at d
 ·cases d
 ·rename_i i
  refine⟨i,?_⟩;split at d
  ·rename_i f
   cases g:s.blk k with
   |none=>rw[g]at d;cases d
   |some e=>
    rw[g]at d;simp only[Option.map_some,zIq]at d;exact⟨e,rfl,by rw[←d];simp,.inl ⟨f,d.symm⟩⟩
  ·rename_i f
   exact⟨cs',d,rfl,.inr ⟨by simpa using f,rfl⟩⟩
theorem xZ{s:FSt}{b:Nat}{cs:List D}{k:Nat}(h:k≠b):((s.freeze b cs).blk k).isSome=(s.blk k).isSome:=by
 show(if k=b then none else if s.b_ k then(s.blk k).map (List.map (D.dX b cs))else s.blk k).isSome=_
 rw[apA h];split<;>simp
theorem dk.freeze{c:Ctx}{n:Nat}{s:FSt}{a:Act}{w:World}{β:Nat→Nat}{X:Nat→Prop}(h:dk c n s a w β X){b:Nat}{cs:List D}(F:s.blk b=some cs)(V:∀d∈cs,d.ref=none)(qP:c.gb≤b):
  dk c n (s.freeze b cs) a w β (fun k=>X k∧k≠β b):=by
 obtain⟨h1,O,us,e,I,_,G⟩:=h.blk b cs F;have H:=G.pure V;have NP:∀a u,w.cell? a=some u→¬X a.block→w.cell? a=some u∧¬(X a.block∧a.block≠β b):=fun a u h v=>⟨h,fun O=>v O.1⟩
 refine⟨h.defers,h.size,fun t=>IJ I H (h.tmp t),fun t j Y=>?_,fun k cs' g=>?_,fun k cs' g d f j L=>?_,fun k W g gk he=>?_,fun k g=>⟨h.F k g,fun e=>by have:=h.vt k g;omega⟩,h.vt,fun k g=>h.oE k g.1,h.below,fun p y=>?_,fun p y j K=>?_,h.kp.freeze (by rw[F];rfl) fun j K=>by
   obtain⟨c1,J⟩:=alL.1 K;obtain⟨_,_,l,_⟩:=qy J;rw[l];rfl⟩
 ·obtain⟨r,m⟩:=Uf Y
  rw[xZ m];exact h.nd t j r
 ·obtain⟨R,B,q0,M,A⟩:=qy g
  obtain⟨r,m,dD,e',U,q4,N⟩:=h.blk k B q0;refine⟨r,⟨m,fun e=>R (h.inj k b (by rw[q0];rfl) (by rw[F];rfl) e)⟩,dD,e',U,by omega,?_⟩
  rw[M];rcases A with⟨_,rfl⟩|⟨qn,rfl⟩
  ·exact N.map fun u x _ E=>lO I H E
  ·refine N.mono fun u x v E=>?_
   have C:x.ref=none:=by
    cases Z:x.ref with
    |none=>rfl
    |some j=>have:=(h.tB k cs' q0 x v j Z).1;rw[qn]at this;cases this
   exact .p ((E.pure C).mono NP)
 ·obtain⟨R,B,q0,M,A⟩:=qy g
  rcases A with⟨_,rfl⟩|⟨qn,rfl⟩
  ·obtain⟨d0,D8,rfl⟩:=ama.1 f
   obtain⟨l,z⟩:=Cx L;obtain⟨T,S⟩:=h.tB k B q0 d0 D8 j l;exact⟨T,by rw[xZ z];exact S⟩
  ·have:=(h.tB k cs' q0 d f j L).1
   rw[qn]at this;cases this
 ·obtain⟨c1,J⟩:=alL.1 g
  obtain⟨c2,e2⟩:=alL.1 gk;obtain⟨_,_,l,_⟩:=qy J;obtain⟨_,_,z,_⟩:=qy e2;exact h.inj k W (by rw[l];rfl) (by rw[z];rfl) he
 ·have i:b∉p.2.refs:=fun e=>by have:=(h.iY p y b e).1;omega
  have:p.2.Aa b cs=p.2:=by
   have one:∀d:D,d.ref≠some b→d.dX b cs=d:=by
    intro d f;cases d<;>simp only[D.ref,ne_eq,zIq]at f<;>simp[D.dX,f]
   have many:∀xs:List D,b∉xs.filterMap D.ref→xs.map (D.dX b cs)=xs:=fun xs v=>by
    rw[amQ fun d f=>one d fun e=>v (amh.2 ⟨d,f,e⟩)];exact List.map_id' xs
   cases f:p.2 with
   |agg xs=>rw[f]at i;simp only[D.Aa];rw[many xs i]
   |aY xs=>rw[f]at i;simp only[D.Aa];rw[many xs i]
   |ptr P off=>rw[f]at i;exact one _ fun e=>i (rC e)
   |bz P off len cap=>rw[f]at i;exact one _ fun e=>i (rC e)
   |cR P n size=>rw[f]at i;exact one _ fun e=>i (rC e)
   |_=>rfl
  have q:=IJ I H (h.gh p y)
  rwa [this]at q
 ·obtain⟨r,m⟩:=h.iY p y j K
  refine⟨r,?_⟩;rw[xZ (by omega)];exact m
end Lw
namespace Lw
open Go Go.RowKit
def fy{α:Type}(P:Program):Sem α→Option α
 |.pure a=>some a
 |.program k=>fy P (k P)
 |.mark _ k=>fy P k
 |.load .. |.store .. |.new .. |.shape .. |.freeze .. |.frozen .. |.getObj .. |.setObj .. |.choose .. |.sys .. |.halt .. =>none
theorem j7{α:Type}{P:Program}{m:Sem α}{a:α}(h:fy P m=some a)(w:World):m.run P w=.ok a w:=by
 induction m with
 |pure b=>simp only[fy,zIq]at h;subst h;rfl
 |program k d=>simp only[fy]at h;simp only[Sem.run];exact d P h
 |mark m k d=>simp only[fy]at h;simp only[Sem.run];exact d h
 |load|store|new|shape|freeze|frozen|getObj|setObj|choose|sys|halt=>simp[fy]at h
def D.sO:Value→D
 |.slice none 0 0=>.row 0 false []
 |v=>.lit v
def D.Zl:Value→D
 |.agg cs=>.agg (cs.toList.map D.sO)
 |.slice none 0 0=>.row 0 true []
 |v=>.lit v
theorem Bu(w:World)(X:Nat→Prop)(f:Bool):cU w X (.slice none 0 0) (.row 0 f []):=
 .row none 0 0 f [] [] rfl (alE 0) (by unfold maxLen;omega) (fun _=>rfl) (fun i h=>apC h (by simp)) (fun i h=>apC h (by simp))
theorem D.Gg(w:World)(X:Nat→Prop)(v:Value):cU w X v (D.sO v):=by
 unfold D.sO;split
 ·exact Bu w X false
 ·exact .lit _
def D.rF(b:Bool):Value→D
 |.slice none 0 0=>.row 0 b []
 |v=>.lit v
theorem D.M8(b:Bool)(w:World)(X:Nat→Prop)(v:Value):cU w X v (D.rF b v):=by
 unfold D.rF;split
 ·exact Bu w X b
 ·exact .lit _
theorem vJ(b:Bool)(w:World)(X:Nat→Prop)(l:List Value):a9 w X l (l.map (D.rF b)):=
 ⟨by simp,fun i e d=>by rw[amg];exact D.M8 b w X _⟩
theorem od(w:World)(X:Nat→Prop)(l:List Value):a9 w X l (l.map D.sO):=
 ⟨by simp,fun i d b=>by rw[amg];exact D.Gg w X _⟩
theorem cU.Gf{w:World}{X:Nat→Prop}{us:List Value}{xs:List D}(h:a9 w X us xs):cU w X (.agg us.toArray) (.agg xs):=.agg us xs h.1 h.2
theorem D.Ja(w:World)(X:Nat→Prop)(v:Value):cU w X v (D.Zl v):=by
 unfold D.Zl;split
 ·rename_i cs
  have:=cU.Gf (od w X cs.toList);simpa using this
 ·exact Bu w X true
 ·exact .lit _
def D.FW:D→D
 |.row n _ xs=>.row n false xs
 |d=>d
theorem uR{w:World}{X:Nat→Prop}{v:Value}{d:D}(h:cU w X v d):cU w X v d.FW:=by
 cases h with
 |row a len cap full us xs e hlen j k hm b=>exact .row a len cap false us xs e hlen j (fun h=>by cases h) hm b
 |any v=>exact .any v
 |lit v=>exact .lit v
 |aV a us xs e hm b=>exact .aV a us xs e hm b
 |agg us xs e b=>exact .agg us xs e b
 |aY us xs e b=>exact .aY us xs e b
 |fn f us dD xs Iv e i b g=>exact .fn f us dD xs Iv e i b g
def D.So:D→Option Value
 |.lit v=>some v
 |_=>none
def D.nu:List D→Option (List Value)
 |[]=>some []
 |x::xs=>match x.So,D.nu xs with
  |some v,some vs=>some (v::vs)
  |_,_=>none
def D.cz:D→Option Value
 |.lit v=>some v
 |.agg xs=>(D.nu xs).map fun vs=>.agg vs.toArray
 |_=>none
theorem II{w:World}{X:Nat→Prop}:∀{us:List Value}{xs:List D}{vs:List Value},a9 w X us xs→D.nu xs=some vs→us=vs
 |us,[],vs,h,e=>by
  simp only[D.nu,zIq]at e;rw[←e];exact amu (by simpa using h.1)
 |us,x::xs,vs,h,e=>by
  cases us with
  |nil=>have:=h.1;simp at this
  |cons u us=>
   simp only[D.nu]at e;split at e
   ·rename_i v d b i
    simp only[zIq]at e;subst e;have g:=h.head;have f:=II h.tail i;cases x<;>simp only[D.So,zIq,reduceCtorEq]at b
    subst b;cases g;rw[f]
   ·cases e
theorem sA{w:World}{X:Nat→Prop}{u v:Value}{d:D}(h:cU w X u d)(e:d.cz=some v):u=v:=by
 cases d<;>simp only[D.cz,zIq,reduceCtorEq]at e
 case lit=>subst e;cases h;rfl
 case agg xs=>
  cases b:D.nu xs with
  |none=>rw[b]at e;cases e
  |some i=>
   rw[b]at e;simp only[Option.map_some,zIq]at e;subst e;cases h with
   |agg us _ g f=>rw[II ⟨g,f⟩ b]
theorem Fs:∀{xs:List D}{vs:List Value},D.nu xs=some vs→xs.filterMap D.ref=[]
 |[],_,_=>rfl
 |x::xs,vs,e=>by
  simp only[D.nu]at e;split at e
  ·rename_i v b g f
   have d:x.ref=none:=by cases x<;>simp[D.So]at g<;>rfl
   rw[apd,d];exact Fs f
  ·cases e
theorem PV{d:D}{v:Value}(e:d.cz=some v):d.refs=[]:=by
 cases d<;>simp[D.cz,D.refs]at e⊢
 case agg xs=>
  obtain⟨b,h,_⟩:=e;have:=Fs h;rw[aoF]at this;exact this
def D.cells:D→Option (List D)
 |.agg xs=>some xs
 |.lit v=>match v with
  |.agg _|.tuple _=>none
  |v=>some [.lit v]
 |.row n _ xs=>some [.row n false xs]
 |.aV xs=>some [.aV xs]
 |.ptr b off=>some [.ptr b off]
 |.bz b off len cap=>some [.bz b off len cap]
 |.cR b n size=>some [.cR b n size]
 |.fn f xs d=>some [.fn f xs d]
 |_=>none
theorem WA{w:World}{X:Nat→Prop}{v:Value}{d:D}{xs:List D}(h:cU w X v d)(e:d.cells=some xs):a9 w X v.cells.toList xs:=by
 cases h with
 |any=>simp[D.cells]at e
 |lit v=>
  cases v<;>simp only[D.cells,zIq,reduceCtorEq]at e<;>subst e<;>exact a9.cons (.lit _) a9.nil
 |row a len cap full us i g hlen m p hm b=>
  simp only[D.cells,zIq]at e;subst e;exact a9.cons (.row a len cap false us i g hlen m (fun h=>by cases h) hm b) a9.nil
 |aV a us i g hm b=>
  simp only[D.cells,zIq]at e;subst e;exact a9.cons (.aV a us i g hm b) a9.nil
 |agg us i g b=>
  simp only[D.cells,zIq]at e;subst e;have e:(Value.agg us.toArray).cells.toList=us:=by simp[Value.cells]
  rw[e];exact⟨g,b⟩
 |aY=>simp[D.cells]at e
 |fn f us dD i j g l b k=>
  simp only[D.cells,zIq]at e;subst e;exact a9.cons (.fn f us dD i j g l b k) a9.nil
theorem RQ{β:Nat→Nat}{w:World}{X:Nat→Prop}{v:Value}{d:D}{xs:List D}(h:cW β w X v d)(e:d.cells=some xs):LQ (cu β w X) v.cells.toList xs:=by
 cases h with
 |c h=>cases h with
  |p h=>exact(WA h e).lq
  |ptr b off=>simp only[D.cells,zIq]at e;subst e;exact LQ.cons (.ptr b off) LQ.nil
  |bz b off len cap g f=>simp only[D.cells,zIq]at e;subst e;exact LQ.cons (.bz b off len cap g f) LQ.nil
  |cR b n size cap t g f i=>simp only[D.cells,zIq]at e;subst e;exact LQ.cons (.cR b n size cap t g f i) LQ.nil
 |agg us j h=>
  simp only[D.cells,zIq]at e;subst e;have e:(Value.agg us.toArray).cells.toList=us:=by simp[Value.cells]
  rw[e];exact h
 |aY=>simp[D.cells]at e
theorem RR{d:D}{xs:List D}(e:d.cells=some xs):∀x∈xs,∀b,x.ref=some b→b∈d.refs:=by
 intro x f b g;cases d<;>simp only[D.cells,zIq,reduceCtorEq]at e
 case agg i=>subst e;exact amh.2 ⟨x,f,g⟩
 case lit v=>cases v<;>simp only[zIq,reduceCtorEq]at e<;>subst e<;>simp only[List.mem_singleton]at f<;>subst f<;>simp[D.ref]at g
 all_goals (subst e;simp only[List.mem_singleton]at f;subst f;simp[D.ref]at g;try simp[D.refs,g])
def dZ(xs:List D):Bool:=xs.any fun d=>d.ref.isSome
theorem iL{xs:List D}(h:dZ xs=false):∀d∈xs,d.ref=none:=by
 intro d f;unfold dZ at h;rw[aor]at h;have:=h d f;cases e:d.ref with
 |none=>rfl
 |some b=>rw[e]at this;simp at this
theorem wH{xs:List D}{d:D}{b:Nat}(h:d∈xs)(e:d.ref=some b):dZ xs=true:=am5.2 ⟨d,h,by rw[e];rfl⟩
def D.iq:D→Bool
 |.lit v=>match v with
  |.agg _|.tuple _=>false
  |_=>true
 |.row .. |.aV .. |.ptr .. |.bz .. |.cR .. |.fn .. =>true
 |_=>false
theorem AJ{β:Nat→Nat}{w:World}{X:Nat→Prop}{v:Value}{d:D}(h:cu β w X v d)(e:d.iq=true):v.oneCell'=true:=by
 cases h with
 |p h=>cases h with
  |any=>simp[D.iq]at e
  |lit v=>cases v<;>simp[D.iq,Value.oneCell']at e⊢
  |row=>rfl
  |aV=>rfl
  |agg=>simp[D.iq]at e
  |aY=>simp[D.iq]at e
  |fn=>rfl
 |ptr=>rfl
 |bz=>rfl
 |cR=>rfl
def cC(P:Program)(t:TypeId):Option Nat:=(P.info? t).map (·.size)
def z7(P:Program)(t:TypeId):Option Value:=(P.info? t).bind (·.zero)
def se(P:Program)(t:TypeId):Option Bool:=(P.underlying t).map fun|.struct _|.array _ _=>true|_=>false
def oI(P:Program)(t:TypeId):Option (List D):=(z7 P t).map fun z=>z.cells.toList.map D.sO
def AZ(P:Program)(t:TypeId):Option (List D):=(z7 P t).map fun z=>z.cells.toList.map (D.rF true)
def vC(P:Program)(s:TypeId)(f:Nat):Option (Nat×TypeId):=
 match P.underlying s with
 |some (.struct fields)=>(fields[f]?).map fun f=>(f.offset,f.type)
 |_=>none
def dq(P:Program)(t:TypeId):Option (Option Nat×TypeId):=
 match P.underlying t with
 |some (.slice e)=>some (none,e)
 |some (.array n e)=>some (some n,e)
 |_=>none
def IE(P:Program)(t:TypeId):Bool:=match P.underlying t with|some .string=>true|_=>false
def D.str:D→Option ByteArray
 |.lit v=>match v with
  |.string s=>some s
  |_=>none
 |_=>none
inductive HC where
 |no
 |want (p:Prop) (b:Bool) (h:b=true→p)
def HC.ok:HC→Prop
 |.no=>True
 |.want p _ _=>p
def oB(p:Prop)[Decidable p]:HC:=.want p (decide p) of_decide_eq_true
@[simp] theorem dM(p:Prop)[Decidable p]:(oB p).ok=p:=rfl
inductive Eff where
 |val (d:D)
 |new (b:Nat) (cs:List D) (d:D) (nf:Bool)
 |store (b off:Nat) (ds:List D) (d:D) (nf:Bool)
 |grow (b:Nat) (cs:List D) (d:D)
 |call (f:FuncId) (args:List D)
def GV(place:Nat→Option (Nat×Nat)):List D→List (Nat×D)→Option (List D)
 |cs,[]=>some cs
 |cs,(i,d)::rest=>
  match place i,d.cells with
  |some (off,size),some ds=>if ds.length==size&&Nat.ble (off+size) cs.length then GV place (cs.take off++(ds++cs.drop (off+size))) rest else none
  |_,_=>none
def RV(P:Program)(t:TypeId)(parts:List (Nat×D))(b:Bool):Option (List D):=
 match P.info? t,P.underlying t with
 |some it,some (.array _ e)=>
  match it.zero,P.info? e with
  |some z,some d=>GV (fun i=>some (i*d.size,d.size)) (z.cells.toList.map (D.rF b)) parts
  |_,_=>none
 |some it,some (.struct fields)=>
  match it.zero,fields.toList.mapM (fun f=>(P.info? f.type).map fun i=>(f.offset,i.size))with
  |some z,some places=>GV (places.toArray[·]?) (z.cells.toList.map (D.rF b)) parts
  |_,_=>none
 |_,_=>none
def Bb(b:List D)(n:Nat):List D:=(List.range n).map fun i=>b.getD (i%b.length) .any
def yd(P:Program)(t:TypeId)(len:Nat)(parts:List (Nat×D)):Option (List D):=
 match P.underlying t with
 |some (.slice e)=>match cC P e,oI P e with
  |some n,some b=>if Nat.ble (len*n) (2^24)&&b.length==n&&Nat.blt 0 n then GV (fun i=>some (i*n,n)) (Bb b (len*n)) parts else none
  |_,_=>none
 |_=>none
def AK(P:Program)(v:D):Option (FuncId×List D×List D):=
 match v with
 |.lit (.func (.func f) first captured)=>match P.funcs[f]?with
  |some fn=>if(first.size==0&&captured.size==0)&&(fn.body.isSome&& !(fn.name== "runtime.NumGoroutine"))then some (f,[],[])else none
  |none=>none
 |.fn f first b=>match P.funcs[f]?with
  |some fn=>if fn.body.isSome&& !(fn.name== "runtime.NumGoroutine")then some (f,first,b)else none
  |none=>none
 |_=>none
def D.SA:D→Bool
 |.row _ _ (_::_)=>true
 |.bz _ _ _ _=>true
 |.cR _ _ _=>true
 |.lit (.slice (some _) _ _)=>true
 |_=>false
def D.S2:D→Bool
 |.lit (.slice none _ _)=>true
 |_=>false
def FSt.ev(s:FSt):Operand→D
 |.tmp t=>s.tmp t
 |.const v=>D.Zl v
 |.global g=>.lit (.pointer (some ⟨g,0,none⟩))
 |.func f=>.lit (.func (.func f) #[] #[])
def Li(P:Program)(o:Oper)(ρ:Operand→D)(blk:Nat→Option (List D))(b_:Nat→Bool)(nb:Nat)(ro:Bool)(gb:Nat)(I:Bool):Option (Eff×HC):=
  match o.op with
  |.move x|.assign x=>some (.val (ρ x),.no)
  |.pick c a b=>match ρ c with
    |.lit (.bool true)=>some (.val (ρ a),.no)
    |.lit (.bool false)=>some (.val (ρ b),.no)
    |_=>none
  |.alloc elem=>match I with
   |true=>match AZ P elem with
    |some j=>some (.new nb j (.ptr nb 0) false,.no)
    |none=>none
   |false=>match oI P elem with
    |some j=>if ro then some (.val (.aV j),.no)else some (.new nb j (.ptr nb 0) false,.no)
    |none=>none
  |.box _ x=>match(ρ x).cells with
    |some cs=>if ro&& !dZ cs then some (.val (.aV cs),.no)else some (.new nb cs (.ptr nb 0) (dZ cs),.no)
    |none=>none
  |.build t parts=>match RV P t (parts.toList.map fun p=>(p.1,ρ p.2)) ro with
    |some cs=>some (.val (.agg cs),.no)
    |none=>none
  |.buildSlice t len parts=>match yd P t len (parts.toList.map fun p=>(p.1,ρ p.2))with
    |some cs=>if dZ cs then none else if ro then some (.new nb cs (.bz nb 0 len len) false,.no)else some (.val (.row len true cs),.no)
    |none=>none
  |.load t addr=>match cC P t,se P t with
    |some sz,some B=>match ρ addr with
      |.aV cs=>some (.val (if B then .agg (cs.take sz)else cs.headD .any),oB (0<sz∧sz≤cs.length))
      |.ptr b off=>match blk b with
        |some cs=>some (.val (if B then .agg ((cs.drop off).take sz)else(cs.drop off).headD .any),oB (0<sz∧off+sz≤cs.length))
        |none=>none
      |_=>none
    |_,_=>none
  |.store t addr x=>match ρ addr,(ρ x).cells,cC P t with
    |.ptr b off,some A,some sz=>match blk b with
      |some cs=>if A.length==sz&&A.all D.iq then some (.store b off A (.lit undef) (dZ A),oB (off+sz≤cs.length))else none
      |none=>none
    |_,_,_=>none
  |.binOp op u x y _=>match(ρ x).cz,(ρ y).cz with
    |some (.int k a),some (.int F b)=>match op with
      |.quo=>if k=F then some (.val (.lit (.int k (k.wrap (a.tdiv b)))),oB (b≠0))else none
      |.rem=>if k=F then some (.val (.lit (.int k (a.tmod b))),oB (b≠0))else none
      |.shl=>some (.val (.lit (.int k (k.wrap (a*2^min b.toNat k.bits)))),oB (0≤b))
      |.shr=>some (.val (.lit (.int k (a.fdiv (2^min b.toNat k.bits)))),oB (0≤b))
      |op=>match fy P (do eqGuard op u x y (.int k a) (.int F b);binOp op u (.int k a) (.int F b))with
        |some v=>some (.val (.lit v),.no)
        |none=>none
    |some (.string a),some (.string b)=>match op with
      |.add=>some (.val (.lit (.string (a++b))),oB (((a.size+b.size:Nat):Int)≤IntKind.i64.max))
      |op=>match fy P (do eqGuard op u x y (.string a) (.string b);binOp op u (.string a) (.string b))with
        |some v=>some (.val (.lit v),.no)
        |none=>none
    |some a,some b=>match fy P (do eqGuard op u x y a b;binOp op u a b)with
      |some v=>some (.val (.lit v),.no)
      |none=>none
    |_,_=>match dq P u,y with
      |some (none,_),.const (.slice none 0 0)=>match op,(ρ x).SA with
        |.eql,true=>some (.val (.lit (.bool false)),.no)
        |.neq,true=>some (.val (.lit (.bool true)),.no)
        |_,_=>match op,(ρ x).S2 with
          |.eql,true=>some (.val (.lit (.bool true)),.no)
          |.neq,true=>some (.val (.lit (.bool false)),.no)
          |_,_=>none
      |_,_=>none
  |.nilCheck x=>match ρ x with
    |.ptr b off=>some (.val (.ptr b off),.no)
    |.aV cs=>some (.val (.aV cs),.no)
    |_=>none
  |.makeFunc fn first E=>match fn with
    |.func f=>if(first.toList.map ρ).all (fun d=>d.refs.isEmpty)&&(E.toList.map ρ).all (fun d=>d.refs.isEmpty)then some (.val (.fn f (first.toList.map ρ) (E.toList.map ρ)),.no)else none
    |_=>none
  |.unOp op _ x=>match(ρ x).cz with
    |some a=>match fy P (Op.unary op a)with
      |some v=>some (.val (.lit v),.no)
      |none=>none
    |none=>none
  |.convert src dst x=>match(ρ x).cz with
    |some a=>match fy P (convert src dst a)with
      |some v=>some (.val (.lit v),.no)
      |none=>none
    |none=>none
  |.makeInterface t x=>match(ρ x).cz with
    |some a=>match fy P (Instr.makeInterface t a)with
      |some v=>some (.val (.lit v),.no)
      |none=>none
    |none=>none
  |.typeAssert x t asserted ok=>match(ρ x).cz with
    |some a=>match fy P (Instr.typeAssert a t asserted ok)with
      |some (.tuple C)=>some (.val (.aY (C.toList.map D.sO)),.no)
      |some v=>some (.val (D.sO v),.no)
      |none=>none
    |none=>none
  |.fieldAddr s x f=>match vC P s f with
    |some (off,t)=>match cC P t with
      |some sz=>if Nat.blt 0 sz then
          match ρ x with
          |.ptr b o=>some (.val (.ptr b (o+off)),.no)
          |.aV cs=>some (.val (.aV (cs.drop off)),.no)
          |_=>none
        else none
      |none=>none
    |none=>none
  |.field s x f=>match vC P s f,ρ x with
    |some (off,t),.agg cs=>match cC P t,se P t with
      |some sz,some B=>some (.val (if B then .agg ((cs.drop off).take sz)else(cs.drop off).headD .any),oB (off<cs.length))
      |_,_=>none
    |_,_=>none
  |.indexAddr t x H=>match dq P t,(ρ H).cz with
    |some (none,e),some (.int _ i)=>match cC P e with
      |some sz=>match ρ x with
        |.row len _ cs=>some (.val (.aV (cs.drop (i.toNat*sz))),oB ((0≤i∧i<len)∧i.toNat*sz<cs.length))
        |.bz b off len _=>some (.val (.ptr b (off+i.toNat*sz)),oB (0≤i∧i<len))
        |.cR b len _=>some (.val (.ptr b (i.toNat*sz)),oB (0≤i∧i<len))
        |_=>none
      |none=>none
    |some (some n,e),some (.int _ i)=>match cC P e with
      |some sz=>match ρ x with
        |.aV cs=>some (.val (.aV (cs.drop (i.toNat*sz))),oB (0≤i∧i<n))
        |.ptr b off=>some (.val (.ptr b (off+i.toNat*sz)),oB (0≤i∧i<n))
        |_=>none
      |none=>none
    |_,_=>none
  |.index t x H=>match(ρ H).cz with
    |some (.int _ i)=>match dq P t,ρ x with
      |some (some n,e),.agg cs=>match cC P e,se P e with
        |some sz,some B=>some (.val (if B then .agg ((cs.drop (i.toNat*sz)).take sz)else(cs.drop (i.toNat*sz)).headD .any),oB ((0≤i∧i<n)∧i.toNat*sz<cs.length))
        |_,_=>none
      |none,d=>match IE P t,d.str with
        |true,some s=>some (.val (.lit (.int .u8 ((s[i.toNat]?).getD 0).toNat)),oB (0≤i∧i.toNat<s.size))
        |_,_=>none
      |_,_=>none
    |_=>none
  |.extract x i=>match ρ x with
    |.aY A=>match A[i]?with
      |some d=>some (.val d,.no)
      |none=>none
    |_=>none
  |.slice t x G r none=>match dq P t with
    |some (none,e)=>match cC P e,ρ x,(match G with|some l=>(ρ l).cz|none=>some (.int .i64 0))with
      |some sz,.row len full cs,some (.int _ l)=>match(match r with|some h=>(ρ h).cz|none=>some (.int .i64 len))with
        |some (.int _ h)=>some (.val (.row (h.toNat-l.toNat) (full&&r.isNone) ((cs.drop (l.toNat*sz)).take ((h.toNat-l.toNat)*sz))),oB (0≤l∧l≤h∧h≤len))
        |_=>none
      |some sz,.bz b off len cap,some (.int _ l)=>match(match r with|some h=>(ρ h).cz|none=>some (.int .i64 len))with
        |some (.int _ h)=>some (.val (.bz b (off+l.toNat*sz) (h.toNat-l.toNat) (cap-l.toNat)),oB (0≤l∧l≤h∧h≤len∧l<cap))
        |_=>none
      |some _,.cR b len size,some (.int _ l)=>match(match r with|some h=>(ρ h).cz|none=>some (.int .i64 len))with
        |some (.int _ h)=>if l==0 then some (.val (.cR b h.toNat size),oB (0≤h∧h≤len))else none
        |_=>none
      |_,_,_=>none
    |some (some n,e)=>match cC P e,ρ x,(match G with|some l=>(ρ l).cz|none=>some (.int .i64 0))with
      |some sz,.aV cs,some (.int _ l)=>match(match r with|some h=>(ρ h).cz|none=>some (.int .i64 n))with
        |some (.int _ h)=>some (.val (.row (h.toNat-l.toNat) r.isNone ((cs.drop (l.toNat*sz)).take ((h.toNat-l.toNat)*sz))),oB (0≤l∧l≤h∧h≤n∧n*sz≤cs.length∧n≤maxLen))
        |_=>none
      |_,_,_=>none
    |none=>match IE P t,(ρ x).str,(match G with|some l=>(ρ l).cz|none=>none),(match r with|some h=>(ρ h).cz|none=>none)with
      |true,some s,some (.int _ l),some (.int _ h)=>some (.val (.lit (.string (s.extract l.toNat h.toNat))),oB (0≤l∧l≤h∧h≤s.size))
      |_,_,_,_=>none
  |.makeSlice t l c=>match dq P t,(ρ l).cz,(ρ c).cz with
    |some (none,e),some (.int .i64 len),some (.int .i64 cap)=>match oI P e,cC P e,P.info? e with
      |some [z],some 1,some i=>some (.new nb (List.replicate len.toNat z) (.bz nb 0 len.toNat len.toNat) false,oB (len=cap∧0≤len∧len*i.bytes≤2^47∧len≤2^62))
      |some j,some n,some i=>if j.length==n&&Nat.blt 0 n then some (.new nb ((List.replicate len.toNat j).flatten) (.cR nb len.toNat n) false,oB (len=cap∧0≤len∧len*i.bytes≤2^47∧len≤2^62))else none
      |_,_,_=>none
    |_,_,_=>none
  |.call c=>match c.callee with
    |.value f=>match AK P (ρ f)with
      |some (f,first,E)=>some (.call f (first++(c.args.toList.map ρ++E)),.no)
      |none=>none
    |.builtin .copy=>match c.args.toList.map ρ,c.argTypes.toList with
      |[.bz b off len _,.row m _ xs],[t,q]=>match dq P t,blk b with
        |some (none,e),some cs=>match cC P e with
          |some sz=>if t==q then some (.store b off (xs.take (Nat.min m len*sz)) (.lit (.int .i64 (zNq (Nat.min m len)))) false,oB (xs.all D.iq=true∧xs.length=m*sz∧off+Nat.min m len*sz≤cs.length))else none
          |none=>none
        |_,_=>none
      |[.cR b len _,.row m _ xs],[t,q]=>match dq P t,blk b with
        |some (none,e),some cs=>match cC P e with
          |some sz=>if t==q then some (.store b 0 (xs.take (Nat.min m len*sz)) (.lit (.int .i64 (zNq (Nat.min m len)))) false,oB (xs.all D.iq=true∧xs.length=m*sz∧0+Nat.min m len*sz≤cs.length))else none
          |none=>none
        |_,_=>none
      |_,_=>none
    |.builtin .len=>match c.args.toList.map ρ with
      |[.row len _ _]=>match c.argTypes.toList with
        |[t]=>match dq P t with
          |some (none,_)=>some (.val (.lit (.int .i64 len)),.no)
          |_=>none
        |_=>none
      |[.bz _ _ len _]=>match c.argTypes.toList with
        |[t]=>match dq P t with
          |some (none,_)=>some (.val (.lit (.int .i64 len)),.no)
          |_=>none
        |_=>none
      |[.cR _ len _]=>match c.argTypes.toList with
        |[t]=>match dq P t with
          |some (none,_)=>some (.val (.lit (.int .i64 len)),.no)
          |_=>none
        |_=>none
      |[d]=>match d.cz with
        |some v=>match fy P (Builtin.len_ c.argTypes o.type #[v])with
          |some v=>some (.val (.lit v),.no)
          |none=>none
        |none=>none
      |_=>none
    |.builtin .max=>match D.nu (c.args.toList.map ρ)with
      |some C=>match fy P (Builtin.max_ c.argTypes o.type C.toArray)with
        |some v=>some (.val (.lit v),.no)
        |none=>none
      |none=>none
    |.builtin .min=>match D.nu (c.args.toList.map ρ)with
      |some C=>match fy P (Builtin.min_ c.argTypes o.type C.toArray)with
        |some v=>some (.val (.lit v),.no)
        |none=>none
      |none=>none
    |.builtin .append=>match c.args.toList.map ρ,c.argTypes.toList with
      |[x,.row m _ g],[t,q]=>match dq P t with
        |some (none,e)=>match P.info? e with
          |some i=>if t==q&&i.zero.any (fun z=>z.cells.size==i.size)&&Nat.blt 0 i.size then match x with
              |.row n true xs=>if ro then some (.val (.row (n+m) false (xs++g)),oB (xs.length=n*i.size∧g.length=m*i.size∧n+m≤2^62∧(n+m)*i.bytes≤2^47))
                  else some (.new nb (xs++g) (.cR nb (n+m) i.size) false,oB (0<m∧xs.length=n*i.size∧g.length=m*i.size∧n+m≤2^62∧(n+m)*i.bytes≤2^47))
              |.cR b n sz=>match blk b with
                |some cs=>if sz==i.size&&(Nat.ble gb b&& !b_ b)then some (.grow b (cs++g) (.cR b (n+m) sz),oB (g.all D.iq=true∧0<m∧cs.length=n*i.size∧g.length=m*i.size∧n+m≤2^62∧(n+m)*i.bytes≤2^47))else none
                |none=>none
              |.bz b off n cap=>match blk b with
                |some cs=>some (if ro then .val (.row (n+m) false ((cs.drop off).take (n*i.size)++g))else .new nb ((cs.drop off).take (n*i.size)++g) (.cR nb (n+m) i.size) false,oB (dZ cs=false∧0<m∧n=cap∧off+n*i.size≤cs.length∧g.length=m*i.size∧n+m≤2^62∧(n+m)*i.bytes≤2^47))
                |none=>none
              |_=>none
            else none
          |none=>none
        |_=>none
      |[x,.lit v],[t,q]=>match v,x with
        |.slice _ 0 _,.row n true xs=>match dq P t with
          |some (none,e)=>match P.info? e with
            |some _=>if t==q then some (.val (.row n true xs),.no)else none
            |none=>none
          |_=>none
        |_,_=>none
      |_,_=>none
    |_=>none
  |_=>none
end Lw
namespace Lw
open Go Go.RowKit
variable {c:Ctx} {n:Nat} {s:FSt} {a:Act} {w:World} {β:Nat→Nat} {X:Nat→Prop}
theorem cP(h:dk c n s a w β X)(x:Operand):cW β w X (a.eval x) (s.ev x):=by
 cases x with
 |tmp t=>exact h.tmp t
 |const v=>exact .c (.p (D.Ja w X v))
 |global g=>exact .c (.p (.lit _))
 |func f=>exact .c (.p (.lit _))
theorem M9(b:Bool)(v:Value):(D.rF b v).ref=none:=by unfold D.rF;split<;>rfl
theorem QN(v:Value):(D.sO v).ref=none:=by unfold D.sO;split<;>rfl
theorem ff{v:Value}{d:D}(j:cU w X v d):d.refs=[]:=by
 cases j with
 |agg us xs f e=>
  refine aoF.2 fun d g=>?_
  obtain⟨i,b,rfl⟩:=alZ.1 g;exact jk (e i (by rw[f];exact b) b)
 |aY us xs f e=>
  refine aoF.2 fun d g=>?_
  obtain⟨i,b,rfl⟩:=alZ.1 g;exact jk (e i (by rw[f];exact b) b)
 |_=>rfl
theorem IY{v:Value}{d:D}(f:cu β w X v d){b:Nat}(e:b∈d.refs):d.ref=some b:=by
 cases f with
 |p h=>rw[ff h]at e;cases e
 |ptr=>simp[D.refs]at e;simp[D.ref,e]
 |bz=>simp[D.refs]at e;simp[D.ref,e]
 |cR=>simp[D.refs]at e;simp[D.ref,e]
theorem ri(h:dk c n s a w β X)(x:Operand)(b:Nat)(d:b∈(s.ev x).refs):(s.blk b).isSome=true:=by
 cases x with
 |tmp t=>exact h.nd t b d
 |const v=>simp only[FSt.ev]at d;rw[ff (D.Ja w X v)]at d;cases d
 |global g=>simp[FSt.ev,D.refs]at d
 |func f=>simp[FSt.ev,D.refs]at d
theorem apG(h:dk c n s a w β X){x:Operand}{v:Value}(e:(s.ev x).cz=some v):a.eval x=v:=
 sA ((cP h x).pure (PV e)) e
theorem GW(h:dk c n s a w β X){x:Operand}{xs:List D}(e:(s.ev x).cells=some xs):LQ (cu β w X) (a.eval x).cells.toList xs:=
 RQ (cP h x) e
theorem x6(h:dk c n s a w β X){x:Operand}{xs:List D}(e:(s.ev x).cells=some xs):∀d∈xs,∀b,d.ref=some b→(s.blk b).isSome=true:=
 fun d f b g=>ri h x b (RR e d f b g)
theorem a9.vF{us:List Value}{cs:List D}(h:a9 w X us cs):a9 w X (us.take cs.length) cs:=by
 rw[←h.1,ank];exact h
theorem xk{α:Type}(l vs:List α)(off k:Nat)(h:off+vs.length≤k)(g:k≤l.length):
  (l.take off++vs++l.drop (off+vs.length)).take k=(l.take k).take off++(vs++(l.take k).drop (off+vs.length)):=by
 apply apn;intro i;simp only[List.getElem?_take,List.getElem?_append,List.getElem?_drop,List.length_take,List.length_append];by_cases b:i<off
 ·simp[b,show i<k by omega,show off≤l.length by omega,show i<off+vs.length by omega]
  intro f;omega
 ·by_cases e:i<off+vs.length
  ·simp[b,show i<k by omega,show min off l.length=off by omega,show min off (min k l.length)=off by omega,e,show i-off<vs.length by omega]
  ·by_cases d:i<k
   ·simp[b,d,show min off l.length=off by omega,show min off (min k l.length)=off by omega,e,show¬i-off<vs.length by omega]
    rw[apB (by omega)]
    congr 1;omega
   ·simp[d,show¬i<min off (min k l.length) by omega,show¬i-min off (min k l.length)<vs.length by omega]
    intro f;omega
def bL(c:Ctx)(n:Nat)(s:FSt)(a:Act)(w:World)(β:Nat→Nat)(X:Nat→Prop)(nb:Nat)(o:Oper):Eff→Prop
 |.val d=>∃v w',(execOp a.eval o).run c.P w=.ok (.value v) w'∧Below w.heap.size w w'∧cW β w' X v d∧∀b∈d.refs,(s.blk b).isSome=true
 |.new b cs d l=>b=nb∧∃k us e v,(execOp a.eval o).run c.P w=.ok (.value v) (k.alloc (.cells us e))∧Below w.heap.size w k∧k.heap.size=w.heap.size∧
   cs.length≤us.size∧LQ (cu β w X) (us.toList.take cs.length) cs∧(∀d'∈cs,∀j,d'.ref=some j→l=true∧(s.blk j).isSome=true)∧d.refs=[b]∧
   ∀g w' X',g b=w.heap.size→w'.shape? w.heap.size=some (e,us.size)→cu g w' X' v d
 |.store b off ds d l=>∃cs us dD e v,d=.lit v∧s.blk b=some cs∧w.heap[β b]? =some (.cells us e (0,0))∧
   (((execOp a.eval o).run c.P w=.ok .skip (w.setRow (β b) dD)∧v=undef)∨(execOp a.eval o).run c.P w=.ok (.value v) (w.setRow (β b) dD))∧dD.size=us.size∧
   off+ds.length≤cs.length∧cs.length≤us.size∧LQ (cu β w X) (dD.toList.take cs.length) (cs.take off++(ds++cs.drop (off+ds.length)))∧∀d'∈ds,∀j,d'.ref=some j→l=true∧(s.blk j).isSome=true
 |.grow b cs d=>∃v w' g X',(execOp a.eval o).run c.P w=.ok (.value v) w'∧dk c n ((s.clear b).bS b (some cs) false) a w' g X'∧cu g w' X' v d∧d.refs=[b]
 |.call f args=>∃vals:List Value,(execOp a.eval o).run c.P w=.ok (.enter f vals.toArray) w∧vals.length=args.length∧(∀i(h:i<vals.length)(m:i<args.length),cW β w X vals[i] args[i])∧
   ∀d∈args,∀b∈d.refs,(s.blk b).isSome=true
theorem bL.IV{nb:Nat}{o:Oper}{v:Value}{d:D}(g:(execOp a.eval o).run c.P w=.ok (.value v) w)(e:cW β w X v d)
  (f:∀b∈d.refs,(s.blk b).isSome=true):bL c n s a w β X nb o (.val d):=⟨v,w,g,Below.refl _ _,e,f⟩
theorem bL.mk{nb:Nat}{o:Oper}{v:Value}{d:D}{w':World}(i:(execOp a.eval o).run c.P w=.ok (.value v) w')(e:Below w.heap.size w w')(f:cu β w' X v d)
  (g:∀b,d.ref=some b→(s.blk b).isSome=true):bL c n s a w β X nb o (.val d):=⟨v,w',i,e,.c f,fun b e=>g b (IY f e)⟩
theorem bL.same{nb:Nat}{o:Oper}{v:Value}{d:D}(g:(execOp a.eval o).run c.P w=.ok (.value v) w)(e:cu β w X v d)
  (f:∀b,d.ref=some b→(s.blk b).isSome=true):bL c n s a w β X nb o (.val d):=bL.mk g (Below.refl _ _) e f
theorem bL.lit{nb:Nat}{o:Oper}{v:Value}(e:(execOp a.eval o).run c.P w=.ok (.value v) w):bL c n s a w β X nb o (.val (.lit v)):=
 bL.same e (.p (.lit v)) (fun b d=>by simp[D.ref]at d)
theorem TY(w:World)(X:Nat→Prop){P:Program}{t:TypeId}{d:List D}(e:oI P t=some d):∃z,(zeroValue t).run P w=.ok z w∧a9 w X z.cells.toList d∧d.length=z.cells.size:=by
 unfold oI z7 at e;cases b:P.info? t with
 |none=>simp[b]at e
 |some i=>
  cases f:i.zero with
  |none=>simp[b,f]at e
  |some z=>
   simp[b,f]at e;subst e;exact⟨z,by simp[zeroValue,typeInfo,b,f],od w X _,by simp⟩
theorem PL(w:World)(X:Nat→Prop){P:Program}{t:TypeId}{d:List D}(e:AZ P t=some d):∃z,(zeroValue t).run P w=.ok z w∧a9 w X z.cells.toList d∧d.length=z.cells.size:=by
 unfold AZ z7 at e;cases b:P.info? t with
 |none=>simp[b]at e
 |some i=>
  cases f:i.zero with
  |none=>simp[b,f]at e
  |some z=>
   simp[b,f]at e;subst e;exact⟨z,by simp[zeroValue,typeInfo,b,f],vJ true w X _,by simp⟩
theorem pG{v:Value}{xs:List D}(b:cU w X v (.aV xs)):∃ad us,v=.pointer (some ad)∧a9 w X us xs∧∀i(h:i<us.length),¬X ad.block∧w.cell? (ad.add i)=some us[i]:=by
 cases b with
 |aV ad us _ e hm d=>exact⟨ad,us,rfl,⟨e,d⟩,hm⟩
theorem yD{v:Value}{b off:Nat}(d:cW β w X v (.ptr b off)):v=.pointer (some ⟨β b,off,none⟩):=by
 cases d with
 |c d=>cases d with
  |p e=>cases e
  |ptr=>rfl
theorem yA{v:Value}{b off len d:Nat}(e:cW β w X v (.bz b off len d)):v=.slice (some ⟨β b,off,none⟩) len d∧len≤d∧d≤maxLen:=by
 cases e with
 |c e=>cases e with
  |p f=>cases f
  |bz _ _ _ _ i g=>exact⟨rfl,i,g⟩
theorem Jl{Q:Value→D→Prop}{t:TypeId}{sz:Nat}{g:Bool}{ad:Addr}{us:List Value}{xs:List D}(b:cC c.P t=some sz)(e:se c.P t=some g)
  (f:LQ Q us xs) (p:∀i(h:i<us.length),w.cell? (ad.add i)=some us[i]) (B:0<sz) (hle:sz≤xs.length):
  ∃v,(loadVar t ad).run c.P w=.ok v w∧((g=true∧∃dD,v=.agg dD.toArray∧LQ Q dD (xs.take sz))∨(g=false∧Q v (xs.headD .any))):=by
 unfold cC at b;unfold se at e;cases l:c.P.info? t with
 |none=>rw[l]at b;cases b
 |some i=>
  rw[l]at b;simp only[Option.map_some,zIq]at b;subst b;cases hu:c.P.underlying t with
  |none=>rw[hu]at e;cases e
  |some d=>
   rw[hu]at e;simp only[Option.map_some,zIq]at e;have q:(isAgg t).run c.P w=.ok g w:=by
    rw[←e];cases d<;>simp[isAgg,run_underlying hu]
   cases g with
   |true=>
    have r:i.size=(us.take i.size).length:=by have:=f.1;simp;omega
    have y:(loadCells ad i.size).run c.P w=.ok (us.take i.size).toArray w:=by
     have:=run_loadCells_list (P:=c.P) w ad (us.take i.size) (fun j v k=>by
      rw[amA]at k;split at k
      ·obtain⟨A,z⟩:=ana.1 k
       rw[p j A,z]
      ·cases k)
     rw[←r]at this;exact this
    refine⟨.agg (us.take i.size).toArray,?_,.inl ⟨rfl,_,rfl,f.take i.size⟩⟩;simp[loadVar,q,Go.sizeOf,typeInfo,l,y]
   |false=>
    cases us with
    |nil=>have:=f.1;simp at this;omega
    |cons u us=>
     cases xs with
     |nil=>have:=f.1;simp at this
     |cons x xs=>
      refine⟨u,?_,.inr ⟨rfl,f.2 0 (by simp) (by simp)⟩⟩
      have:=p 0 (by simp)
      have m:ad.add 0=ad:=by unfold Addr.add;simp
      rw[m]at this;simp[loadVar,q,this]
theorem Np{t:TypeId}{sz:Nat}{d:Bool}{ad:Addr}{us:List Value}{xs:List D}(f:cC c.P t=some sz)(j:se c.P t=some d)
  (g:a9 w X us xs) (e:∀i(h:i<us.length),w.cell? (ad.add i)=some us[i]) (m:0<sz) (hle:sz≤xs.length):
  ∃v,(loadVar t ad).run c.P w=.ok v w∧cU w X v (if d then .agg (xs.take sz)else xs.headD .any):=by
 obtain⟨v,l,k⟩:=Jl f j (Q:=cU w X) g e m hle;refine⟨v,l,?_⟩;rcases k with⟨rfl,dD,rfl,b⟩|⟨rfl,b⟩
 ·exact cU.Gf b
 ·exact b
theorem Jk{t:TypeId}{sz:Nat}{d:Bool}{ad:Addr}{us:List Value}{xs:List D}(f:cC c.P t=some sz)(j:se c.P t=some d)
  (g:LQ (cu β w X) us xs) (e:∀i(h:i<us.length),w.cell? (ad.add i)=some us[i]) (m:0<sz) (hle:sz≤xs.length):
  ∃v,(loadVar t ad).run c.P w=.ok v w∧cW β w X v (if d then .agg (xs.take sz)else xs.headD .any):=by
 obtain⟨v,l,k⟩:=Jl f j g e m hle;refine⟨v,l,?_⟩;rcases k with⟨rfl,dD,rfl,b⟩|⟨rfl,b⟩
 ·exact .agg _ _ b
 ·exact .c b
theorem yE{i:Bool}{xs:List D}{off sz:Nat}{p:Nat→Prop}(g:off<xs.length)(j:∀d∈xs,∀b,d.ref=some b→p b)(k:i=false→∀d∈xs,∀b∈d.refs,d.ref=some b):
  ∀b∈(if i then D.agg ((xs.drop off).take sz)else(xs.drop off).headD .any).refs,p b:=by
 intro b f;cases i with
 |true=>
  obtain⟨d,l,e⟩:=amh.1 (show b∈((xs.drop off).take sz).filterMap D.ref from f)
  exact j d (ao2 (anv l)) b e
 |false=>
  simp only[Bool.false_eq_true,if_false]at f;have e:(xs.drop off).headD .any=xs[off]:=by rw[am1 g];rfl
  rw[e]at f;exact j _ (al2 g) b (k rfl _ (al2 g) b f)
theorem ze{us:List Value}{xs:List D}(h:LQ (cu β w X) us xs):∀d∈xs,∀b∈d.refs,d.ref=some b:=by
 intro d f b g;obtain⟨i,e,rfl⟩:=alZ.1 f;exact IY (h.2 i (by rw[h.1];exact e) e) g
section ops
variable (h:dk c n s a w β X) {o:Oper} {nb:Nat}
include h
theorem SX{x:Operand}(b:o.op=.move x∨o.op=.assign x):bL c n s a w β X nb o (.val (s.ev x)):=by
 refine .IV (v:=a.eval x) ?_ (cP h x) (ri h x);rcases b with b|b<;>simp[execOp,b]
theorem SW{k x y:Operand}(d:o.op=.pick k x y)(b:Bool)(e:s.ev k=.lit (.bool b)):bL c n s a w β X nb o (.val (if b then s.ev x else s.ev y)):=by
 have f:a.eval k=.bool b:=apG h (by rw[e];rfl)
 refine .IV (v:=if b then a.eval x else a.eval y) ?_ (by cases b<;>first|exact cP h y|exact cP h x) (by cases b<;>first|exact ri h y|exact ri h x)
 simp[execOp,d,f,asBool]
omit h in
theorem gS{us:List Value}{cs:List D}(b:a9 w X us cs):∀d∈cs,d.ref=none:=fun d f=>by
 obtain⟨i,e,rfl⟩:=alZ.1 f;exact jk (b.2 i (by rw[b.1];exact e) e)
theorem Jd(us:Array Value)(e:TypeId){cs:List D}(f:a9 w X us.toList cs):
  cU (w.alloc (.cells us e)) X (.pointer (some ⟨w.heap.size,0,none⟩)) (.aV cs):=by
 have g:Below w.heap.size w (w.alloc (.cells us e)):=(Below.refl _ _).alloc (alE _) _;have b:=f.mono (iG (X:=X) g);refine .aV _ us.toList cs b.1 (fun i j=>⟨fun d=>?_,?_⟩) b.2
 ·exact apC (h.oE _ d) (by simp)
 ·rw[Addr.jr,amv,cell_of_row _ _ _ us e (0,0) (heap_alloc_new w _)]
  simp
theorem Zi{elem:TypeId}{ro:Bool}{f:List D}(m:o.op=.alloc elem)(l:oI c.P elem=some f):
  bL c n s a w β X nb o (if ro then .val (.aV f)else .new nb f (.ptr nb 0) false):=by
 obtain⟨z,q,g,k⟩:=TY w X l;have i:(execOp a.eval o).run c.P w=.ok (.value (.pointer (some ⟨w.heap.size,0,none⟩))) (w.alloc (.cells z.cells elem)):=by
  simp[execOp,m,Instr.alloc,q,newVar,newRow]
 cases ro with
 |true=>exact bL.mk i ((Below.refl _ _).alloc (alE _) _) (.p (Jd h _ _ g)) fun b e=>by simp[D.ref]at e
 |false=>exact⟨rfl,w,_,_,_,i,Below.refl _ _,rfl,by omega,g.vF.lq,fun d p b e=>(by
   have:=(gS g) d p;rw[this]at e;cases e),rfl,fun r t u j _=>by rw[←j];exact .ptr nb 0⟩
omit h in
theorem UY{elem:TypeId}{e:List D}(m:o.op=.alloc elem)(k:AZ c.P elem=some e):
  bL c n s a w β X nb o (.new nb e (.ptr nb 0) false):=by
 obtain⟨z,q,f,j⟩:=PL w X k;have l:(execOp a.eval o).run c.P w=.ok (.value (.pointer (some ⟨w.heap.size,0,none⟩))) (w.alloc (.cells z.cells elem)):=by
  simp[execOp,m,Instr.alloc,q,newVar,newRow]
 exact⟨rfl,w,_,_,_,l,Below.refl _ _,rfl,by omega,f.vF.lq,fun d p b g=>(by
   have:=(gS f) d p;rw[this]at g;cases g),rfl,fun r t u i _=>by rw[←i];exact .ptr nb 0⟩
theorem Zh{elem:TypeId}{x:Operand}{ro:Bool}{cs:List D}(m:o.op=.box elem x)(k:(s.ev x).cells=some cs)(f:ro=true→dZ cs=false):
  bL c n s a w β X nb o (if ro then .val (.aV cs)else .new nb cs (.ptr nb 0) (dZ cs)):=by
 have g:=GW h k;have i:(execOp a.eval o).run c.P w=.ok (.value (.pointer (some ⟨w.heap.size,0,none⟩))) (w.alloc (.cells (a.eval x).cells elem)):=by
  simp[execOp,m,Instr.box,newVar,newRow]
 cases ro with
 |true=>exact bL.mk i ((Below.refl _ _).alloc (alE _) _) (.p (Jd h _ _ (g.pure (iL (f rfl))))) fun b e=>by simp[D.ref]at e
 |false=>exact⟨rfl,w,_,_,_,i,Below.refl _ _,rfl,by have:=g.1;rw[amM]at this;omega,g.vF,fun d j b e=>⟨wH j e,x6 h k d j b e⟩,rfl,fun p q r l _=>by rw[←l];exact .ptr nb 0⟩
theorem BY(place:Nat→Option (Nat×Nat)):∀(parts:List (Nat×Operand))(us:Array Value)(cs cs':List D),LQ (cu β w X) us.toList cs→(∀d∈cs,∀b,d.ref=some b→(s.blk b).isSome=true)→
  GV place cs (parts.map fun p=>(p.1,s.ev p.2))=some cs'→
  ∃dD,Instr.fill place us (parts.map fun p=>(p.1,a.eval p.2))=some dD∧LQ (cu β w X) dD.toList cs'∧∀d∈cs',∀b,d.ref=some b→(s.blk b).isSome=true
 |[],us,cs,cs',j,g,e=>by
  simp only[List.map_nil,GV,zIq]at e;subst e;exact⟨us,by simp[Instr.fill],j,g⟩
 |(i,x)::rest,us,cs,cs',j,g,e=>by
  simp only[List.map_cons,GV]at e;split at e
  ·rename_i off size ds B q
   split at e
   ·rename_i v
    simp only[zLq,beq_iff_eq,Nat.ble_eq]at v;have f:=GW h q;have r:(a.eval x).cells.size=size:=by have:=f.1;rw[amM]at this;omega
    have u:us.size=cs.length:=by simpa using j.1
    obtain⟨f1,f2⟩:=Great.foldl_set off (a.eval x).cells.toList 0 us;have t:(a.eval x).cells.zipIdx.toList=(a.eval x).cells.toList.zipIdx 0:=by rw[Array.toList_zipIdx]
    generalize y:((a.eval x).cells.toList.zipIdx 0).foldl (fun cs (x:Value×Nat)=>cs.setIfInBounds (off+x.2) x.1) us=U at f1 f2
    have C:U.toList=us.toList.take off++((a.eval x).cells.toList++us.toList.drop (off+size)):=by
     apply apn;intro k;rw[aoV,f2 k];simp only[Nat.add_zero,Array.length_toList,r];by_cases k1:k<off
     ·rw[apA (by omega),amp (by simp;omega),amA,apB k1,aoV]
     ·by_cases k2:k<off+size
      ·rw[apB ⟨by omega,k2,by omega⟩,aml (by simp;omega),amp (by simp;omega)]
       congr 1;simp;omega
      ·rw[apA (by omega),aml (by simp;omega),aml (by simp;omega),anh,aoV]
       congr 1;simp;omega
    have E:LQ (cu β w X) U.toList (cs.take off++(ds++cs.drop (off+size))):=by
     rw[C];exact(j.take off).append (f.append (j.drop (off+size)))
    have m:∀d∈cs.take off++(ds++cs.drop (off+size)),∀b,d.ref=some b→(s.blk b).isSome=true:=by
     intro d f b l;rcases amy.1 f with f|f
     ·exact g d (anv f) b l
     ·rcases amy.1 f with f|f
      ·exact x6 h q d f b l
      ·exact g d (ao2 f) b l
    obtain⟨dD,A,z⟩:=BY place rest U _ cs' E m e;refine⟨dD,?_,z⟩;simp only[List.map_cons,Instr.fill,B];rw[apA (by simp[r];omega)]
    have:(a.eval x).cells.zipIdx.foldl (fun cs (x:Value×Nat)=>cs.setIfInBounds (off+x.2) x.1) us=U:=by
     rw[←Array.foldl_toList,t];exact y
    simp only[this];exact A
   ·cases e
  ·cases e
theorem Zg{t:TypeId}{parts:Array (Nat×Operand)}{cs:List D}{l:Bool}(C:o.op=.build t parts)
  (e:RV c.P t (parts.toList.map fun p=>(p.1,s.ev p.2)) l=some cs):bL c n s a w β X nb o (.val (.agg cs)):=by
 have key:∀dD,(Instr.build t (parts.map fun p=>(p.1,a.eval p.2))).run c.P w=.ok (.agg dD) w→LQ (cu β w X) dD.toList cs→(∀d∈cs,∀b,d.ref=some b→(s.blk b).isSome=true)→bL c n s a w β X nb o (.val (.agg cs)):=by
  intro dD E q f;refine .IV (v:=.agg dD) ?_ ?_ (fun b i=>?_)
  ·simp[execOp,C,E]
  ·have:=cW.agg _ _ q;simpa using this
  ·obtain⟨d,u,e⟩:=amh.1 i
   exact f d u b e
 have j:∀dD,c.P.built t ((parts.map fun p=>(p.1,a.eval p.2)).toList)=some dD→LQ (cu β w X) dD.toList cs→(∀d∈cs,∀b,d.ref=some b→(s.blk b).isSome=true)→bL c n s a w β X nb o (.val (.agg cs)):=
  fun dD i q f=>key dD (run_build w t _ dD i) q f
 have k:∀(z:Value)(d:D),d∈z.cells.toList.map (D.rF l)→∀b,d.ref=some b→(s.blk b).isSome=true:=fun z d u b i=>by
  obtain⟨v,_,rfl⟩:=ama.1 u;rw[M9]at i;cases i
 unfold RV at e;split at e
 ·rename_i it n G B A
  split at e
  ·rename_i z F y x
   obtain⟨dD,r,m,g⟩:=BY h _ parts.toList z.cells _ cs (vJ l w X _).lq (k z) e;exact j dD (by simp only[Program.built,B,A,y,x,Array.toList_map];exact r) m g
  ·cases e
 ·rename_i it fields B A
  split at e
  ·rename_i z places y x
   obtain⟨dD,r,m,g⟩:=BY h _ parts.toList z.cells _ cs (vJ l w X _).lq (k z) e;exact j dD (by simp only[Program.built,B,A,y,x,Array.toList_map];exact r) m g
  ·cases e
 ·cases e
theorem zL{t:TypeId}{len:Nat}{parts:Array (Nat×Operand)}{cs:List D}(K:o.op=.buildSlice t len parts)
  (e:yd c.P t len (parts.toList.map fun p=>(p.1,s.ev p.2))=some cs) (x:dZ cs=false) (ro:Bool):bL c n s a w β X nb o (if ro then .new nb cs (.bz nb 0 len len) false else .val (.row len true cs)):=by
 unfold yd at e;split at e
 ·rename_i el M
  split at e
  ·rename_i k J q j
   split at e
   ·rename_i L
    simp only[zLq,beq_iff_eq,Nat.ble_eq,Nat.blt_eq]at L;unfold cC at q;unfold oI z7 at j;cases u:c.P.info? el with
    |none=>rw[u]at q;cases q
    |some f=>
     rw[u]at q j;simp only[Option.map_some,zIq,Option.bind_some]at q j;cases A:f.zero with
     |none=>rw[A]at j;cases j
     |some z=>
      rw[A]at j;simp only[Option.map_some,zIq]at j;subst q;have hlen:J.length=z.cells.size:=by rw[←j];simp
      have r:a9 w X ((Array.range (len*f.size)).map (z.cells[·%z.cells.size]!)).toList (Bb J (len*f.size)):=by
       refine⟨by simp[Bb],fun i G V=>?_⟩
       have v:i%z.cells.size<z.cells.size:=al8 _ (by omega)
       have B:=(od w X z.cells.toList).2 (i%z.cells.size) (by simpa using v) (by simpa using v)
       simp only[Array.toList_map,List.getElem_map,Array.toList_range,List.getElem_range,Bb,←j];rw[alD,alK (by simpa using v),Option.getD_some,getElem!_pos z.cells _ v]
       simpa using B
      obtain⟨dD,S,m,-⟩:=BY h (fun i=>some (i*f.size,f.size)) parts.toList _ _ cs r.lq (fun d F b g=>by rw[gS r d F]at g;cases g) e
      have P:=m.pure (iL x);have l:Instr.fill (fun i=>some (i*f.size,f.size)) ((Array.range (len*f.size)).map (z.cells[·%z.cells.size]!)) ((parts.map fun p=>(p.1,a.eval p.2)).toList)=some dD:=by
       rw[Array.toList_map];exact S
      have N:(Instr.buildSlice t len (parts.map fun p=>(p.1,a.eval p.2))).run c.P w=.ok (.slice (some ⟨w.heap.size,0,none⟩) len len) (w.alloc (.cells dD el)):=by
       by_cases H:len*f.size=0
       ·have E:len=0:=by
         rcases Nat.mul_eq_zero.1 H with G|G
         ·exact G
         ·omega
        subst E;have C:(Array.range (0*f.size)).map (z.cells[·%z.cells.size]!)=(#[]:Array Value):=by rw[H];simp
        rw[C,Array.toList_map]at l;have y:Array.map (fun _=>(default:Value)) (Array.range 0)= #[]:=by apply amI;simp
        simp only[Instr.buildSlice,Sem.run_bind,run_underlying M,Result.andThen_ok,Go.sizeOf,typeInfo,program,Sem.run,u,Sem.run_pure,Nat.zero_mul];simp[y,l,newRow]
       ·exact run_buildSlice w t el len _ dD f z M u A (by omega) H l
      have g:Below w.heap.size w (w.alloc (.cells dD el)):=(Below.refl _ _).alloc (alE _) _;have O:=P.mono (iG (X:=X) g);have hle:len≤maxLen:=by
       have:len*1≤len*f.size:=amc _ L.2;unfold maxLen;omega
      have I:(execOp a.eval o).run c.P w=.ok (.value (.slice (some ⟨w.heap.size,0,none⟩) len len)) (w.alloc (.cells dD el)):=by simp[execOp,K,N]
      cases ro with
      |true=>exact⟨rfl,w,_,_,_,I,Below.refl _ _,rfl,by have:=m.1;rw[amM]at this;omega,m.vF,fun d F b g=>(by rw[wH F g]at x;cases x),rfl,fun T U W R _=>by rw[←R];exact .bz nb 0 len len (alE _) hle⟩
      |false=>
      refine bL.mk ?_ g (.p (.row (some ⟨w.heap.size,0,none⟩) len len true dD.toList cs O.1 (alE _) hle (fun _=>rfl) (fun i u=>⟨_,rfl,fun B=>apC (h.oE _ B) (by simp),?_⟩) O.2)) fun b g=>by simp[D.ref]at g
      ·simp[execOp,K,N]
      ·rw[Addr.jr,amv,cell_of_row _ _ _ dD el (0,0) (heap_alloc_new w _)]
       simp
   ·cases e
  ·cases e
 ·cases e
theorem I8{b off:Nat}{cs:List D}(g:s.blk b=some cs):∃us:List Value,LQ (cu β w X) us (cs.drop off)∧
  ∀i(h:i<us.length),w.cell? ((⟨β b,off,none⟩:Addr).add i)=some us[i]:=by
 obtain⟨_,_,us,e,hu,_,d⟩:=h.blk b cs g;refine⟨(us.toList.take cs.length).drop off,d.drop off,fun i f=>?_⟩
 rw[Addr.jr,cell_of_row w _ _ us e (0,0) hu];simp at f⊢
theorem KK{t:TypeId}{x:Operand}{sz:Nat}{g:Bool}{cs:List D}(l:o.op=.load t x)(k:cC c.P t=some sz)(p:se c.P t=some g)
  (j:s.ev x=.aV cs) (q:0<sz) (hle:sz≤cs.length):bL c n s a w β X nb o (.val (if g then .agg (cs.take sz)else cs.headD .any)):=by
 have e:=cP h x;rw[j]at e;obtain⟨A,us,y,u,r⟩:=pG (e.pure rfl);obtain⟨v,z,d⟩:=Np k p u (fun i m=>(r i m).2) q hle
 refine .same (v:=v) ?_ (.p d) (fun b f=>?_)
 ·simp[execOp,l,Instr.loadAt,Instr.sureAddr,y,z]
 ·rw[jk d]at f;cases f
theorem M3{t:TypeId}{x:Operand}{sz b off:Nat}{g:Bool}{cs:List D}(m:o.op=.load t x)(l:cC c.P t=some sz)(q:se c.P t=some g)
  (k:s.ev x=.ptr b off) (e:s.blk b=some cs) (u:0<sz) (hle:off+sz≤cs.length):
  bL c n s a w β X nb o (.val (if g then .agg ((cs.drop off).take sz)else(cs.drop off).headD .any)):=by
 have f:=cP h x;rw[k]at f;obtain⟨us,z,y⟩:=I8 h (off:=off) e;obtain⟨v,A,j⟩:=Jk l q z y u (by simp;omega)
 obtain⟨_,_,i,_,_,_,r⟩:=h.blk b cs e;refine .IV (v:=v) ?_ j (yE (by omega) (fun d p B C=>(h.tB b cs e d p B C).2) fun _=>ze r)
 simp[execOp,m,Instr.loadAt,Instr.sureAddr,yD f,A]
theorem Zc{t:TypeId}{x y:Operand}{b off sz:Nat}{ds cs:List D}(I:o.op=.store t x y)(f:cC c.P t=some sz)
  (H:s.ev x=.ptr b off) (u:(s.ev y).cells=some ds) (B:s.blk b=some cs) (z:ds.length=sz) (G:ds.all D.iq=true) (hle:off+sz≤cs.length):
  bL c n s a w β X nb o (.store b off ds (.lit undef) (dZ ds)):=by
 have m:=cP h x;rw[H]at m;have p:=GW h u;obtain⟨_,_,us,e,hu,l,r⟩:=h.blk b cs B;have j:(a.eval y).cells.toList.length=sz:=by rw[p.1];exact z
 have k:(a.eval y).cells.size=sz:=by simpa using j
 have L:∀v∈(a.eval y).cells.toList,v.oneCell'=true:=by
  intro v m;obtain⟨i,g,rfl⟩:=alZ.1 m;have C:i<ds.length:=by rw[←p.1];exact g
  exact AJ (p.2 i g C) (al9.1 G _ (al2 C))
 have q:=run_storeCells_at c.P (β b) off e (a.eval y).cells.toList 0 us w hu (by rw[j];omega) L
 refine⟨cs,us,(us.toList.take off++(a.eval y).cells.toList++us.toList.drop (off+sz)).toArray,e,undef,rfl,B,hu,.inl ⟨?_,rfl⟩,?_,by omega,l,?_,fun d A J F=>⟨wH A F,x6 h u d A J F⟩⟩
 ·have K:(Go.sizeOf t).run c.P w=.ok sz w:=by
   unfold cC at f;cases g:c.P.info? t with
   |none=>rw[g]at f;cases f
   |some i=>rw[g]at f;simp only[Option.map_some,zIq]at f;subst f;simp[Go.sizeOf,typeInfo,g]
  simp only[Nat.add_zero,j]at q;simp[execOp,I,Instr.storeAt,Instr.sureAddr,yD m,storeVar,K,k,q]
 ·simp only[List.size_toArray,List.length_append,List.length_take,List.length_drop,Array.length_toList,k]
  omega
 ·have E:=xk us.toList (a.eval y).cells.toList off cs.length (by rw[j];omega) (by simpa using l)
  rw[j]at E;have:(us.toList.take off++(a.eval y).cells.toList++us.toList.drop (off+sz)).toArray.toList.take cs.length=(us.toList.take off++(a.eval y).cells.toList++us.toList.drop (off+sz)).take cs.length:=by simp
  rw[this,E,z];exact(r.take off).append (p.append (r.drop (off+sz)))
end ops
end Lw
namespace Lw
open Go Go.RowKit
variable {c:Ctx} {n:Nat} {s:FSt} {a:Act} {w:World} {β:Nat→Nat} {X:Nat→Prop}
theorem ji{t:TypeId}{sz:Nat}{P:Program}(w:World)(b:cC P t=some sz):(Go.sizeOf t).run P w=.ok sz w:=by
 unfold cC at b;cases d:P.info? t with
 |none=>rw[d]at b;cases b
 |some i=>rw[d]at b;simp only[Option.map_some,zIq]at b;subst b;simp[Go.sizeOf,typeInfo,d]
theorem Da{P:Program}{t:TypeId}{f off:Nat}{d:TypeId}(e:vC P t f=some (off,d)):
  ∃fields fd,P.underlying t=some (.struct fields)∧fields[f]? =some fd∧fd.offset=off∧fd.type=d:=by
 unfold vC at e;split at e
 ·rename_i fields g
  cases b:fields[f]?with
  |none=>rw[b]at e;cases e
  |some fd=>
   rw[b]at e;simp only[Option.map_some,zIq,zJq]at e;exact⟨fields,fd,g,b,e.1,e.2⟩
 ·cases e
theorem cJ{P:Program}{t:TypeId}{e:TypeId}(h:dq P t=some (none,e)):P.underlying t=some (.slice e):=by
 unfold dq at h;split at h
 ·rename_i d b
  simp only[zIq,zJq,true_and]at h;rw[b,h]
 ·simp at h
 ·cases h
theorem wm{P:Program}{t:TypeId}{n:Nat}{e:TypeId}(h:dq P t=some (some n,e)):P.underlying t=some (.array n e):=by
 unfold dq at h;split at h
 ·simp at h
 ·rename_i d f b
  simp only[zIq,zJq]at h;rw[b,h.1,h.2]
 ·cases h
theorem TS{t:TypeId}{e:Bool}{P:Program}(w:World)(b:se P t=some e):(isAgg t).run P w=.ok e w:=by
 unfold se at b;cases hu:P.underlying t with
 |none=>rw[hu]at b;cases b
 |some d=>
  rw[hu]at b;simp only[Option.map_some,zIq]at b;rw[←b];cases d<;>simp[isAgg,run_underlying hu]
theorem SH{ad:Addr}{us:List Value}{xs:List D}(b:a9 w X us xs)(d:∀i(h:i<us.length),¬X ad.block∧w.cell? (ad.add i)=some us[i]):
  cU w X (.pointer (some ad)) (.aV xs):=.aV ad us xs b.1 d b.2
theorem CB{ad:Addr}{us:List Value}{xs:List D}(b:a9 w X us xs)(d:∀i(h:i<us.length),¬X ad.block∧w.cell? (ad.add i)=some us[i])(k:Nat):
  cU w X (.pointer (some (ad.add k))) (.aV (xs.drop k)):=by
 refine SH (b.drop k) fun i e=>?_
 have j:k+i<us.length:=by simp at e;omega
 obtain⟨g,f⟩:=d (k+i) j;exact⟨by rw[Addr.block_add];exact g,by rw[Addr.add_add,f,anT]⟩
theorem MW{t:TypeId}{sz:Nat}{d:Bool}{P:Program}(j:cC P t=some sz)(f:se P t=some d){us:Array Value}{cs:List D}(b:LQ (cu β w X) us.toList cs){off:Nat}(i:off<cs.length):
  ∃v,(part t us off).run P w=.ok v w∧cW β w X v (if d then .agg ((cs.drop off).take sz)else(cs.drop off).headD .any):=by
 cases d with
 |true=>
  refine⟨.agg (us.extract off (off+sz)),by simp[part,TS w f,ji w j],?_⟩
  have:=cW.agg _ _ ((b.drop off).take sz);have e:((us.toList.drop off).take sz).toArray=us.extract off (off+sz):=by
   apply amB.1;simp[Array.toList_extract]
  rw[e]at this;exact this
 |false=>
  have g:off<us.size:=by have:=b.1;simp at this;omega
  refine⟨us[off],by simp[part,TS w f,g],?_⟩
  have:=b.2 off (by simpa using g) i
  have e:(cs.drop off).headD .any=cs[off]:=by
   rw[am1 i];rfl
  simp only[Bool.false_eq_true,if_false,e];exact .c (by simpa using this)
theorem TR{v:Value}{cs:List D}(b:cW β w X v (.agg cs)):∃us:Array Value,v=.agg us∧LQ (cu β w X) us.toList cs:=by
 cases b with
 |c b=>cases b with
  |p b=>cases b with
   |agg us _ e d=>exact⟨us.toArray,rfl,by simpa using e,fun i g f=>.p (by simpa using d i (by simpa using g) f)⟩
 |agg us _ h=>exact⟨us.toArray,rfl,by simpa using h⟩
theorem oK{v:Value}{len:Nat}{full:Bool}{xs:List D}(d:cU w X v (.row len full xs)):
  ∃ad cap us,v=.slice ad len cap∧len≤cap∧cap≤maxLen∧(full=true→cap=len)∧a9 w X us xs∧
   ∀i(h:i<us.length),∃b,ad=some b∧¬X b.block∧w.cell? (b.add i)=some us[i]:=by
 cases d with
 |row ad len cap full us _ f hlen j g hm e=>exact⟨ad,cap,us,rfl,hlen,j,g,⟨f,e⟩,hm⟩
theorem IQ{P:Program}{t:TypeId}(h:IE P t=true):P.underlying t=some .string:=by
 unfold IE at h;split at h
 ·assumption
 ·cases h
theorem Sx{v:Value}{d:D}{s:ByteArray}(b:cU w X v d)(h:d.str=some s):v=.string s:=by
 cases b with
 |lit v=>cases v<;>simp only[D.str,zIq,reduceCtorEq]at h;subst h;rfl
 |_=>simp[D.str]at h
theorem Sy{d:D}{s:ByteArray}(h:d.str=some s):d.refs=[]:=by cases d<;>simp[D.str,D.refs]at h⊢
theorem acn{v:Value}{cs:List D}(b:cW β w X v (.aY cs)):∃us:Array Value,v=.tuple us∧LQ (cu β w X) us.toList cs:=by
 cases b with
 |c b=>cases b with
  |p b=>cases b with
   |aY us _ e d=>exact⟨us.toArray,rfl,by simpa using e,fun i g f=>.p (by simpa using d i (by simpa using g) f)⟩
 |aY us _ h=>exact⟨us.toArray,rfl,by simpa using h⟩
theorem fk{P:Program}(w:World){k:IntKind}{i:Int}{y:Nat}{code:BoundsCode}(d:0≤i)(b:i≤y):(Instr.sliceBound (.int k i) y code).run P w=.ok i.toNat w:=by
 simp[Instr.sliceBound,asIntOf,d,b]
theorem yU{v:Value}{b n size:Nat}(d:cW β w X v (.cR b n size)):∃cap e,v=.slice (some ⟨β b,0,none⟩) n cap∧n≤cap∧cap≤maxLen∧w.shape? (β b)=some (e,cap*size):=by
 cases d with
 |c d=>cases d with
  |p f=>cases f
  |cR _ _ _ cap e j i g=>exact⟨cap,e,rfl,j,i,g⟩
theorem Gi{v:Value}{q:Nat}{full:Bool}{d:List D}(l:cU w X v (.row q full d)){sz:Nat}(p:d.length=q*sz)(m:0<q)(x:0<sz):
  ∃b e dD,v=.slice (some b) q e∧dD.length=q*sz∧a9 w X dD d∧∀j u,dD[j]? =some u→w.cell? (b.add j)=some u:=by
 obtain⟨y,e,dD,f1,f2,f3,f4,f5,f6⟩:=oK l;have f:dD.length=q*sz:=by rw[f5.1];exact p
 have g:0<dD.length:=by rw[f];exact amK m x
 obtain⟨b,rfl,_,_⟩:=f6 0 g;refine⟨b,e,dD,f1,f,f5,fun j u r=>?_⟩
 obtain⟨t,rfl⟩:=ana.1 r;obtain⟨z,k,_,i⟩:=f6 j t;cases k;exact i
theorem zW{P:Program}{t e ty:TypeId}{i:TypeInfo}{z:Value}{b q:Nat}{xs d:List D}{us:List Value}{ad:Option Addr}{H:Value}{full:Bool}(L:P.underlying t=some (.slice e))(K:P.info? e=some i)(I:i.zero=some z)(Z:z.cells.size=i.size)(M:0<i.size)
  (e3:b≤maxLen) (F:a9 w X us xs) (N:∀i(h:i<us.length),∃l,ad=some l∧w.cell? (l.add i)=some us[i]) (S:cU w X H (.row q full d)) (J:0<q)
  (B:xs.length=b*i.size∧d.length=q*i.size∧b+q≤2^62∧(b+q)*i.bytes≤2^47):
  ∃us f,(Builtin.append_ #[t,t] ty #[.slice ad b b,H]).run P w=.ok (.slice (some ⟨w.heap.size,0,none⟩) (b+q) f) (w.drew.alloc (.cells us e))∧b+q≤f∧f≤maxLen∧us.size=f*i.size∧
   (xs++d).length≤us.size∧a9 w X (us.toList.take (xs++d).length) (xs++d):=by
 obtain⟨l,f,dD,rfl,G,f5,O⟩:=Gi S B.2.1 J M;have k:us.length=b*i.size:=by rw[F.1];exact B.1
 have p:(b+q)*i.bytes≤140737488355328:=by
  have Xm:=apM;have:=B.2.2.2;omega
 have key:∀(r:Nat),(Builtin.append_ #[t,t] ty #[.slice ad b b,.slice (some l) q f]).run P w=.ok (.slice (some ⟨w.heap.size,0,none⟩) (b+q) (grownCap w (b+q) r e))
    (w.drew.alloc (.cells (us.toArray++dD.toArray++Builtin.zeroCells z.cells (grownCap w (b+q) r e-(b+q))) e))→
   ∃u g,(Builtin.append_ #[t,t] ty #[.slice ad b b,.slice (some l) q f]).run P w=.ok (.slice (some ⟨w.heap.size,0,none⟩) (b+q) g) (w.drew.alloc (.cells u e))∧b+q≤g∧g≤maxLen∧u.size=g*i.size∧
    (xs++d).length≤u.size∧a9 w X (u.toList.take (xs++d).length) (xs++d):=by
  intro r A;have Y:=grownCap_ge w (b+q) r e;have m:(xs++d).length=(us++dD).length:=by simp[F.1,f5.1]
  refine⟨_,_,A,Y,grownCap_le_maxLen _ _ _ _ (by unfold maxLen;omega),?_,?_,?_⟩
  ·simp only[Array.size_append,List.size_toArray,size_zeroCells,Z,k,G,←Nat.add_mul]
   congr 1;omega
  ·rw[m];simp
  ·rw[m]
   have:(us.toArray++dD.toArray++Builtin.zeroCells z.cells (grownCap w (b+q) r e-(b+q))).toList.take (us++dD).length=us++dD:=by
    simp only[Array.toList_append,List.append_assoc];rw[←am7,apf]
   rw[this];exact F.append f5
 cases ad with
 |none=>
  have C:b=0:=by
   rcases alT b with E|E
   ·exact E
   ·have T:0<us.length:=by rw[k];exact amK E M
    obtain⟨W,x,_⟩:=N 0 T;cases x
  subst C;have y:us=[]:=amu (by omega)
  subst y;have A:=run_append_nil (P:=P) w t ty e i z L K I l q f dD G O J (by omega) (by rw[amv]at p;omega)
  refine key 0 ?_;simpa using A
 |some a1=>
  have holds:∀j v,us[j]? =some v→w.cell? (a1.add j)=some v:=by
   intro j v U;obtain⟨V,rfl⟩:=ana.1 U;obtain⟨W,x,R⟩:=N j V;cases x;exact R
  exact key b (run_append_grow (P:=P) w t ty e i z L K I a1 b b us k holds l q f dD G O (by omega) (by omega) (growslice_fits (by omega) p))
theorem Ce{P:Program}{t e ty:TypeId}{i:TypeInfo}{z:Value}{p q:Nat}{xs d:List D}{v f:Value}{full:Bool}(y:P.underlying t=some (.slice e))(x:P.info? e=some i)(k:i.zero=some z)(H:z.cells.size=i.size)(A:0<i.size)
  (m:cU w X v (.row p true xs)) (l:cU w X f (.row q full d)) (r:0<q)
  (u:xs.length=p*i.size∧d.length=q*i.size∧p+q≤2^62∧(p+q)*i.bytes≤2^47):
  ∃us b,(Builtin.append_ #[t,t] ty #[v,f]).run P w=.ok (.slice (some ⟨w.heap.size,0,none⟩) (p+q) b) (w.drew.alloc (.cells us e))∧p+q≤b∧b≤maxLen∧us.size=b*i.size∧
   (xs++d).length≤us.size∧a9 w X (us.toList.take (xs++d).length) (xs++d):=by
 obtain⟨J,b,us,rfl,I,F,E,C,B⟩:=oK m;obtain rfl:=E rfl;exact zW y x k H A F C (fun i h=>by obtain⟨G,j,_,g⟩:=B i h;exact⟨G,j,g⟩) l r u
theorem j9{o:Oper}{k:Call}{x y:Operand}{t:TypeId}(f:o.op=.call k)(g:k.callee=.builtin .append)(i:k.args.toList=[x,y])(d:k.argTypes.toList=[t,t]){v:Value}{w':World}
  (e:(Builtin.append_ #[t,t] o.type #[a.eval x,a.eval y]).run c.P w=.ok v w'):(execOp a.eval o).run c.P w=.ok (.value v) w':=by
 have b:k.args= #[x,y]:=by apply amB.1;simpa using i
 have j:k.argTypes= #[t,t]:=by apply amB.1;simpa using d
 simp[execOp,f,resolve,g,invoke,builtin,b,j,e]
theorem CA{P:Program}(w:World)(t ty e k:TypeId)(i:TypeInfo)(p:P.underlying t=some (.slice e))(r:P.info? e=some i)
  (g d b:Nat) (cur:Array Value) (v:w.heap[g]? =some (.cells cur k (0,0)))
  (a:Addr) (m c:Nat) (news:List Value) (q:news.length=m*i.size) (A:∀j u,news[j]? =some u→w.cell? (a.add j)=some u) (y:∀u∈news,u.oneCell'=true)
  (z:d+m≤b) (l:d*i.size+news.length≤cur.size):
  (Builtin.append_ #[t,t] ty #[.slice (some ⟨g,0,none⟩) d b,.slice (some a) m c]).run P w=
   .ok (.slice (some ⟨g,0,none⟩) (d+m) b) (w.setRow g (cur.toList.take (d*i.size)++news++cur.toList.drop (d*i.size+news.length)).toArray):=by
 have x:=run_firstCells_some (P:=P) w i.size m a m c news q A;have f:=run_storeCells_at P g (d*i.size) k news 0 cur w v (by simpa using l) y
 simp only[Nat.add_zero]at f;simp[Builtin.append_,run_underlying p,Go.sizeOf,typeInfo,r,Builtin.lenOf,z,x,Addr.jr,f]
section ops
variable (h:dk c n s a w β X) {o:Oper} {nb:Nat}
include h
theorem CT{t:TypeId}{x:Operand}{f off d b:Nat}{j:TypeId}{sz:Nat}(m:o.op=.fieldAddr t x f)(e:vC c.P t f=some (off,j))(l:cC c.P j=some sz)(A:0<sz)
  (g:s.ev x=.ptr b d):bL c n s a w β X nb o (.val (.ptr b (d+off))):=by
 have i:=cP h x;rw[g]at i;have y:=ri h x b (by rw[g];exact anj b)
 obtain⟨fields,fd,u,r,q,p⟩:=Da e;subst q p;refine .same (v:=.pointer (some ⟨β b,d+fd.offset,none⟩)) ?_ (.ptr b _) (fun B k=>by simp only[D.ref,zIq]at k;subst k;exact y)
 simp[execOp,m,Instr.fieldAt,run_underlying u,r,yD i,Instr.sureAddr,fieldPlace,ji w l,Addr.jr];intro z;omega
theorem Bo{t:TypeId}{x:Operand}{f off:Nat}{d:TypeId}{sz:Nat}{cs:List D}(j:o.op=.fieldAddr t x f)(e:vC c.P t f=some (off,d))(i:cC c.P d=some sz)(B:0<sz)
  (g:s.ev x=.aV cs):bL c n s a w β X nb o (.val (.aV (cs.drop off))):=by
 have b:=cP h x;rw[g]at b;obtain⟨fields,fd,p,m,l,k⟩:=Da e;subst l k;obtain⟨y,us,u,r,q⟩:=pG (b.pure rfl);refine .same (v:=.pointer (some (y.add fd.offset))) ?_ (.p (CB r q _)) (fun C z=>by simp[D.ref]at z)
 simp[execOp,j,Instr.fieldAt,run_underlying p,m,u,Instr.sureAddr,fieldPlace,ji w i];intro A;omega
theorem Ze{t:TypeId}{x:Operand}{f off:Nat}{g:TypeId}{sz:Nat}{m:Bool}{cs:List D}(u:o.op=.field t x f)(e:vC c.P t f=some (off,g))(r:cC c.P g=some sz)(A:se c.P g=some m)
  (i:s.ev x=.agg cs) (l:off<cs.length):bL c n s a w β X nb o (.val (if m then .agg ((cs.drop off).take sz)else(cs.drop off).headD .any)):=by
 have j:=cP h x;rw[i]at j;obtain⟨fields,fd,F,E,C,B⟩:=Da e;subst C B;obtain⟨us,G,k⟩:=TR j;obtain⟨v,H,q⟩:=MW r A k l;have p:=ri h x;rw[i]at p;refine .IV (v:=v) ?_ q (yE l (fun d y b z=>p b (amh.2 ⟨d,y,z⟩)) fun _=>ze k)
 simp[execOp,u,Instr.field,run_underlying F,E,G,asAgg,H]
theorem Zd{t:TypeId}{x f:Operand}{i:Int}{k:IntKind}{m:Nat}{e:TypeId}{sz:Nat}{r:Bool}{cs:List D}(A:o.op=.index t x f)(C:dq c.P t=some (some m,e))
  (l:cC c.P e=some sz) (G:se c.P e=some r) (y:(s.ev f).cz=some (.int k i)) (g:s.ev x=.agg cs) (B:0≤i∧i<m) (q:i.toNat*sz<cs.length):
  bL c n s a w β X nb o (.val (if r then .agg ((cs.drop (i.toNat*sz)).take sz)else(cs.drop (i.toNat*sz)).headD .any)):=by
 have j:=cP h x;rw[g]at j;obtain⟨us,H,p⟩:=TR j;obtain⟨v,I,z⟩:=MW l G p q;have u:=ri h x;rw[g]at u;refine .IV (v:=v) ?_ z (yE q (fun d E b F=>u b (amh.2 ⟨d,E,F⟩)) fun _=>ze p)
 simp[execOp,A,Instr.index,run_underlying (wm C),apG h y,asIntOf,H,B,ji w l,I]
theorem KL{t:TypeId}{x d:Operand}{i:Int}{k:IntKind}{b:ByteArray}(j:o.op=.index t x d)(m:IE c.P t=true)
  (f:(s.ev d).cz=some (.int k i)) (e:(s.ev x).str=some b) (l:0≤i∧i.toNat<b.size):bL c n s a w β X nb o (.val (.lit (.int .u8 ((b[i.toNat]?).getD 0).toNat))):=by
 have g:=Sx ((cP h x).pure (Sy e)) e;refine .same (v:=.int .u8 ((b[i.toNat]?).getD 0).toNat) ?_ (.p (.lit _)) (fun q p=>by simp[D.ref]at p)
 simp[execOp,j,Instr.index,run_underlying (IQ m),apG h f,asIntOf,g,l]
theorem KF{t:TypeId}{x:Operand}{d e:Option Operand}{k1 k2:IntKind}{l u:Int}{b:ByteArray}(r:o.op=.slice t x d e none)(z:IE c.P t=true)(g:(s.ev x).str=some b)
  (f:(match d with|some l=>(s.ev l).cz|none=>none)=some (.int k1 l)) (j:(match e with|some h=>(s.ev h).cz|none=>none)=some (.int k2 u)) (E:0≤l∧l≤u∧u≤b.size):
  bL c n s a w β X nb o (.val (.lit (.string (b.extract l.toNat u.toNat)))):=by
 have q:=Sx ((cP h x).pure (Sy g)) g;cases d with
 |none=>cases f
 |some d=>cases e with
  |none=>cases j
  |some e=>
   refine .same (v:=.string (b.extract l.toNat u.toNat)) ?_ (.p (.lit _)) (fun F C=>by simp[D.ref]at C)
   have B:=apG h f;have A:=apG h j;have p:=fk (P:=c.P) w (k:=k2) (i:=u) (y:=b.size) (code:=.sliceAlen) (by omega) (by omega)
   have m:=fk (P:=c.P) w (k:=k1) (i:=l) (y:=u.toNat) (code:=.sliceB) (by omega) (by omega)
   simp[execOp,r,Instr.sliceAt,Instr.slice,run_underlying (IQ z),Instr.sliceBounds,q,B,A,p,m]
theorem CQ{t:TypeId}{x b:Operand}{i:Int}{k:IntKind}{e:TypeId}{sz len:Nat}{full:Bool}{cs:List D}(y:o.op=.indexAddr t x b)(B:dq c.P t=some (none,e))
  (u:cC c.P e=some sz) (l:(s.ev b).cz=some (.int k i)) (r:s.ev x=.row len full cs) (A:0≤i∧i<len) (F:i.toNat*sz<cs.length):
  bL c n s a w β X nb o (.val (.aV (cs.drop (i.toNat*sz)))):=by
 have d:=cP h x;rw[r]at d;obtain⟨M,E,us,C,K,J,I,g,f⟩:=oK (d.pure rfl);obtain⟨H,rfl,_,_⟩:=f (i.toNat*sz) (by rw[g.1];exact F)
 refine .same (v:=.pointer (some (H.add (i.toNat*sz)))) ?_ (.p (CB g (fun j z=>?_) _)) (fun L G=>by simp[D.ref]at G)
 ·simp[execOp,y,Instr.indexAt,run_underlying (cJ B),apG h l,asIntOf,C,A,ji w u]
 ·obtain⟨N,q,p,m⟩:=f j z
  cases q;exact⟨p,m⟩
theorem CP{t:TypeId}{x f:Operand}{i:Int}{k:IntKind}{e:TypeId}{sz b off len d:Nat}(q:o.op=.indexAddr t x f)(u:dq c.P t=some (none,e))
  (p:cC c.P e=some sz) (m:(s.ev f).cz=some (.int k i)) (g:s.ev x=.bz b off len d) (r:0≤i∧i<len):
  bL c n s a w β X nb o (.val (.ptr b (off+i.toNat*sz))):=by
 have j:=cP h x;rw[g]at j;have y:=ri h x b (by rw[g];exact anj b)
 refine .same (v:=.pointer (some ⟨β b,off+i.toNat*sz,none⟩)) ?_ (.ptr b _) (fun z l=>by simp only[D.ref,zIq]at l;subst l;exact y)
 simp[execOp,q,Instr.indexAt,run_underlying (cJ u),apG h m,asIntOf,(yA j).1,r,ji w p,Addr.jr]
theorem CS{t:TypeId}{x d:Operand}{i:Int}{k:IntKind}{e:TypeId}{sz b len size:Nat}(p:o.op=.indexAddr t x d)(r:dq c.P t=some (none,e))
  (m:cC c.P e=some sz) (l:(s.ev d).cz=some (.int k i)) (f:s.ev x=.cR b len size) (q:0≤i∧i<len):
  bL c n s a w β X nb o (.val (.ptr b (i.toNat*sz))):=by
 have g:=cP h x;rw[f]at g;have z:=ri h x b (by rw[f];exact anj b)
 obtain⟨y,A,u,_⟩:=yU g;refine .same (v:=.pointer (some ⟨β b,i.toNat*sz,none⟩)) ?_ (.ptr b _) (fun B j=>by simp only[D.ref,zIq]at j;subst j;exact z)
 simp[execOp,p,Instr.indexAt,run_underlying (cJ r),apG h l,asIntOf,u,q,ji w m,Addr.jr]
theorem Bn{t:TypeId}{x b:Operand}{i:Int}{k:IntKind}{m:Nat}{e:TypeId}{sz:Nat}{cs:List D}(l:o.op=.indexAddr t x b)(q:dq c.P t=some (some m,e))
  (j:cC c.P e=some sz) (f:(s.ev b).cz=some (.int k i)) (g:s.ev x=.aV cs) (p:0≤i∧i<m):
  bL c n s a w β X nb o (.val (.aV (cs.drop (i.toNat*sz)))):=by
 have d:=cP h x;rw[g]at d;obtain⟨z,us,y,u,r⟩:=pG (d.pure rfl);refine .same (v:=.pointer (some (z.add (i.toNat*sz)))) ?_ (.p (CB u r _)) (fun B A=>by simp[D.ref]at A)
 simp[execOp,l,Instr.indexAt,run_underlying (wm q),apG h f,asIntOf,y,Instr.sureAddr,p,ji w j]
theorem CR{t:TypeId}{x d:Operand}{i:Int}{k:IntKind}{m:Nat}{e:TypeId}{sz b off:Nat}(q:o.op=.indexAddr t x d)(u:dq c.P t=some (some m,e))
  (p:cC c.P e=some sz) (l:(s.ev d).cz=some (.int k i)) (f:s.ev x=.ptr b off) (r:0≤i∧i<m):
  bL c n s a w β X nb o (.val (.ptr b (off+i.toNat*sz))):=by
 have g:=cP h x;rw[f]at g;have y:=ri h x b (by rw[f];exact anj b)
 refine .same (v:=.pointer (some ⟨β b,off+i.toNat*sz,none⟩)) ?_ (.ptr b _) (fun z j=>by simp only[D.ref,zIq]at j;subst j;exact y)
 simp[execOp,q,Instr.indexAt,run_underlying (wm u),apG h l,asIntOf,yD g,Instr.sureAddr,r,ji w p,Addr.jr]
theorem QJ{x:Operand}{i:Nat}{ds:List D}{d:D}(m:o.op=.extract x i)(b:s.ev x=.aY ds)(p:ds[i]? =some d):bL c n s a w β X nb o (.val d):=by
 have e:=cP h x;rw[b]at e;obtain⟨us,q,j⟩:=acn e;have k:=ri h x;rw[b]at k;obtain⟨g,rfl⟩:=ana.1 p;have f:i<us.size:=by have:=j.1;rw[amM]at this;omega
 have l:=j.2 i (by simpa using f) g
 refine .same (v:=us[i]) ?_ (by simpa using l) (fun r t=>k r (amh.2 ⟨_,al2 g,t⟩))
 simp[execOp,m,Instr.extract,q,f]
theorem Gc{op:BinOp}{t u:TypeId}{x y:Operand}{d b v:Value}(i:o.op=.binOp op t x y u)(f:(s.ev x).cz=some d)(e:(s.ev y).cz=some b)
  (g:fy c.P (do eqGuard op t x y d b;binOp op t d b)=some v):bL c n s a w β X nb o (.val (.lit v)):=by
 refine .lit ?_;have:=j7 g w;simp only[execOp,i,Sem.run_bind,apG h f,apG h e]at this⊢;rw[this];rfl
theorem agx{t u:TypeId}{x y:Operand}{p q:ByteArray}(f:o.op=.binOp .add t x y u)(e:(s.ev x).cz=some (.string p))(d:(s.ev y).cz=some (.string q))(g:((p.size+q.size:Nat):Int)≤IntKind.i64.max):
  bL c n s a w β X nb o (.val (.lit (.string (p++q)))):=by
 refine .lit ?_;have b:¬((p.size+q.size:Nat):Int)>IntKind.i64.max:=by omega
 simp only[execOp,f,Sem.run_bind,apG h e,apG h d,eqGuard,binOp,Op.stringOp,if_neg b];rfl
theorem agu{t u:TypeId}{x y:Operand}{k:IntKind}{p q:Int}(f:o.op=.binOp .quo t x y u)(d:(s.ev x).cz=some (.int k p))(b:(s.ev y).cz=some (.int k q))(e:q≠0):
  bL c n s a w β X nb o (.val (.lit (.int k (k.wrap (p.tdiv q))))):=by
 refine .lit ?_;simp[execOp,f,apG h d,apG h b,eqGuard,binOp,Op.intDiv,e]
theorem agt{t u:TypeId}{x y:Operand}{k:IntKind}{p q:Int}(f:o.op=.binOp .rem t x y u)(d:(s.ev x).cz=some (.int k p))(b:(s.ev y).cz=some (.int k q))(e:q≠0):
  bL c n s a w β X nb o (.val (.lit (.int k (p.tmod q)))):=by
 refine .lit ?_;simp[execOp,f,apG h d,apG h b,eqGuard,binOp,Op.intDiv,e]
theorem ags{t u:TypeId}{x y:Operand}{k b:IntKind}{p q:Int}(f:o.op=.binOp .shl t x y u)(e:(s.ev x).cz=some (.int k p))(d:(s.ev y).cz=some (.int b q))(g:0≤q):
  bL c n s a w β X nb o (.val (.lit (.int k (k.wrap (p*2^min q.toNat k.bits))))):=by
 refine .lit ?_;simp[execOp,f,apG h e,apG h d,eqGuard,binOp,Op.shift,show¬q<0 by omega]
theorem agr{t u:TypeId}{x y:Operand}{k b:IntKind}{p q:Int}(f:o.op=.binOp .shr t x y u)(e:(s.ev x).cz=some (.int k p))(d:(s.ev y).cz=some (.int b q))(g:0≤q):
  bL c n s a w β X nb o (.val (.lit (.int k (p.fdiv (2^min q.toNat k.bits))))):=by
 refine .lit ?_;simp[execOp,f,apG h e,apG h d,eqGuard,binOp,Op.shift,show¬q<0 by omega]
theorem ads{op:UnOp}{t:TypeId}{x:Operand}{b v:Value}(f:o.op=.unOp op t x)(d:(s.ev x).cz=some b)(e:fy c.P (Op.unary op b)=some v):bL c n s a w β X nb o (.val (.lit v)):=by
 refine .lit ?_;simp[execOp,f,apG h d,j7 e w]
theorem QK{t u:TypeId}{x:Operand}{b v:Value}(f:o.op=.convert t u x)(d:(s.ev x).cz=some b)(e:fy c.P (convert t u b)=some v):bL c n s a w β X nb o (.val (.lit v)):=by
 refine .lit ?_;simp[execOp,f,apG h d,j7 e w]
theorem CO{t:TypeId}{x:Operand}{b v:Value}(f:o.op=.makeInterface t x)(d:(s.ev x).cz=some b)(e:fy c.P (Instr.makeInterface t b)=some v):bL c n s a w β X nb o (.val (.lit v)):=by
 refine .lit ?_;simp[execOp,f,apG h d,j7 e w]
theorem zK{t u:TypeId}{x:Operand}{ok:Bool}{d v:Value}(i:o.op=.typeAssert x t u ok)(f:(s.ev x).cz=some d)(g:fy c.P (Instr.typeAssert d t u ok)=some v):
  bL c n s a w β X nb o (.val (match v with|.tuple vs=>.aY (vs.toList.map D.sO)|v=>D.sO v)):=by
 have e:(execOp a.eval o).run c.P w=.ok (.value v) w:=by simp[execOp,i,apG h f,j7 g w]
 cases v with
 |tuple vs=>
  have:=od w X vs.toList;refine .same e (.p ?_) (fun j b=>by simp[D.ref]at b)
  have:=cU.aY (w:=w) (X:=X) vs.toList _ this.1 this.2;simpa using this
 |_=>exact .same e (.p (D.Gg w X _)) (fun j b=>by rw[QN]at b;cases b)
theorem KH{t:TypeId}{x:Operand}{d f:Option Operand}{e:TypeId}{sz len:Nat}{full:Bool}{cs:List D}{k1 k2:IntKind}{l u:Int}(J:o.op=.slice t x d f none)(K:dq c.P t=some (none,e))
  (I:cC c.P e=some sz) (H:s.ev x=.row len full cs)
  (g:(match d with|some l=>(s.ev l).cz|none=>some (.int .i64 0))=some (.int k1 l))
  (r:(match f with|some h=>(s.ev h).cz|none=>some (.int .i64 len))=some (.int k2 u)) (z:0≤l∧l≤u∧u≤len):
  bL c n s a w β X nb o (.val (.row (u.toNat-l.toNat) (full&&f.isNone) ((cs.drop (l.toNat*sz)).take ((u.toNat-l.toNat)*sz)))):=by
 have y:=cP h x;rw[H]at y;obtain⟨B,b,us,R,W,V,P,O,N⟩:=oK (y.pure rfl);have Z:l.toNat≤u.toNat:=by omega
 have L:u.toNat≤len:=by omega
 have p:∃m,(Instr.sliceBounds true len b (d.map a.eval) (f.map a.eval) none).run c.P w=.ok (l.toNat,u.toNat,m) w∧m=b:=by
  refine⟨b,?_,rfl⟩;cases f with
  |none=>
   simp only[zIq,Value.int.injEq]at r;have hu:u.toNat=len:=by omega
   cases d with
   |none=>
    simp only[zIq,Value.int.injEq]at g;simp[Instr.sliceBounds,←g.2,hu]
   |some d=>
    have:=apG h g;simp[Instr.sliceBounds,this,fk w z.1 (show l≤(len:Int) by omega),hu]
  |some f=>
   have j:=apG h r;cases d with
   |none=>
    simp only[zIq,Value.int.injEq]at g;simp[Instr.sliceBounds,j,fk w (show 0≤u by omega) (show u≤(b:Int) by omega),←g.2]
   |some d=>
    have:=apG h g;simp[Instr.sliceBounds,j,this,fk w (show 0≤u by omega) (show u≤(b:Int) by omega),fk w z.1 (show l≤(u.toNat:Int) by omega)]
 obtain⟨m,p,rfl⟩:=p;have q:(execOp a.eval o).run c.P w=.ok (.value (.slice (if m=l.toNat then B else B.map (·.add (l.toNat*sz))) (u.toNat-l.toNat) (m-l.toNat))) w:=by
  simp[execOp,J,Instr.sliceAt,run_underlying (cJ K),Instr.slice,R,p,ji w I]
 refine .same q (.p ?_) (fun Y S=>by simp[D.ref]at S)
 have A:=(O.drop (l.toNat*sz)).take ((u.toNat-l.toNat)*sz);refine .row _ _ _ _ _ _ A.1 (by omega) (by omega) (fun k=>?_) (fun i G=>?_) A.2
 ·simp only[zLq]at k
  have:=P k.1;cases f with
  |none=>simp only[zIq,Value.int.injEq]at r;omega
  |some _=>simp at k
 ·have v:i<(u.toNat-l.toNat)*sz∧l.toNat*sz+i<us.length:=by simp at G;omega
  obtain⟨T,F,E,C⟩:=N (l.toNat*sz+i) v.2;have M:m≠l.toNat:=by
   intro U;have:u.toNat-l.toNat=0:=by omega
   rw[this]at v;omega
  subst F;refine⟨T.add (l.toNat*sz),by rw[apA M];rfl,by rw[Addr.block_add];exact E,?_⟩
  rw[Addr.add_add,C,anU,anT]
theorem Gb{t:TypeId}{x:Operand}{b d:Option Operand}{e:TypeId}{sz m:Nat}{cs:List D}{k1 k2:IntKind}{l u:Int}(F:o.op=.slice t x b d none)(H:dq c.P t=some (some m,e))
  (E:cC c.P e=some sz) (C:s.ev x=.aV cs)
  (f:(match b with|some l=>(s.ev l).cz|none=>some (.int .i64 0))=some (.int k1 l))
  (p:(match d with|some h=>(s.ev h).cz|none=>some (.int .i64 m))=some (.int k2 u)) (v:0≤l∧l≤u∧u≤m∧m*sz≤cs.length∧m≤maxLen):
  bL c n s a w β X nb o (.val (.row (u.toNat-l.toNat) d.isNone ((cs.drop (l.toNat*sz)).take ((u.toNat-l.toNat)*sz)))):=by
 have r:=cP h x;rw[C]at r;obtain⟨j,us,L,K,J⟩:=pG (r.pure rfl);have M:(Instr.sliceBounds false m m (b.map a.eval) (d.map a.eval) none).run c.P w=.ok (l.toNat,u.toNat,m) w:=by
  cases d with
  |none=>
   simp only[zIq,Value.int.injEq]at p;have hu:u.toNat=m:=by omega
   cases b with
   |none=>
    simp only[zIq,Value.int.injEq]at f;simp[Instr.sliceBounds,←f.2,hu]
   |some b=>
    have:=apG h f;simp[Instr.sliceBounds,this,fk w v.1 (show l≤(m:Int) by omega),hu]
  |some d=>
   have g:=apG h p;cases b with
   |none=>
    simp only[zIq,Value.int.injEq]at f;simp[Instr.sliceBounds,g,fk w (show 0≤u by omega) (show u≤(m:Int) by omega),←f.2]
   |some b=>
    have:=apG h f;simp[Instr.sliceBounds,g,this,fk w (show 0≤u by omega) (show u≤(m:Int) by omega),fk w v.1 (show l≤(u.toNat:Int) by omega)]
 have k:(execOp a.eval o).run c.P w=.ok (.value (.slice (some (if m=l.toNat then j else j.add (l.toNat*sz))) (u.toNat-l.toNat) (m-l.toNat))) w:=by
  simp[execOp,F,Instr.sliceAt,run_underlying (wm H),L,Instr.sureAddr,M,ji w E]
 refine .same k (.p ?_) (fun P N=>by simp[D.ref]at N)
 have y:=(K.drop (l.toNat*sz)).take ((u.toNat-l.toNat)*sz);refine .row _ _ _ _ _ _ y.1 (by omega) (by omega) (fun G=>?_) (fun i B=>?_) y.2
 ·cases d with
  |none=>simp only[zIq,Value.int.injEq]at p;omega
  |some _=>simp at G
 ·have q:i<(u.toNat-l.toNat)*sz∧l.toNat*sz+i<us.length:=by simp at B;omega
  obtain⟨A,z⟩:=J (l.toNat*sz+i) q.2;have I:m≠l.toNat:=by
   intro O;have:u.toNat-l.toNat=0:=by omega
   rw[this]at q;omega
  refine⟨j.add (l.toNat*sz),by rw[apA I],by rw[Addr.block_add];exact A,?_⟩
  rw[Addr.add_add,z,anU,anT]
theorem KG{t:TypeId}{x:Operand}{f i:Option Operand}{e:TypeId}{sz b off len d:Nat}{k1 k2:IntKind}{l u:Int}(z:o.op=.slice t x f i none)(A:dq c.P t=some (none,e))
  (y:cC c.P e=some sz) (k:s.ev x=.bz b off len d)
  (g:(match f with|some l=>(s.ev l).cz|none=>some (.int .i64 0))=some (.int k1 l))
  (r:(match i with|some h=>(s.ev h).cz|none=>some (.int .i64 len))=some (.int k2 u)) (p:0≤l∧l≤u∧u≤len∧l<d):
  bL c n s a w β X nb o (.val (.bz b (off+l.toNat*sz) (u.toNat-l.toNat) (d-l.toNat))):=by
 have m:=cP h x;rw[k]at m;obtain⟨C,H,G⟩:=yA m;have F:=ri h x b (by rw[k];exact anj b)
 have E:(Instr.sliceBounds true len d (f.map a.eval) (i.map a.eval) none).run c.P w=.ok (l.toNat,u.toNat,d) w:=by
  cases i with
  |none=>
   simp only[zIq,Value.int.injEq]at r;have hu:u.toNat=len:=by omega
   cases f with
   |none=>
    simp only[zIq,Value.int.injEq]at g;simp[Instr.sliceBounds,←g.2,hu]
   |some f=>
    have:=apG h g;simp[Instr.sliceBounds,this,fk w p.1 (show l≤(len:Int) by omega),hu]
  |some i=>
   have j:=apG h r;cases f with
   |none=>
    simp only[zIq,Value.int.injEq]at g;simp[Instr.sliceBounds,j,fk w (show 0≤u by omega) (show u≤(d:Int) by omega),←g.2]
   |some f=>
    have:=apG h g;simp[Instr.sliceBounds,j,this,fk w (show 0≤u by omega) (show u≤(d:Int) by omega),fk w p.1 (show l≤(u.toNat:Int) by omega)]
 have B:¬d=l.toNat:=by omega
 refine .same (v:=.slice (some ⟨β b,off+l.toNat*sz,none⟩) (u.toNat-l.toNat) (d-l.toNat)) ?_ (.bz b _ _ _ (by omega) (by omega)) (fun I q=>by simp only[D.ref,zIq]at q;subst q;exact F)
 simp[execOp,z,Instr.sliceAt,run_underlying (cJ A),Instr.slice,C,E,ji w y,B,Addr.jr]
theorem KI{t:TypeId}{x:Operand}{f g:Option Operand}{e:TypeId}{sz b len size:Nat}{k1 k2:IntKind}{u:Int}(z:o.op=.slice t x f g none)(A:dq c.P t=some (none,e))
  (y:cC c.P e=some sz) (k:s.ev x=.cR b len size)
  (j:(match f with|some l=>(s.ev l).cz|none=>some (.int .i64 0))=some (.int k1 0))
  (r:(match g with|some h=>(s.ev h).cz|none=>some (.int .i64 len))=some (.int k2 u)) (p:0≤u∧u≤len):
  bL c n s a w β X nb o (.val (.cR b u.toNat size)):=by
 have m:=cP h x;rw[k]at m;obtain⟨d,G,F,J,E,C⟩:=yU m;have I:=ri h x b (by rw[k];exact anj b)
 have H:(Instr.sliceBounds true len d (f.map a.eval) (g.map a.eval) none).run c.P w=.ok (0,u.toNat,d) w:=by
  cases g with
  |none=>
   simp only[zIq,Value.int.injEq]at r;have hu:u.toNat=len:=by omega
   cases f with
   |none=>simp[Instr.sliceBounds,hu]
   |some f=>
    have:=apG h j;simp[Instr.sliceBounds,this,fk w (Int.le_refl 0) (show(0:Int)≤(len:Int) by omega),hu]
  |some g=>
   have i:=apG h r;cases f with
   |none=>simp[Instr.sliceBounds,i,fk w p.1 (show u≤(d:Int) by omega)]
   |some f=>
    have:=apG h j;simp[Instr.sliceBounds,i,this,fk w p.1 (show u≤(d:Int) by omega),fk w (Int.le_refl 0) (show(0:Int)≤(u.toNat:Int) by omega)]
 refine .same (v:=.slice (some ⟨β b,0,none⟩) u.toNat d) ?_ (.cR b _ _ d G (by omega) E C) (fun K q=>by simp only[D.ref,zIq]at q;subst q;exact I)
 have B:(⟨β b,0,none⟩:Addr).add 0=⟨β b,0,none⟩:=by rw[Addr.jr]
 simp[execOp,z,Instr.sliceAt,run_underlying (cJ A),Instr.slice,F,H,ji w y,B]
theorem KJ{t:TypeId}{l k:Operand}{e:TypeId}{z:D}{i:TypeInfo}{len m:Int}(E:o.op=.makeSlice t l k)(I:dq c.P t=some (none,e))
  (G:(s.ev l).cz=some (.int .i64 len)) (H:(s.ev k).cz=some (.int .i64 m)) (f:oI c.P e=some [z]) (C:cC c.P e=some 1) (p:c.P.info? e=some i)
  (F:len=m∧0≤len∧len*i.bytes≤2^47∧len≤2^62):bL c n s a w β X nb o (.new nb (List.replicate len.toNat z) (.bz nb 0 len.toNat len.toNat) false):=by
 obtain⟨rfl,x,K,O⟩:=F;unfold oI z7 at f;rw[p]at f;simp only[Option.bind_some]at f;cases q:i.zero with
 |none=>rw[q]at f;cases f
 |some g=>
  rw[q]at f;simp only[Option.map_some,zIq]at f;have r:=od w X g.cells.toList;rw[f]at r;have y:g.cells.size=1:=by have:=r.1;simpa using this
  have A:i.size=1:=by simpa [cC,p]using C
  have u:a9 w X (madeCells g.cells (len.toNat*i.size)).toList (List.replicate len.toNat z):=by
   refine⟨by simp[madeCells,A],fun j x K=>?_⟩
   have:=r.2 0 (by simp[y]) (by simp)
   simp only[madeCells,Array.toList_map,List.getElem_map,Array.toList_range,List.getElem_replicate,y,Nat.mod_one];rw[getElem!_pos g.cells 0 (by omega)]
   simpa using this
  have L:=run_make (P:=c.P) w t e i g (cJ I) p q .i64 .i64 len len x (aoq _) (by rw[Int.mul_comm];omega) (by omega)
  refine⟨rfl,w,madeCells g.cells (len.toNat*i.size),e,.slice (some ⟨w.heap.size,0,none⟩) len.toNat len.toNat,?_,Below.refl _ _,rfl,by simp[madeCells,A],u.vF.lq,fun d J b v=>(by rw[gS u d J]at v;cases v),rfl,fun M N R B _=>by rw[←B];exact .bz nb 0 _ _ (alE _) (by unfold maxLen;omega)⟩
  simp[execOp,E,apG h G,apG h H,L]
omit h in
theorem N7(b:List D)(e:0<b.length):∀(m j:Nat),j<m*b.length→((List.replicate m b).flatten)[j]? =b[j%b.length]?
 |0,j,h=>by omega
 |m+1,j,h=>by
  rw[aoE,apo];by_cases d:j<b.length
  ·rw[amp d,ame d]
  ·rw[aml (by omega),N7 b e m (j-b.length) (by rw[amL]at h;omega)]
   congr 1
   exact(Nat.mod_eq_sub_mod (by omega)).symm
omit h in
theorem BX(b:List D)(m:Nat):((List.replicate m b).flatten).length=m*b.length:=by
 induction m with
 |zero=>simp
 |succ m d=>rw[aoE,apo,amj,d,amL];omega
theorem HY{t:TypeId}{l k:Operand}{e:TypeId}{f:List D}{m:Nat}{i:TypeInfo}{len r:Int}(K:o.op=.makeSlice t l k)(R:dq c.P t=some (none,e))
  (M:(s.ev l).cz=some (.int .i64 len)) (N:(s.ev k).cz=some (.int .i64 r)) (p:oI c.P e=some f) (J:cC c.P e=some m) (z:c.P.info? e=some i) (q:f.length=m) (hm:0<m)
  (L:len=r∧0≤len∧len*i.bytes≤2^47∧len≤2^62):bL c n s a w β X nb o (.new nb ((List.replicate len.toNat f).flatten) (.cR nb len.toNat m) false):=by
 obtain⟨rfl,F,u,h3⟩:=L;unfold oI z7 at p;rw[z]at p;simp only[Option.bind_some]at p;cases B:i.zero with
 |none=>rw[B]at p;cases p
 |some g=>
  rw[B]at p;simp only[Option.map_some,zIq]at p;have x:=od w X g.cells.toList;rw[p]at x;have W:g.cells.size=m:=by have:=x.1;rw[amM]at this;omega
  have H:i.size=m:=by simpa [cC,z]using J
  have y:a9 w X (madeCells g.cells (len.toNat*i.size)).toList ((List.replicate len.toNat f).flatten):=by
   refine⟨by rw[BX,q];simp[madeCells,H],fun j F u=>?_⟩
   have O:j<len.toNat*f.length:=by rw[BX]at u;exact u
   have v:j%f.length<f.length:=al8 _ (by omega)
   have G:=N7 f (by omega) len.toNat j O
   rw[alK u,alK v]at G;have U:=amq G;rw[U];have A:j%g.cells.size<g.cells.size:=by rw[W,←q];exact v
   have:=x.2 (j%f.length) (by rw[x.1];exact v) v
   simp only[madeCells,Array.toList_map,List.getElem_map,Array.toList_range,List.getElem_range];rw[getElem!_pos g.cells _ A];have T:g.cells.size=f.length:=by omega
   simp only[T];simpa using this
  have V:=run_make (P:=c.P) w t e i g (cJ R) z B .i64 .i64 len len F (aoq _) (by rw[Int.mul_comm];omega) (by omega)
  refine⟨rfl,w,madeCells g.cells (len.toNat*i.size),e,.slice (some ⟨w.heap.size,0,none⟩) len.toNat len.toNat,?_,Below.refl _ _,rfl,by have:=y.1;rw[amM]at this;omega,y.vF.lq,fun d S b E=>(by rw[gS y d S]at E;cases E),rfl,fun Y Z X' C I=>by rw[←C];exact .cR nb _ _ len.toNat e (alE _) (by unfold maxLen;omega) (by rw[C,I];simp[madeCells,H])⟩
  simp[execOp,K,apG h M,apG h N,V]
theorem M6{k:Call}{x y:Operand}{t e:TypeId}{b off len z m sz:Nat}{full:Bool}{xs cs:List D}(ho:o.op=.call k)(hk:k.callee=.builtin .copy)(ha:k.args.toList=[x,y])(Y:k.argTypes.toList=[t,t])
  (he:dq c.P t=some (none,e)) (Z:cC c.P e=some sz) (f1:a.eval x=.slice (some ⟨β b,off,none⟩) len z) (U:s.ev y=.row m full xs) (C:s.blk b=some cs)
  (hn:xs.all D.iq=true∧xs.length=m*sz∧off+Nat.min m len*sz≤cs.length):
  bL c n s a w β X nb o (.store b off (xs.take (Nat.min m len*sz)) (.lit (.int .i64 (zNq (Nat.min m len)))) false):=by
 have M:=cP h y;rw[U]at M;obtain⟨T,q,S⟩:=hn;obtain⟨K,A,dD,g1,g2,g3,g4,l,I⟩:=oK (M.pure rfl);obtain⟨_,_,us,eb,G,F,E⟩:=h.blk b cs C;have hle:Nat.min m len*sz≤m*sz:=alV _ (Nat.min_le_left m len);have W:dD.length=m*sz:=by rw[l.1];exact q
 have f:(dD.take (Nat.min m len*sz)).length=Nat.min m len*sz:=by rw[alO];omega
 have i:(xs.take (Nat.min m len*sz)).length=Nat.min m len*sz:=by rw[alO];omega
 have C3:∀v∈dD.take (Nat.min m len*sz),v.oneCell'=true:=by
  intro v V;obtain⟨j,g,rfl⟩:=alZ.1 (anv V);have H:j<xs.length:=by rw[←l.1];exact g
  exact AJ (β:=β) (.p (l.2 j g H)) (al9.1 T _ (al2 H))
 have B:=run_storeCells_at c.P (β b) off eb (dD.take (Nat.min m len*sz)) 0 us w G (by rw[f];omega) C3
 simp only[Nat.add_zero,f]at B;have r:(Builtin.firstCells sz (Nat.min m len) (.slice K m A)).run c.P w=.ok (dD.take (Nat.min m len*sz)).toArray w:=by
  cases K with
  |some a1=>
   exact run_firstCells_some (P:=c.P) w sz (Nat.min m len) a1 m A _ f fun j v g=>by
    rw[amA]at g;split at g
    ·obtain⟨p,rfl⟩:=ana.1 g
     obtain⟨a2,R,_,O⟩:=I j p;cases R;exact O
    ·cases g
  |none=>
   have:dD=[]:=by
    cases dD with
    |nil=>rfl
    |cons u dD=>obtain⟨a2,p,_⟩:=I 0 (by simp);cases p
   rw[this,run_firstCells_none];simp
 have N:k.args= #[x,y]:=by apply amB.1;simpa using ha
 have LZ:k.argTypes= #[t,t]:=by apply amB.1;simpa using Y
 refine⟨cs,us,(us.toList.take off++dD.take (Nat.min m len*sz)++us.toList.drop (off+Nat.min m len*sz)).toArray,eb,_,rfl,C,G,.inr ?_,?_,by rw[i];exact S,F,?_,fun d hd b' L=>?_⟩
 ·simp[execOp,ho,resolve,hk,invoke,builtin,N,LZ,f1,g1,Builtin.copy_,run_underlying (cJ he),Builtin.lenOf,ji w Z,r,B,goInt]
 ·simp only[List.size_toArray,List.length_append,List.length_drop,f,Array.length_toList]
  rw[alO,amM];omega
 ·have J:=xk us.toList (dD.take (Nat.min m len*sz)) off cs.length (by rw[f];omega) (by simpa using F)
  rw[f]at J;have:(us.toList.take off++dD.take (Nat.min m len*sz)++us.toList.drop (off+Nat.min m len*sz)).toArray.toList.take cs.length=(us.toList.take off++dD.take (Nat.min m len*sz)++us.toList.drop (off+Nat.min m len*sz)).take cs.length:=by simp
  rw[this,J,i];exact(E.take off).append ((l.take _).lq.append (E.drop (off+Nat.min m len*sz)))
 ·rw[gS l d (anv hd)]at L;cases L
theorem adt{k:Call}{x y:Operand}{t e:TypeId}{b off len d m sz:Nat}{full:Bool}{xs cs:List D}(p:o.op=.call k)(r:k.callee=.builtin .copy)(z:k.args.toList=[x,y])(j:k.argTypes.toList=[t,t])
  (u:dq c.P t=some (none,e)) (l:cC c.P e=some sz) (i:s.ev x=.bz b off len d) (g:s.ev y=.row m full xs) (v:s.blk b=some cs)
  (q:xs.all D.iq=true∧xs.length=m*sz∧off+Nat.min m len*sz≤cs.length):
  bL c n s a w β X nb o (.store b off (xs.take (Nat.min m len*sz)) (.lit (.int .i64 (zNq (Nat.min m len)))) false):=by
 have f:=cP h x;rw[i]at f;exact M6 h p r z j u l (yA f).1 g v q
theorem M5{k:Call}{x y:Operand}{t e:TypeId}{b len z m sz:Nat}{full:Bool}{xs cs:List D}(l:o.op=.call k)(q:k.callee=.builtin .copy)(v:k.args.toList=[x,y])(i:k.argTypes.toList=[t,t])
  (r:dq c.P t=some (none,e)) (j:cC c.P e=some sz) (g:s.ev x=.cR b len z) (f:s.ev y=.row m full xs) (u:s.blk b=some cs)
  (p:xs.all D.iq=true∧xs.length=m*sz∧0+Nat.min m len*sz≤cs.length):
  bL c n s a w β X nb o (.store b 0 (xs.take (Nat.min m len*sz)) (.lit (.int .i64 (zNq (Nat.min m len)))) false):=by
 have d:=cP h x;rw[g]at d;obtain⟨B,C,A,-,-,-⟩:=yU d;exact M6 h l q v i r j A f u p
theorem Es{x:Operand}{b off:Nat}(g:o.op=.nilCheck x)(d:s.ev x=.ptr b off):bL c n s a w β X nb o (.val (.ptr b off)):=by
 have e:=cP h x;rw[d]at e;have i:=ri h x b (by rw[d];exact anj b)
 refine .same (v:=.pointer (some ⟨β b,off,none⟩)) ?_ (.ptr b _) (fun j f=>by simp only[D.ref,zIq]at f;subst f;exact i)
 simp[execOp,g,yD e]
theorem CN{x:Operand}{cs:List D}(e:o.op=.nilCheck x)(d:s.ev x=.aV cs):bL c n s a w β X nb o (.val (.aV cs)):=by
 have b:=cP h x;rw[d]at b;obtain⟨j,us,i,g,f⟩:=pG (b.pure rfl);refine .same (v:=.pointer (some j)) ?_ (.p (SH g f)) (fun l k=>by simp[D.ref]at k)
 simp[execOp,e,i]
theorem Nk{l:List Operand}(b:∀d∈l.map s.ev,d.refs=[]):a9 w X (l.map a.eval) (l.map s.ev):=
 ⟨by simp,fun i f e=>by
  rw[amg,amg];exact(cP h _).pure (b _ (anB (al2 _)))⟩
theorem M1{f:FuncId}{first b:Array Operand}(i:o.op=.makeFunc (.func f) first b)(k:∀d∈first.toList.map s.ev,d.refs=[])(j:∀d∈b.toList.map s.ev,d.refs=[]):
  bL c n s a w β X nb o (.val (.fn f (first.toList.map s.ev) (b.toList.map s.ev))):=by
 have g:=Nk h k;have e:=Nk h j;refine .same (v:=.func (.func f) (first.toList.map a.eval).toArray (b.toList.map a.eval).toArray) ?_ (.p (.fn f _ _ _ _ g.1 e.1 g.2 e.2)) (fun q p=>by simp[D.ref]at p)
 have m:(first.toList.map a.eval).toArray=first.map a.eval:=by apply amB.1;simp
 have l:(b.toList.map a.eval).toArray=b.map a.eval:=by apply amB.1;simp
 rw[m,l];simp[execOp,i,Instr.makeFunc]
theorem Ul{x:Operand}(d:(s.ev x).SA=true):∃ad len b,a.eval x=.slice (some ad) len b:=by
 have g:=cP h x;cases i:s.ev x<;>rw[i]at d g<;>simp only[D.SA,Bool.false_eq_true]at d
 case row len full xs=>
  obtain⟨ad,b,us,f,q,p,m,k,j⟩:=oK (g.pure rfl);cases xs with
  |nil=>simp at d
  |cons y l=>
   have:0<us.length:=by rw[k.1];simp
   obtain⟨r,rfl,_⟩:=j 0 this;exact⟨_,_,_,f⟩
 case bz=>exact⟨_,_,_,(yA g).1⟩
 case cR=>obtain⟨b,e,f,_⟩:=yU g;exact⟨_,_,_,f⟩
 case lit v=>
  have f:a.eval x=v:=apG h (by rw[i];rfl)
  cases v with
  |slice ad len b=>cases ad with
   |none=>cases d
   |some ad=>exact⟨ad,len,b,f⟩
  |_=>cases d
theorem UZ{x:Operand}(b:(s.ev x).S2=true):∃len cap,a.eval x=.slice none len cap:=by
 cases d:s.ev x<;>rw[d]at b<;>simp only[D.S2,Bool.false_eq_true]at b
 case lit v=>
  have f:a.eval x=v:=apG h (by rw[d];rfl)
  cases v with
  |slice e len cap=>cases e with
   |some e=>cases b
   |none=>exact⟨len,cap,f⟩
  |_=>cases b
theorem M4{op:BinOp}{t u e:TypeId}{x:Operand}(f:o.op=.binOp op t x (.const (.slice none 0 0)) u)(k:dq c.P t=some (none,e))(j:(s.ev x).S2=true)(l:op=.eql∨op=.neq):
  bL c n s a w β X nb o (.val (.lit (.bool (op==.eql)))):=by
 obtain⟨len,b,i⟩:=UZ h j;have hu:=cJ k;refine .lit ?_;have d:(Op.equal t (.slice none len b) (.slice none 0 0)).run c.P w=.ok true w:=by
  show(Op.equalIn (9999+1) t (.slice none len b) (.slice none 0 0)).run c.P w=.ok true w;rw[Op.equalIn];simp only[Sem.run_bind,run_underlying hu,Result.andThen_ok,Sem.run_pure];rfl
 have g:a.eval (.const (.slice none 0 0))=.slice none 0 0:=rfl;rcases l with rfl|rfl
 ·simp only[execOp,f,Sem.run_bind,i,g,eqGuard,binOp,Bool.not_true,Bool.false_eq_true,if_false,Sem.run_pure,Result.andThen_ok,d];rfl
 ·simp only[execOp,f,Sem.run_bind,i,g,eqGuard,binOp,Bool.not_true,Bool.false_eq_true,if_false,Sem.run_pure,Result.andThen_ok,d];rfl
theorem I'{op:BinOp}{t u e:TypeId}{x:Operand}(f:o.op=.binOp op t x (.const (.slice none 0 0)) u)(l:dq c.P t=some (none,e))(k:(s.ev x).SA=true)(m:op=.eql∨op=.neq):
  bL c n s a w β X nb o (.val (.lit (.bool (op==.neq)))):=by
 obtain⟨j,len,b,i⟩:=Ul h k;have hu:=cJ l;refine .lit ?_;have d:(Op.equal t (.slice (some j) len b) (.slice none 0 0)).run c.P w=.ok false w:=by
  show(Op.equalIn (9999+1) t (.slice (some j) len b) (.slice none 0 0)).run c.P w=.ok false w;rw[Op.equalIn];simp only[Sem.run_bind,run_underlying hu,Result.andThen_ok,Sem.run_pure]
 have g:a.eval (.const (.slice none 0 0))=.slice none 0 0:=rfl;rcases m with rfl|rfl
 ·simp only[execOp,f,Sem.run_bind,i,g,eqGuard,binOp,Bool.not_true,Bool.false_eq_true,if_false,Sem.run_pure,Result.andThen_ok,d];rfl
 ·simp only[execOp,f,Sem.run_bind,i,g,eqGuard,binOp,Bool.not_true,Bool.false_eq_true,if_false,Sem.run_pure,Result.andThen_ok,d];rfl
theorem Zf{k:Call}{x:Operand}{f:FuncId}{fn:Func}{xs q:List D}(F:o.op=.call k)(I:k.callee=.value x)(E:s.ev x=.fn f xs q)(J:c.P.funcs[f]? =some fn)
  (j:fn.body.isSome=true) (G:(fn.name== "runtime.NumGoroutine")=false):
  bL c n s a w β X nb o (.call f (xs++(k.args.toList.map s.ev++q))):=by
 have z:=cP h x;rw[E]at z;obtain⟨us,dD,K,p,t⟩:∃us dD,a.eval x=.func (.func f) us.toArray dD.toArray∧a9 w X us xs∧a9 w X dD q:=by
  have:=z.pure rfl;generalize a.eval x=v at this;cases this with
  |fn _ us dD _ _ H M m C=>exact⟨us,dD,rfl,⟨H,m⟩,⟨M,C⟩⟩
 have u:LQ (cW β w X) (k.args.toList.map a.eval) (k.args.toList.map s.ev):=⟨by simp,fun i B A=>by simpa using cP h _⟩
 have up:∀{us:List Value}{xs:List D},a9 w X us xs→LQ (cW β w X) us xs:=fun m=>⟨m.1,fun i B A=>.c (.p (m.2 i B A))⟩
 have y:=(up p).append (u.append (up t));refine⟨us++(k.args.toList.map a.eval++dD),?_,y.1,y.2,fun d g b j=>?_⟩
 ·have L:fn.body≠none:=by intro e;rw[e]at j;cases j
  have r:fn.name≠ "runtime.NumGoroutine" :=by simpa using G
  have u:(us++(k.args.toList.map a.eval++dD)).toArray=us.toArray++k.args.map a.eval++dD.toArray:=by apply amB.1;simp
  rw[u];simp[execOp,F,resolve,I,K,Deferred.ofValue,invoke,callFunc,program,Sem.run,J,r,L]
 ·rcases amy.1 g with g|g
  ·have:=gS p d g
   obtain⟨i,l,rfl⟩:=alZ.1 g;rw[ff (p.2 i (by rw[p.1];exact l) l)]at j;cases j
  ·rcases amy.1 g with g|g
   ·obtain⟨x,_,rfl⟩:=ama.1 g
    exact ri h x b j
   ·obtain⟨i,l,rfl⟩:=alZ.1 g
    rw[ff (t.2 i (by rw[t.1];exact l) l)]at j;cases j
theorem adu{k:Call}{x:Operand}{f:FuncId}{fn:Func}(p:o.op=.call k)(r:k.callee=.value x)(l:s.ev x=.lit (.func (.func f) #[] #[]))(t:c.P.funcs[f]? =some fn)
  (g:fn.body.isSome=true) (q:(fn.name== "runtime.NumGoroutine")=false):
  bL c n s a w β X nb o (.call f (k.args.toList.map s.ev)):=by
 have m:a.eval x=.func (.func f) #[] #[]:=apG h (by rw[l];rfl)
 refine⟨k.args.toList.map a.eval,?_,by simp,fun i A z=>by simpa using cP h _,fun d u b g=>?_⟩
 ·have y:fn.body≠none:=by intro e;rw[e]at g;cases g
  have j:fn.name≠ "runtime.NumGoroutine" :=by simpa using q
  have v:(k.args.toList.map a.eval).toArray=k.args.map a.eval:=by apply amB.1;simp
  rw[v];simp[execOp,p,resolve,r,m,Deferred.ofValue,invoke,callFunc,program,Sem.run,t,j,y]
 ·obtain⟨x,_,rfl⟩:=ama.1 u
  exact ri h x b g
theorem QG{k:Call}{x:Operand}{t:TypeId}{e:TypeId}{len:Nat}{full:Bool}{xs:List D}(i:o.op=.call k)(j:k.callee=.builtin .len)(m:k.args.toList=[x])(g:k.argTypes.toList=[t])
  (l:dq c.P t=some (none,e)) (f:s.ev x=.row len full xs):bL c n s a w β X nb o (.val (.lit (.int .i64 len))):=by
 have b:=cP h x;rw[f]at b;obtain⟨u,q,us,p,_⟩:=oK (b.pure rfl);have d:k.args= #[x]:=by apply amB.1;simpa using m
 have r:k.argTypes= #[t]:=by apply amB.1;simpa using g
 refine .lit ?_;simp[execOp,i,resolve,j,invoke,builtin,Builtin.len_,d,r,p,run_underlying (cJ l),goInt]
theorem QF{k:Call}{x:Operand}{t:TypeId}{e:TypeId}{b off len d:Nat}(l:o.op=.call k)(m:k.callee=.builtin .len)(q:k.args.toList=[x])(j:k.argTypes.toList=[t])
  (p:dq c.P t=some (none,e)) (i:s.ev x=.bz b off len d):bL c n s a w β X nb o (.val (.lit (.int .i64 len))):=by
 have f:=cP h x;rw[i]at f;obtain⟨r,_⟩:=yA f;have g:k.args= #[x]:=by apply amB.1;simpa using q
 have u:k.argTypes= #[t]:=by apply amB.1;simpa using j
 refine .lit ?_;simp[execOp,l,resolve,m,invoke,builtin,Builtin.len_,g,u,r,run_underlying (cJ p),goInt]
theorem QI{k:Call}{x:Operand}{t:TypeId}{e:TypeId}{b len sz:Nat}(j:o.op=.call k)(l:k.callee=.builtin .len)(p:k.args.toList=[x])(i:k.argTypes.toList=[t])
  (m:dq c.P t=some (none,e)) (g:s.ev x=.cR b len sz):bL c n s a w β X nb o (.val (.lit (.int .i64 len))):=by
 have d:=cP h x;rw[g]at d;obtain⟨r,v,q,_⟩:=yU d;have f:k.args= #[x]:=by apply amB.1;simpa using p
 have u:k.argTypes= #[t]:=by apply amB.1;simpa using i
 refine .lit ?_;simp[execOp,j,resolve,l,invoke,builtin,Builtin.len_,f,u,q,run_underlying (cJ m),goInt]
theorem QH{k:Call}{x:Operand}{v r:Value}(f:o.op=.call k)(g:k.callee=.builtin .len)(i:k.args.toList=[x])(d:(s.ev x).cz=some v)
  (e:fy c.P (Builtin.len_ k.argTypes o.type #[v])=some r):bL c n s a w β X nb o (.val (.lit r)):=by
 have b:k.args= #[x]:=by apply amB.1;simpa using i
 refine .lit ?_;simp[execOp,f,resolve,g,invoke,builtin,b,apG h d,j7 e w]
theorem Nr{l:List Operand}{vs:List Value}(e:D.nu (l.map s.ev)=some vs):l.map a.eval=vs:=by
 induction l generalizing vs with
 |nil=>simp only[List.map_nil,D.nu,zIq]at e;rw[←e];rfl
 |cons x l f=>
  simp only[List.map_cons,D.nu]at e;split at e
  ·rename_i v d b i
   simp only[zIq]at e;subst e;have:(s.ev x).cz=some v:=by cases g:s.ev x<;>rw[g]at b<;>simp[D.So,D.cz]at b⊢;exact b
   rw[amt,f i,apG h this]
  ·cases e
theorem agw{k:Call}{vs:List Value}{r:Value}(d:o.op=.call k)(e:k.callee=.builtin .max)(f:D.nu (k.args.toList.map s.ev)=some vs)
  (b:fy c.P (Builtin.max_ k.argTypes o.type vs.toArray)=some r):bL c n s a w β X nb o (.val (.lit r)):=by
 have g:k.args.map a.eval=vs.toArray:=by apply amB.1;simpa using Nr h f
 refine .lit ?_;simp[execOp,d,resolve,e,invoke,builtin,g,j7 b w]
theorem agv{k:Call}{vs:List Value}{r:Value}(d:o.op=.call k)(e:k.callee=.builtin .min)(f:D.nu (k.args.toList.map s.ev)=some vs)
  (b:fy c.P (Builtin.min_ k.argTypes o.type vs.toArray)=some r):bL c n s a w β X nb o (.val (.lit r)):=by
 have g:k.args.map a.eval=vs.toArray:=by apply amB.1;simpa using Nr h f
 refine .lit ?_;simp[execOp,d,resolve,e,invoke,builtin,g,j7 b w]
theorem H0{k:Call}{x y:Operand}{t e:TypeId}{i:TypeInfo}{z:Value}{p q:Nat}{full:Bool}{xs g:List D}(F:o.op=.call k)(G:k.callee=.builtin .append)(I:k.args.toList=[x,y])(E:k.argTypes.toList=[t,t])
  (r:dq c.P t=some (none,e)) (d:c.P.info? e=some i) (L:i.zero=some z) (H8:z.cells.size=i.size) (V:0<i.size) (l:s.ev x=.row p true xs) (M:s.ev y=.row q full g)
  (P:xs.length=p*i.size∧g.length=q*i.size∧p+q≤2^62∧(p+q)*i.bytes≤2^47):bL c n s a w β X nb o (.val (.row (p+q) false (xs++g))):=by
 have C:=cP h x;rw[l]at C;have B:=cP h y;rw[M]at B;by_cases O:0<q
 ·obtain⟨us,b,N,U,T,h3,S,R⟩:=Ce (ty:=o.type) (cJ r) d L H8 V (C.pure rfl) (B.pure rfl) O P
  have H:Below w.heap.size w (w.drew.alloc (.cells us e)):=((Below.refl _ _).drew).alloc (alE _) _;have K:=R.mono (iG (X:=X) H);refine bL.mk (j9 F G I E N) H (.p (.row _ _ _ _ _ _ K.1 U T (fun h=>by cases h) (fun i d=>⟨_,rfl,fun l=>apC (h.oE _ l) (by simp),?_⟩) K.2)) fun b' A=>by simp[D.ref]at A
  rw[Addr.jr,amv];have:=cell_of_row _ w.heap.size i _ e (0,0) (heap_alloc_new w.drew (.cells us e));refine this.trans ?_;simp at d;have cM:i<us.size:=by simp at S;omega
  simp[cM]
 ·have m:q=0:=by omega
  subst m;obtain⟨u,b,us,e1,e2,Z,Y,J,W⟩:=oK (C.pure rfl);obtain⟨f,tG,dD,f1,f2,f3,f4,f5,f6⟩:=oK (B.pure rfl);obtain rfl:=Y rfl;have j:g=[]:=amu (by omega)
  subst j;rw[amX,ans];refine .same (v:=.slice u b b) (j9 F G I E ?_) (.p (.row u b b false us xs J.1 (alE _) Z (fun h=>by cases h) W J.2)) (fun b' A=>by simp[D.ref]at A)
  rw[e1,f1];cases u with
  |none=>cases f<;>simp[Builtin.append_,run_underlying (cJ r),Go.sizeOf,typeInfo,d,Builtin.lenOf,Builtin.firstCells,loadCells,loadCellsFrom]
  |some a1=>cases f<;>simp[Builtin.append_,run_underlying (cJ r),Go.sizeOf,typeInfo,d,Builtin.lenOf,Builtin.firstCells,loadCells,loadCellsFrom,storeCells]
theorem H3{k:Call}{x y:Operand}{t e:TypeId}{i:TypeInfo}{p q:Nat}{xs:List D}{d:Option Addr}(A:o.op=.call k)(B:k.callee=.builtin .append)(C:k.args.toList=[x,y])(z:k.argTypes.toList=[t,t])
  (j:dq c.P t=some (none,e)) (g:c.P.info? e=some i) (u:s.ev x=.row p true xs) (r:s.ev y=.lit (.slice d 0 q)):bL c n s a w β X nb o (.val (.row p true xs)):=by
 have m:=cP h x;rw[u]at m;have f1:a.eval y=.slice d 0 q:=apG h (by rw[r];rfl)
 obtain⟨f,b,us,H,J,G,F,l,E⟩:=oK (m.pure rfl);obtain rfl:=F rfl;refine .same (v:=.slice f b b) (j9 A B C z ?_) (.p (.row f b b true us xs l.1 (alE _) G (fun _=>rfl) E l.2)) (fun K I=>by simp[D.ref]at I)
 rw[H,f1];cases f with
 |none=>cases d<;>simp[Builtin.append_,run_underlying (cJ j),Go.sizeOf,typeInfo,g,Builtin.lenOf,Builtin.firstCells,loadCells,loadCellsFrom]
 |some a1=>cases d<;>simp[Builtin.append_,run_underlying (cJ j),Go.sizeOf,typeInfo,g,Builtin.lenOf,Builtin.firstCells,loadCells,loadCellsFrom,storeCells]
theorem H4{k:Call}{x y:Operand}{t e:TypeId}{i:TypeInfo}{z:Value}{p q:Nat}{full:Bool}{xs f:List D}(H:o.op=.call k)(I:k.callee=.builtin .append)(M:k.args.toList=[x,y])(F:k.argTypes.toList=[t,t])
  (K:dq c.P t=some (none,e)) (J:c.P.info? e=some i) (B:i.zero=some z) (T:z.cells.size=i.size) (S:0<i.size) (E:s.ev x=.row p true xs) (C:s.ev y=.row q full f)
  (l:0<q∧xs.length=p*i.size∧f.length=q*i.size∧p+q≤2^62∧(p+q)*i.bytes≤2^47):bL c n s a w β X nb o (.new nb (xs++f) (.cR nb (p+q) i.size) false):=by
 have v:=cP h x;rw[E]at v;have u:=cP h y;rw[C]at u;obtain⟨us,g,G,R,P,O,N,r⟩:=Ce (ty:=o.type) (cJ K) J B T S (v.pure rfl) (u.pure rfl) l.1 l.2;refine⟨rfl,w.drew,us,e,_,j9 H I M F G,(Below.refl _ _).drew,rfl,N,r.lq,fun d L b m=>(by rw[gS r d L]at m;cases m),rfl,fun U V W j A=>?_⟩
 rw[←j];exact .cR nb _ _ g e R P (by rw[j,←O];exact A)
theorem HZ{k:Call}{x y:Operand}{t e:TypeId}{i:TypeInfo}{z:Value}{b off p m q:Nat}{full ro:Bool}{cs r:List D}(M:o.op=.call k)(N:k.callee=.builtin .append)(O:k.args.toList=[x,y])(L:k.argTypes.toList=[t,t])
  (he:dq c.P t=some (none,e)) (F:c.P.info? e=some i) (hz:i.zero=some z) (H8:z.cells.size=i.size) (h0:0<i.size) (v:s.ev x=.bz b off p m) (hy:s.ev y=.row q full r) (f:s.blk b=some cs)
  (hn:dZ cs=false∧0<q∧p=m∧off+p*i.size≤cs.length∧r.length=q*i.size∧p+q≤2^62∧(p+q)*i.bytes≤2^47):
  bL c n s a w β X nb o (if ro then .val (.row (p+q) false ((cs.drop off).take (p*i.size)++r))else .new nb ((cs.drop off).take (p*i.size)++r) (.cR nb (p+q) i.size) false):=by
 obtain⟨l,hq,rfl,hn1,C,B,A⟩:=hn;have V:=cP h x;rw[v]at V;have U:=cP h y;rw[hy]at U;obtain⟨f1,f2,f3⟩:=yA V;obtain⟨_,_,us,eb,g3,g4,I⟩:=h.blk b cs f;have lg:∀d∈cs,d.ref=none:=fun d G=>by
  cases g:d.ref with
  |none=>rfl
  |some b'=>rw[wH G g]at l;cases l
 have T:=I.pure lg;have hlen:(((us.toList.take cs.length).drop off).take (p*i.size)).length=p*i.size:=by
  have:=T.1;rw[alO,alP,this];omega
 have J:((cs.drop off).take (p*i.size)).length=p*i.size:=by
  rw[alO,alP];omega
 obtain⟨u,Z,g,S,R,h3,P,H⟩:=zW (ty:=o.type) (ad:=some ⟨β b,off,none⟩) (cJ he) F hz H8 h0 f3 ((T.drop off).take (p*i.size)) (fun j hj=>⟨_,rfl,by
  rw[Addr.jr,cell_of_row w _ _ us eb (0,0) g3];have rZ:off+j<cs.length:=by rw[hlen]at hj;omega
  have E:off+j<us.size:=by omega
  simp[E]⟩) (U.pure rfl) hq ⟨J,C,B,A⟩
 rw[←f1]at g;cases ro
 ·simp only[Bool.false_eq_true,if_false]
  refine⟨rfl,w.drew,u,e,_,j9 M N O L g,(Below.refl _ _).drew,rfl,P,H.lq,fun d G b f=>(by rw[gS H d G]at f;cases f),rfl,fun β' w' X' K Y=>?_⟩
  rw[←K];exact .cR nb _ _ Z e S R (by rw[K,←h3];exact Y)
 ·simp only[if_true]
  have f:Below w.heap.size w (w.drew.alloc (.cells u e)):=((Below.refl _ _).drew).alloc (alE _) _;have W:=H.mono (iG (X:=X) f);refine bL.mk (j9 M N O L g) f (.p (.row _ _ _ _ _ _ W.1 S R (fun h=>by cases h) (fun i F=>⟨_,rfl,fun v=>apC (h.oE _ v) (by simp),?_⟩) W.2)) fun b' aO=>by simp[D.ref]at aO
  rw[Addr.jr,amv];have:=cell_of_row _ w.heap.size i _ e (0,0) (heap_alloc_new w.drew (.cells u e));refine this.trans ?_;simp at F;have cM:i<u.size:=by simp at P;omega
  simp[cM]
theorem Gd{k:Call}{x y:Operand}{t e:TypeId}{i:TypeInfo}{z:Value}{b p q:Nat}{full:Bool}{cs l:List D}(ho:o.op=.call k)(I:k.callee=.builtin .append)(ha:k.args.toList=[x,y])(ht:k.argTypes.toList=[t,t])
  (he:dq c.P t=some (none,e)) (hi:c.P.info? e=some i) (hz:i.zero=some z) (H8:z.cells.size=i.size) (h0:0<i.size) (hx:s.ev x=.cR b p i.size) (hy:s.ev y=.row q full l) (V:s.blk b=some cs) (Ar:s.b_ b=false) (qP:c.gb≤b)
  (iM:l.all D.iq=true)
  (hn:0<q∧cs.length=p*i.size∧l.length=q*i.size∧p+q≤2^62∧(p+q)*i.bytes≤2^47):bL c n s a w β X nb o (.grow b (cs++l) (.cR b (p+q) i.size)):=by
 obtain⟨hq,m,N,hn3,hn4⟩:=hn;have H9:=cP h x;rw[hx]at H9;have Re:=cP h y;rw[hy]at Re;obtain⟨f,e',e1,e2,e3,e4⟩:=yU H9;obtain⟨a',tG,dD,f1,L,f5,GJ⟩:=Gi (Re.pure rfl) N hq h0;obtain⟨g1,g2,us,eb,H,g4,W⟩:=h.blk b cs V;have lg:∀d∈cs,d.ref=none:=fun d g=>by
  cases B:d.ref with
  |none=>rfl
  |some b'=>have:=(h.tB b cs V d g b' B).1;rw[Ar]at this;cases this
 have J:=W.pure lg;have A:us.size=f*i.size:=by
  have:=cY H;rw[e4]at this;simp only[zIq,zJq]at this;exact this.2.symm
 have C3:∀u∈dD,u.oneCell'=true:=by
  intro v hv;obtain⟨j,r,rfl⟩:=alZ.1 hv;have h2:j<l.length:=by rw[←f5.1];exact r
  exact AJ (β:=β) (.p (f5.2 j r h2)) (al9.1 iM _ (al2 h2))
 have tD:=h.clear b;have T:(s.clear b).blk b=some cs:=by
  show(if s.b_ b then(s.blk b).map (List.map (D.clear b))else s.blk b)=some cs
  rw[Ar];exact V
 have R:∀d∈cs++l,d.ref=none:=fun d g=>by
  rcases amy.1 g with g|g
  ·exact lg d g
  ·exact gS f5 d g
 by_cases Z:p+q≤f
 ·have M:p*i.size+dD.length≤us.size:=by rw[L,A,←amT];exact alV _ Z
  have B:=CA (P:=c.P) w t o.type e eb i (cJ he) hi (β b) p f us H a' q tG dD L GJ C3 Z M;have D4:(us.toList.take (p*i.size)++dD++us.toList.drop (p*i.size+dD.length)).toArray.size=us.size:=by
   simp only[List.size_toArray,List.length_append,List.length_take,List.length_drop,Array.length_toList];omega
  have hlen:(cs++l).length=p*i.size+dD.length:=by rw[amj,m,←f5.1]
  have pn:=tD.store b cs (cs++l) false T us _ eb H D4 (by rw[D4,hlen];exact M) (by
   have e5:=xk us.toList dD (p*i.size) (p*i.size+dD.length) (alE _) (by simpa using M)
   have e6:(us.toList.take (p*i.size)++dD++us.toList.drop (p*i.size+dD.length)).toArray.toList.take (cs++l).length=
     (us.toList.take (p*i.size)++dD++us.toList.drop (p*i.size+dD.length)).take (p*i.size+dD.length):=by rw[hlen]
   rw[e6,e5];have e7:(us.toList.take (p*i.size+dD.length)).drop (p*i.size+dD.length)=[]:=by simp
   have e8:(us.toList.take (p*i.size+dD.length)).take (p*i.size)=us.toList.take cs.length:=by rw[anK,m];congr 1;omega
   rw[e7,e8,amX];exact(J.append f5).lq) (fun d g b' K=>by rw[R d g]at K;cases K)
  refine⟨_,_,β,X,j9 ho I ha ht (by rw[e1,f1];exact B),pn,.cR b _ _ f eb Z e3 ?_,rfl⟩
  rw[←A,←D4];exact cY (setRow_heap w (β b) us _ eb (0,0) H)
 ·have holds:∀j v,(us.toList.take cs.length)[j]? =some v→w.cell? ((⟨β b,0,none⟩:Addr).add j)=some v:=by
   intro j v r;rw[Addr.jr,amv,cell_of_row w _ _ us eb (0,0) H];rw[amA]at r;split at r
   ·simpa using r
   ·cases r
  have C:(us.toList.take cs.length).length=p*i.size:=by rw[J.1];exact m
  have U:(p+q)*i.bytes≤140737488355328:=by
   have Xm:=apM;omega
  have B:=run_append_grow (P:=c.P) w t o.type e i z (cJ he) hi hz ⟨β b,0,none⟩ p f _ C holds a' q tG dD L GJ (by omega) (by omega) (growslice_fits (by omega) U)
  have Js:=grownCap_ge w (p+q) f e;have S:grownCap w (p+q) f e≤maxLen:=grownCap_le_maxLen _ _ _ _ (by unfold maxLen;omega)
  generalize hG:grownCap w (p+q) f e=G at*;have E:(cs++l).length=(us.toList.take cs.length++dD).length:=by rw[amj,amj,J.1,f5.1]
  have Y:((us.toList.take cs.length).toArray++dD.toArray++Builtin.zeroCells z.cells (G-(p+q))).size=G*i.size:=by
   simp only[Array.size_append,List.size_toArray,size_zeroCells,H8,C,L,←Nat.add_mul];congr 1;omega
  have F:Below w.heap.size w w.drew:=(Below.refl _ _).drew;have O:=(tD.grow F).ai0 b qP (fun t K=>(wA K).2 rfl) (fun k cs' I d g yP=>by
   obtain⟨pw,q1,q2,q3⟩:=AI I;rcases q3 with⟨_,rfl⟩|⟨q4,rfl⟩
   ·obtain⟨d0,_,rfl⟩:=ama.1 g
    exact(JP yP).2 rfl
   ·have:=(h.tB k cs' q1 d g b yP).1
    rw[q4]at this;cases this) e ((us.toList.take cs.length).toArray++dD.toArray++Builtin.zeroCells z.cells (G-(p+q))) (cs++l) (by
    rw[E];simp) (by
    rw[E];have:((us.toList.take cs.length).toArray++dD.toArray++Builtin.zeroCells z.cells (G-(p+q))).toList.take (us.toList.take cs.length++dD).length=us.toList.take cs.length++dD:=by
     simp only[Array.toList_append,List.append_assoc];rw[←am7,apf]
    rw[this];exact(J.append f5).mono (iG F))
  refine⟨_,_,_,_,j9 ho I ha ht (by rw[e1,f1];exact B),O,?_,rfl⟩
  have:=cu.cR (β:=fun k=>if k=b then w.drew.heap.size else β k) (w:=w.drew.alloc (.cells ((us.toList.take cs.length).toArray++dD.toArray++Builtin.zeroCells z.cells (G-(p+q))) e)) (X:=fun k=>X k∨k=w.drew.heap.size) b (p+q) i.size G e Js S (by
   simp only[if_true];rw[←Y];exact cY (heap_alloc_new w.drew _))
  simpa using this
end ops
end Lw
