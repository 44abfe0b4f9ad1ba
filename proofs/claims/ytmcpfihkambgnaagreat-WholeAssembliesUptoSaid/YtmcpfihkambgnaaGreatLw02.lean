/- Part 2. -/
import Derived.Test.YtmcpfihkambgnaaGreatLw01
import Derived.Tactics
import Derived.Orders
import Derived.LoopN
import Derived.Deep.LoopGhost
import Derived.TacticsIn
import Derived.OrdersIn
import Derived.LoopNIn
import Derived.Sort.LoopGhostIn
open Option renaming some.injEq→zIq
open Prod renaming mk.injEq→zJq
open Bool renaming and_eq_true→zLq
namespace Lw
open Go Go.RowKit
variable {c:Ctx} {n:Nat} {s:FSt} {a:Act} {w:World} {β:Nat→Nat} {X:Nat→Prop}
theorem wX{P:Program}{d:D}{f:FuncId}{xs e:List D}(h:AK P d=some (f,xs,e)):
  ((d=.lit (.func (.func f) #[] #[])∧xs=[]∧e=[])∨d=.fn f xs e)∧∃fn,P.funcs[f]? =some fn∧fn.body.isSome=true∧(fn.name== "runtime.NumGoroutine")=false:=by
 unfold AK at h;split at h
 ·split at h
  ·rename_i fn g
   split at h
   ·rename_i b
    simp only[zIq,zJq]at h;obtain⟨rfl,rfl,rfl⟩:=h;simp only[zLq,Bool.not_eq_true',beq_iff_eq]at b;rw[amI b.1.1,amI b.1.2];exact⟨.inl ⟨rfl,rfl,rfl⟩,fn,g,b.2.1,b.2.2⟩
   ·cases h
  ·cases h
 ·split at h
  ·rename_i fn g
   split at h
   ·rename_i b
    simp only[zIq,zJq]at h;obtain⟨rfl,rfl,rfl⟩:=h;simp only[zLq,Bool.not_eq_true']at b;exact⟨.inr rfl,fn,g,b.1,b.2⟩
   ·cases h
  ·cases h
 ·cases h
theorem VL(h:dk c n s a w β X){o:Oper}{nb:Nat}{ro fz:Bool}{gb:Nat}(qP:c.gb≤gb){E:Eff}{nd:HC}(g:Li c.P o s.ev s.blk s.b_ nb ro gb fz=some (E,nd))(B:nd.ok):
  bL c n s a w β X nb o E:=by
 unfold Li at g;split at g
 case h_1 x j=>cases g;exact SX h (.inl j)
 case h_2 x j=>cases g;exact SX h (.inr j)
 case h_3 k x y j=>
  split at g
  ·rename_i H;cases g;exact SW h j true H
  ·rename_i H;cases g;exact SW h j false H
  ·cases g
 case h_4 el j=>
  cases fz
  case true=>
   simp only at g;split at g
   ·rename_i zs S
    cases g;exact UY j S
   ·cases g
  simp only at g;split at g
  ·rename_i zs S
   have:=Zi h (nb:=nb) (ro:=ro) j S;split at g<;>simp only[zIq,zJq]at g<;>obtain⟨rfl,rfl⟩:=g<;>simp_all
  ·cases g
 case h_5 el x j=>
  split at g
  ·rename_i cs J
   split at g
   ·rename_i hro
    simp only[zLq,Bool.not_eq_true']at hro;have:=Zh h (nb:=nb) (ro:=true) j J (fun _=>hro.2)
    cases g;exact this
   ·have:=Zh h (nb:=nb) (ro:=false) j J (fun h=>by cases h)
    cases g;exact this
  ·cases g
 case h_6 t parts j=>
  split at g
  ·rename_i cs J;cases g;exact Zg h j J
  ·cases g
 case h_7 t len parts j=>
  split at g
  ·rename_i cs J
   split at g
   ·cases g
   ·rename_i hp
    split at g
    ·rename_i hro
     have:=zL h (nb:=nb) j J (by simpa using hp) true
     cases g;exact this
    ·have:=zL h (nb:=nb) j J (by simpa using hp) false
     cases g;exact this
  ·cases g
 case h_8 t x j=>
  split at g
  ·rename_i sz ag D ha
   split at g
   ·rename_i cs C;cases g
    simp only[dM]at B;exact KK h j D ha C B.1 B.2
   ·rename_i b I C
    split at g
    ·rename_i cs Q;cases g
     simp only[dM]at B;exact M3 h j D ha C Q B.1 B.2
    ·cases g
   ·cases g
  ·cases g
 case h_9 t x y j=>
  split at g
  ·rename_i b I ds sz C T D
   split at g
   ·rename_i cs Q
    split at g
    ·rename_i J;cases g
     simp only[zLq,beq_iff_eq]at J;simp only[dM]at B;exact Zc h j D C T Q J.1 J.2 B
    ·cases g
   ·cases g
  ·cases g
 case h_10 op t x y u j=>
  split at g
  ·rename_i k p k' q C T
   split at g
   ·split at g
    ·rename_i H;subst H;cases g
     simp only[dM]at B;exact agu h j C T B
    ·cases g
   ·split at g
    ·rename_i H;subst H;cases g
     simp only[dM]at B;exact agt h j C T B
    ·cases g
   ·cases g
    simp only[dM]at B;exact ags h j C T B
   ·cases g
    simp only[dM]at B;exact agr h j C T B
   ·split at g
    ·rename_i v K;cases g;exact Gc h j C T K
    ·cases g
  ·rename_i p q C T
   split at g
   ·cases g
    simp only[dM]at B;exact agx h j C T B
   ·split at g
    ·rename_i v K;cases g;exact Gc h j C T K
    ·cases g
  ·rename_i va vb _ _ C T
   split at g
   ·rename_i v K;cases g;exact Gc h j C T K
   ·cases g
  ·split at g
   ·rename_i e L _ _ _
    split at g
    ·rename_i D;cases g;exact I' h j L D (.inl rfl)
    ·rename_i D;cases g;exact I' h j L D (.inr rfl)
    ·split at g
     ·rename_i D _ _;cases g;exact M4 h j L (by assumption) (.inl rfl)
     ·rename_i D _ _;cases g;exact M4 h j L (by assumption) (.inr rfl)
     ·cases g
   ·cases g
 case h_11 x j=>
  split at g
  ·rename_i b I C;cases g;exact Es h j C
  ·rename_i cs C;cases g;exact CN h j C
  ·cases g
 case h_12 fn first vi j=>
  split at g
  ·split at g
   ·rename_i J
    simp only[zLq,List.all_eq_true,List.isEmpty_iff]at J;cases g;exact M1 h j J.1 J.2
   ·cases g
  ·cases g
 case h_13 op t x j=>
  split at g
  ·rename_i va C
   split at g
   ·rename_i v K;cases g;exact ads h j C K
   ·cases g
  ·cases g
 case h_14 t u x j=>
  split at g
  ·rename_i va C
   split at g
   ·rename_i v K;cases g;exact QK h j C K
   ·cases g
  ·cases g
 case h_15 t x j=>
  split at g
  ·rename_i va C
   split at g
   ·rename_i v K;cases g;exact CO h j C K
   ·cases g
  ·cases g
 case h_16 x t u ok j=>
  split at g
  ·rename_i va C
   split at g
   ·rename_i vs K;cases g;exact zK h j C K
   ·rename_i v hnt K;cases g
    have:=zK h (nb:=nb) j C K;cases v with
    |tuple vs=>exact apC rfl (hnt vs)
    |_=>exact this
   ·cases g
  ·cases g
 case h_17 t x f j=>
  split at g
  ·rename_i I ft hf
   split at g
   ·rename_i sz D
    split at g
    ·rename_i h0
     simp only[Nat.blt_eq]at h0;split at g
     ·rename_i b o' C;cases g;exact CT h j hf D h0 C
     ·rename_i cs C;cases g;exact Bo h j hf D h0 C
     ·cases g
    ·cases g
   ·cases g
  ·cases g
 case h_18 t x f j=>
  split at g
  ·rename_i I ft cs hf C
   split at g
   ·rename_i sz ag D ha;cases g
    simp only[dM]at B;exact Ze h j hf D ha C B
   ·cases g
  ·cases g
 case h_19 t x ix j=>
  split at g
  ·rename_i e k i F Z
   split at g
   ·rename_i sz D
    split at g
    ·rename_i len full cs C;cases g
     simp only[dM]at B;exact CQ h j F D Z C B.1 B.2
    ·rename_i b I len O C;cases g
     simp only[dM]at B;exact CP h j F D Z C B
    ·rename_i b len size C;cases g
     simp only[dM]at B;exact CS h j F D Z C B
    ·cases g
   ·cases g
  ·rename_i m e k i F Z
   split at g
   ·rename_i sz D
    split at g
    ·rename_i cs C;cases g
     simp only[dM]at B;exact Bn h j F D Z C B
    ·rename_i b I C;cases g
     simp only[dM]at B;exact CR h j F D Z C B
    ·cases g
   ·cases g
  ·cases g
 case h_20 t x ix j=>
  split at g
  ·rename_i k i Z
   split at g
   ·rename_i m e cs F C
    split at g
    ·rename_i sz ag D ha;cases g
     simp only[dM]at B;exact Zd h j F D ha Z C B.1 B.2
    ·cases g
   ·rename_i d F C
    split at g
    ·rename_i b pn Q;cases g
     simp only[dM]at B;exact KL h j pn Z Q B
    ·cases g
   ·cases g
  ·cases g
 case h_21 x i j=>
  split at g
  ·rename_i ds C
   split at g
   ·rename_i d hd;cases g;exact QJ h j C hd
   ·cases g
  ·cases g
 case h_22 t x lo V j=>
  split at g
  ·rename_i e F
   split at g
   ·rename_i sz len full cs k1 l D C Y
    split at g
    ·rename_i k2 u D6;cases g
     simp only[dM]at B;exact KH h j F D C Y D6 B
    ·cases g
   ·rename_i sz b I len O k1 l D C Y
    split at g
    ·rename_i k2 u D6;cases g
     simp only[dM]at B;exact KG h j F D C Y D6 B
    ·cases g
   ·rename_i sz b len size k1 l D C Y
    split at g
    ·rename_i k2 u D6
     split at g
     ·rename_i hl0
      simp only[beq_iff_eq]at hl0;subst hl0;cases g;simp only[dM]at B;exact KI h j F D C Y D6 B
     ·cases g
    ·cases g
   ·cases g
  ·rename_i m e F
   split at g
   ·rename_i sz cs k1 l D C Y
    split at g
    ·rename_i k2 u D6;cases g
     simp only[dM]at B;exact Gb h j F D C Y D6 B
    ·cases g
   ·cases g
  ·split at g
   ·rename_i b k1 l k2 u pn C Y D6;cases g
    simp only[dM]at B;exact KF h j pn C Y D6 B
   ·cases g
 case h_23 t l k j=>
  split at g
  ·rename_i e len O F A H
   split at g
   ·rename_i z i S D V;cases g
    simp only[dM]at B;exact KJ h j F A H S D V B
   ·rename_i zs m i _ S D V
    split at g
    ·rename_i J
     simp only[zLq,beq_iff_eq,Nat.blt_eq]at J;cases g;simp only[dM]at B;exact HY h j F A H S D V J.1 J.2 B
    ·cases g
   ·cases g
  ·cases g
 case h_24 k j=>
  split at g
  ·rename_i x H
   split at g
   ·rename_i f first vi hf
    obtain⟨h1,fn,h2,h3,h4⟩:=wX hf;cases g;rcases h1 with⟨h1,rfl,rfl⟩|h1
    ·have:=adu h (nb:=nb) j H h1 h2 h3 h4
     rw[anf,amX];exact this
    ·exact Zf h j H h1 h2 h3 h4
   ·cases g
  ·rename_i H
   split at g
   ·rename_i b I len O m full xs t t' A F
    obtain⟨x,y,M,N,W⟩:∃x y,k.args.toList=[x,y]∧s.ev x=.bz b I len O∧s.ev y=.row m full xs:=by
     cases G:k.args.toList with
     |nil=>rw[G]at A;cases A
     |cons x r=>cases r with
      |nil=>rw[G]at A;simp at A
      |cons y r=>cases r with
       |nil=>rw[G]at A;simp only[List.map_cons,List.map_nil,List.cons.injEq,and_true]at A;exact⟨x,y,rfl,A.1,A.2⟩
       |cons y r=>rw[G]at A;simp at A
    split at g
    ·rename_i e cs L Q
     split at g
     ·rename_i sz D
      split at g
      ·rename_i U
       simp only[beq_iff_eq]at U;subst U;cases g;simp only[dM]at B;exact adt h j H M F L D N W Q B
      ·cases g
     ·cases g
    ·cases g
   ·rename_i b len gz m full xs t t' A F
    obtain⟨x,y,M,N,W⟩:∃x y,k.args.toList=[x,y]∧s.ev x=.cR b len gz∧s.ev y=.row m full xs:=by
     cases G:k.args.toList with
     |nil=>rw[G]at A;cases A
     |cons x r=>cases r with
      |nil=>rw[G]at A;simp at A
      |cons y r=>cases r with
       |nil=>rw[G]at A;simp only[List.map_cons,List.map_nil,List.cons.injEq,and_true]at A;exact⟨x,y,rfl,A.1,A.2⟩
       |cons y r=>rw[G]at A;simp at A
    split at g
    ·rename_i e cs L Q
     split at g
     ·rename_i sz D
      split at g
      ·rename_i U
       simp only[beq_iff_eq]at U;subst U;cases g;simp only[dM]at B;exact M5 h j H M F L D N W Q B
      ·cases g
     ·cases g
    ·cases g
   ·cases g
  ·rename_i H
   split at g
   ·rename_i len full xs A
    obtain⟨x,M,N⟩:∃x,k.args.toList=[x]∧s.ev x=.row len full xs:=by
     cases G:k.args.toList with
     |nil=>rw[G]at A;cases A
     |cons x r=>cases r with
      |nil=>rw[G]at A;simp only[List.map_cons,List.map_nil,List.cons.injEq,and_true]at A;exact⟨x,rfl,A⟩
      |cons y r=>rw[G]at A;simp at A
    split at g
    ·rename_i t F
     split at g
     ·rename_i e L;cases g;exact QG h j H M F L N
     ·cases g
    ·cases g
   ·rename_i b I len O A
    obtain⟨x,M,N⟩:∃x,k.args.toList=[x]∧s.ev x=.bz b I len O:=by
     cases G:k.args.toList with
     |nil=>rw[G]at A;cases A
     |cons x r=>cases r with
      |nil=>rw[G]at A;simp only[List.map_cons,List.map_nil,List.cons.injEq,and_true]at A;exact⟨x,rfl,A⟩
      |cons y r=>rw[G]at A;simp at A
    split at g
    ·rename_i t F
     split at g
     ·rename_i e L;cases g;exact QF h j H M F L N
     ·cases g
    ·cases g
   ·rename_i b len sz A
    obtain⟨x,M,N⟩:∃x,k.args.toList=[x]∧s.ev x=.cR b len sz:=by
     cases G:k.args.toList with
     |nil=>rw[G]at A;cases A
     |cons x r=>cases r with
      |nil=>rw[G]at A;simp only[List.map_cons,List.map_nil,List.cons.injEq,and_true]at A;exact⟨x,rfl,A⟩
      |cons y r=>rw[G]at A;simp at A
    split at g
    ·rename_i t F
     split at g
     ·rename_i e L;cases g;exact QI h j H M F L N
     ·cases g
    ·cases g
   ·rename_i d _ _ _ A
    obtain⟨x,M,N⟩:∃x,k.args.toList=[x]∧s.ev x=d:=by
     cases G:k.args.toList with
     |nil=>rw[G]at A;cases A
     |cons x r=>cases r with
      |nil=>rw[G]at A;simp only[List.map_cons,List.map_nil,List.cons.injEq,and_true]at A;exact⟨x,rfl,A⟩
      |cons y r=>rw[G]at A;simp at A
    split at g
    ·rename_i v K
     split at g
     ·rename_i r hr;cases g;exact QH h j H M (by rw[N];exact K) hr
     ·cases g
    ·cases g
   ·cases g
  ·rename_i H
   split at g
   ·rename_i vs K
    split at g
    ·rename_i r hr;cases g;exact agw h j H K hr
    ·cases g
   ·cases g
  ·rename_i H
   split at g
   ·rename_i vs K
    split at g
    ·rename_i r hr;cases g;exact agv h j H K hr
    ·cases g
   ·cases g
  ·rename_i H
   split at g
   ·rename_i x0 q full ys t t' A F
    obtain⟨x,y,M,N,W⟩:∃x y,k.args.toList=[x,y]∧s.ev x=x0∧s.ev y=.row q full ys:=by
     cases G:k.args.toList with
     |nil=>rw[G]at A;cases A
     |cons x r=>cases r with
      |nil=>rw[G]at A;simp at A
      |cons y r=>cases r with
       |nil=>rw[G]at A;simp only[List.map_cons,List.map_nil,List.cons.injEq,and_true]at A;exact⟨x,y,rfl,A.1,A.2⟩
       |cons y r=>rw[G]at A;simp at A
    split at g
    ·rename_i e L
     split at g
     ·rename_i i V
      split at g
      ·rename_i J
       simp only[zLq,beq_iff_eq,Nat.blt_eq]at J;obtain⟨⟨rfl,S⟩,h0⟩:=J;obtain⟨z,Tg,H8⟩:∃z,i.zero=some z∧z.cells.size=i.size:=by
        cases mL:i.zero with
        |none=>rw[mL]at S;simp at S
        |some z=>rw[mL]at S;exact⟨z,rfl,by simpa using S⟩
       split at g
       ·rename_i p xs
        split at g
        ·cases g
         simp only[dM]at B;exact H0 h j H M F L V Tg H8 h0 N W B
        ·cases g
         simp only[dM]at B;exact H4 h j H M F L V Tg H8 h0 N W B
       ·rename_i b p sz
        split at g
        ·rename_i cs Q
         split at g
         ·rename_i hc2
          simp only[zLq,beq_iff_eq,Nat.ble_eq,Bool.not_eq_true']at hc2;obtain⟨rfl,hg2,Ar⟩:=hc2;cases g;simp only[dM]at B;exact Gd h j H M F L V Tg H8 h0 N W Q Ar (by omega) B.1 B.2
         ·cases g
        ·cases g
       ·rename_i b I p O
        split at g
        ·rename_i cs Q
         cases g;simp only[dM]at B;exact HZ h (ro:=ro) j H M F L V Tg H8 h0 N W Q B
        ·cases g
       ·cases g
      ·cases g
     ·cases g
    ·cases g
   ·rename_i x0 v0 t t' A F
    obtain⟨x,y,M,N,W⟩:∃x y,k.args.toList=[x,y]∧s.ev x=x0∧s.ev y=.lit v0:=by
     cases G:k.args.toList with
     |nil=>rw[G]at A;cases A
     |cons x r=>cases r with
      |nil=>rw[G]at A;simp at A
      |cons y r=>cases r with
       |nil=>rw[G]at A;simp only[List.map_cons,List.map_nil,List.cons.injEq,and_true]at A;exact⟨x,y,rfl,A.1,A.2⟩
       |cons y r=>rw[G]at A;simp at A
    split at g
    ·split at g
     ·rename_i e L
      split at g
      ·rename_i i V
       split at g
       ·rename_i J
        simp only[beq_iff_eq]at J;subst J;cases g;exact H3 h j H M F L V N W
       ·cases g
      ·cases g
     ·cases g
    ·cases g
   ·cases g
  ·cases g
 case h_25=>cases g
end Lw
namespace Lw
open Go Go.RowKit
structure St where
 tmps:List D
 blks:List (Option (List D))
 b_:List Nat
 deriving Inhabited
def St.fs(s:St):FSt:=⟨fun t=>s.tmps.getD t .any,fun b=>s.blks.getD b none,fun b=>s.b_.contains b⟩
inductive o_ where
 |normal
 |exit (id:Nat)
 |ret
 deriving DecidableEq,Inhabited
inductive de where
 |call (f:FuncId) (args:List D)
 |d (x:D)
 |p (q:Prop)
 |code (c:Code) (n gb:Nat) (ds:List D) (bs:List (Option (List D)))
 |m (f:FuncId) (args cs:List D)
 |u (cs:List D)
def sk(lD:List Nat):Nat:=lD.foldr (fun b m=>if Nat.blt b m then m else b+1) 0
def lay(n:Nat)(l:List (Nat×D))(bl:List (Nat×List D))(ns:List Nat:=[]):St:=
 ⟨(List.range n).map fun t=>((l.find? fun p=>p.1==t).map (·.2)).getD .any,(List.range (sk (bl.map (·.1)))).map fun b=>(bl.find? fun p=>p.1==b).map (·.2),ns⟩
def Fw(r:Option Nat):Fence:={Fence.wide with round:=r}
theorem abu{P:Program}{f:FuncId}{args:Array Value}{w:World}{R:Ending→World→Prop}{r:Option Nat}{n:Nat}(h:Calls P f args w R):CallsIn (Fw r) n P f args w R:=by
 have:=(callsIn_wide (n:=n)).2 h;exact this
theorem aif{P:Program}{o:Oper}{a:Act}{w:World}{K:Act→World→Prop}{Q:Exit→Act→World→Prop}{r:Option Nat}{n:Nat}(j:∀c,o.op≠.defer c)(h:o.wp P a w K Q):o.wpIn (Fw r) n P a w K Q:=by
 refine⟨fun f _=>trivial,?_⟩
 have e:(Oper.semAt (Fw r).round a.eval o)=execOp a.eval o:=Oper.semAt_eq _ _ _ j;rw[e];unfold Oper.wp at h;generalize(execOp a.eval o).run P w=x at h;have b:(Fw r).depth.isSome=true→1≤n:=fun h=>by simp[Fw,Fence.wide]at h
 cases x with
 |ok y g=>
  cases y<;>simp only[Oper.upon,Oper.uponIn]at h⊢ <;>first
   |exact h
   |exact⟨b,abu h⟩
   |exact⟨b,fun c cs _=>by obtain⟨v,d,i,s2⟩:=h c cs;exact⟨v,d,i,stepsIn_wide.2 s2⟩⟩
 |halt y g=>cases y<;>simp only[Oper.upon,Oper.uponIn]at h⊢ <;>exact h
def bT(P:Program)(Good:World→Prop)(n gb:Nat)(k:Code)(s:St)(e:o_)(s':St):Prop:=
 ∀(c:Ctx)(Q:Exit→Act→World→Prop)(a:Act)(w:World),c.P=P→c.Good=Good→c.Good c.w0→c.gb≤gb→Rel c n s.fs a w→
  (∀d b,Rel c n s'.fs d b→Q (match e with|.normal=>.normal|.exit id=>.exit id|.ret=>.ret) d b)→k.wpIn (Fw c.rd) 0 P Q a w
def iD(P:Program)(Good:World→Prop)(fn:Func)(mx:Nat)(args:List D)(blks:List (Option (List D)))(ns:List Nat)(d:D)(blks':List (Option (List D)))(ns':List Nat):Prop:=
 ∀(f:FuncId),P.funcs[f]? =some fn→∀(c:Ctx)(w:World)(β:Nat→Nat)(X:Nat→Prop)(vals:List Value),c.P=P→c.Good=Good→c.Good c.w0→c.gb≤mx→c.rd=none→c.dfs=[]→
  dk c 0 ⟨fun _=>.any,fun b=>blks.getD b none,fun b=>ns.contains b⟩ ⟨#[],[]⟩ w β X→vals.length=args.length→(∀i(h:i<vals.length)(l:i<args.length),cW β w X vals[i] args[i])→
  (∀d∈args,∀b∈d.refs,(blks.getD b none).isSome=true)→
  Calls P f vals.toArray w fun e j=>∃v g k,e=.returned v∧dk c 0 ⟨fun _=>.any,fun b=>blks'.getD b none,fun b=>ns'.contains b⟩ ⟨#[],[]⟩ j g k∧cW g j k v d∧
   ∀b∈d.refs,(blks'.getD b none).isSome=true
structure rM(P:Program)(Good:World→Prop)where
 orc:FuncId→List D→Option D
 ok:∀f args r,orc f args=some r→Spec P Good f args r
 ro:FuncId→List Nat
 stop:FuncId→Bool
 ado:FuncId→List D→Option D
 okF:∀f args r,ado f args=some r→iz P Good f args r
 adn:FuncId→Nat→List D→List (Option (List D))→Option (D×List (Option (List D)))
 okI:∀f fn mx args blks d blks',adn f mx args blks=some (d,blks')→P.funcs[f]? =some fn→iD P Good fn mx args blks [] d blks' []
 fr:Bool
def U9(x:D)(v:Value):D:=match x.ref with
 |none=>x
 |some _=>.lit v
def pg:List D→List Value→List D
 |x::l,v::vs=>U9 x v::pg l vs
 |_,_=>[]
theorem ZN(x:D)(v:Value):(U9 x v).ref=none:=by
 unfold U9;split
 ·assumption
 ·rfl
theorem sU:∀{l:List D}{vs:List Value},vs.length=l.length→(pg l vs).length=l.length
 |[],[],_=>rfl
 |x::l,v::vs,h=>by simp only[pg,List.length_cons];rw[sU (by simpa using h)]
theorem Gx:∀{l:List D}{vs:List Value}(i:Nat)(d:i<l.length)(b:i<vs.length)(e:i<(pg l vs).length),(pg l vs)[i]=U9 l[i] vs[i]
 |x::l,v::vs,0,_,_,_=>rfl
 |x::l,v::vs,i+1,d,b,e=>by
  simp only[pg,List.getElem_cons_succ];exact Gx i (by simpa using d) (by simpa using b) (by simpa [pg]using e)
 |[],_,_,d,_,_=>apC d (by simp)
 |x::l,[],_,_,b,_=>apC b (by simp)
theorem Gw:∀{l:List D}{vs:List Value},∀x∈pg l vs,x.ref=none
 |[],_,x,h=>by simp[pg]at h
 |_::_,[],x,h=>by simp[pg]at h
 |y::l,v::vs,x,h=>by
  simp only[pg,List.mem_cons]at h;rcases h with rfl|h
  ·exact ZN y v
  ·exact Gw x h
inductive Item(P:Program)(Good:World→Prop)where
 |call {f:FuncId} {args:List D} {r:D} (h:Spec P Good f args r)
 |eq (t:Tmp) {d d':D} (h:d=d')
 |prop {p:Prop} (h:p)
 |code {n gb:Nat} {k:Code} {l:List (Nat×D)} {bl:List (Nat×List D)} {ns:List Nat} {e:o_} {s':St} (h:bT P Good n gb k (lay n l bl ns) e s')
 |Ha {f:FuncId} {args:List D} {n:Nat} {cs:List D} (h:zX P Good f args n cs)
 |dY {f:FuncId} {args:List D} {r:D} (h:iz P Good f args r)
 |inl (ro:List Nat) {f:FuncId} {fn:Func} (hf:P.funcs[f]? =some fn)
 |freeze (b:Nat)
 |auto (A:rM P Good)
 |aT {f:FuncId} {fn:Func} {args cs cs':List D} {r:D} (hf:P.funcs[f]? =some fn) (h:iD P Good fn 1 args [some cs] [] r [some cs'] [])
 |wY {f:FuncId} {fn:Func} {args cs:List D} {r:D} (hf:P.funcs[f]? =some fn) (h:∀vs:List Value,vs.length=cs.length→iD P Good fn 1 args [some (pg cs vs)] [] r [some (pg cs vs)] [])
 |mE {f:FuncId} {fn:Func} {mx:Nat} {args:List D} {blks blks':List (Option (List D))} {ns ns':List Nat} {d:D} (hf:P.funcs[f]? =some fn) (h:iD P Good fn mx args blks ns d blks' ns')
inductive Rec where
 |val (d:D)
 |new (b:Nat) (cs:List D) (d:D) (nf:Bool)
 |store (b off:Nat) (ds:List D) (d:D) (nf:Bool)
 |grow (b:Nat) (cs:List D) (d:D)
 |own (d:D)
 |inl (blks:List (Option (List D))) (ns:List Nat) (d:D)
def Rec.put:Rec→D
 |.val d=>d
 |.new _ _ d _=>d
 |.store _ _ _ d _=>d
 |.grow _ _ d=>d
 |.own d=>d
 |.inl _ _ d=>d
def Rec.plain:Rec→Bool
 |.val _=>true
 |.new _ _ _ _=>true
 |.store _ _ _ _ _=>true
 |.grow _ _ _=>false
 |.own _=>false
 |.inl _ _ _=>false
def Rec.inner:Rec→Bool
 |.val _=>false
 |.new _ _ _ _=>false
 |.store _ _ _ _ _=>false
 |.grow _ _ _=>false
 |.own _=>true
 |.inl _ _ _=>true
def aF(cs:List D)(off:Nat)(ds:List D):List D:=cs.take off++(ds++cs.drop (off+ds.length))
variable {P:Program} {Good:World→Prop}
def Bz(e:HC)(d:List (Item P Good)):Option (List (Item P Good)×List (de×de)):=
 match e with
 |.no=>some (d,[])
 |.want p b _=>match d with
  |.prop (p:=q) _::tr'=>some (tr',[(.p p,.p q)])
  |.auto A:: .prop (p:=q) _::tr'=>some (.auto A::tr',[(.p p,.p q)])
  |_=>if b then some (d,[])else none
def Qn(dst:Option Tmp)(d:D)(b:List (Item P Good)):D×List (Item P Good)×List (de×de):=
 match b with
 |.eq t (d:=x) (d':=y) _::tr'=>if dst==some t then(y,tr',[(.d d,.d x)])else(d,b,[])
 |.auto A:: .eq t (d:=x) (d':=y) _::tr'=>if dst==some t then(y,.auto A::tr',[(.d d,.d x)])else(d,b,[])
 |_=>(d,b,[])
def D.w7(blk:Nat→Option (List D))(b_:Nat→Bool):Nat→D→D
 |0,d=>match d.ref with
  |some b=>match blk b,b_ b with
   |some cs,false=>d.dX b cs
   |_,_=>.any
  |none=>d
 |m+1,d=>match d.ref with
  |some b=>match blk b with
   |some cs=>match b_ b with
    |false=>d.dX b cs
    |true=>d.dX b (cs.map (D.w7 blk b_ m))
   |none=>.any
  |none=>d
def D.rowOf(blk:Nat→Option (List D))(b_:Nat→Bool)(d:D):D:=
 match d with
 |.agg xs=>.agg (xs.map (D.w7 blk b_ 4))
 |.aY xs=>.aY (xs.map (D.w7 blk b_ 4))
 |d=>(D.w7 blk b_ 4 d).FW
def D.flat:D→Bool
 |.lit _=>true
 |_=>false
section
universe u
variable {α:Type u}
def K9(n:Nat)(k:Nat→α):α:=match n with
 |0=>k 0
 |m+1=>k (Nat.succ m)
theorem o5(n:Nat)(k:Nat→α):K9 n k=k n:=by cases n<;>rfl
def frI(z:Int)(k:Int→α):α:=match z with
 |.ofNat n=>K9 n fun n=>k (.ofNat n)
 |.negSucc n=>K9 n fun n=>k (.negSucc n)
theorem aht(z:Int)(k:Int→α):frI z k=k z:=by cases z<;>simp only[frI,o5]
def frB(b:Bool)(k:Bool→α):α:=match b with
 |true=>k true
 |false=>k false
theorem Ry(b:Bool)(k:Bool→α):frB b k=k b:=by cases b<;>rfl
def frV(v:Value)(k:Value→α):α:=match v with
 |.int t z=>frI z fun z=>k (.int t z)
 |.bool b=>frB b fun b=>k (.bool b)
 |v=>k v
theorem ahr(v:Value)(k:Value→α):frV v k=k v:=by
 cases v<;>first|rfl|simp only[frV,aht,Ry]
def VD(g:D→(D→α)→α):List D→(List D→α)→α
 |[],k=>k []
 |x::l,k=>g x fun x=>VD g l fun l=>k (x::l)
theorem wg{g:D→(D→α)→α}(b:∀d k,g d k=k d):∀(l:List D)(k:List D→α),VD g l k=k l
 |[],_=>rfl
 |x::l,k=>by simp only[VD];rw[b,wg b l]
def JA:Nat→D→(D→α)→α
 |0,d,k=>k d
 |_+1,.lit v,k=>frV v fun v=>k (.lit v)
 |n+1,.row l f xs,k=>K9 l fun l=>frB f fun f=>VD (JA n) xs fun xs=>k (.row l f xs)
 |n+1,.agg xs,k=>VD (JA n) xs fun xs=>k (.agg xs)
 |n+1,.aY xs,k=>VD (JA n) xs fun xs=>k (.aY xs)
 |n+1,.aV xs,k=>VD (JA n) xs fun xs=>k (.aV xs)
 |_+1,.ptr b o,k=>K9 b fun b=>K9 o fun o=>k (.ptr b o)
 |_+1,.bz b o l c,k=>K9 b fun b=>K9 o fun o=>K9 l fun l=>K9 c fun c=>k (.bz b o l c)
 |_+1,.cR b l z,k=>K9 b fun b=>K9 l fun l=>K9 z fun z=>k (.cR b l z)
 |n+1,.fn f xs e,k=>K9 f fun f=>VD (JA n) xs fun xs=>VD (JA n) e fun e=>k (.fn f xs e)
 |_+1,d,k=>k d
theorem qR:∀(n:Nat)(d:D)(k:D→α),JA n d k=k d
 |0,d,k=>rfl
 |n+1,d,k=>by
  cases d<;>simp only[JA]
  ·exact ahr _ _
  ·rw[o5,Ry,wg (qR n)]
  ·rw[wg (qR n)]
  ·rw[wg (qR n)]
  ·rw[wg (qR n)]
  ·rw[o5,o5]
  ·rw[o5,o5,o5,o5]
  ·rw[o5,o5,o5]
  ·rw[o5,wg (qR n),wg (qR n)]
end
def Kb:List UInt8→List UInt8→Bool
 |[],[]=>true
 |a::l,b::m=>Nat.beq a.toNat b.toNat&&Kb l m
 |_,_=>false
theorem ID:∀{l m:List UInt8},Kb l m=true→l=m
 |[],[],_=>rfl
 |a::l,b::m,h=>by
  simp only[Kb,zLq]at h;rw[UInt8.toNat_inj.1 (anq h.1),ID h.2]
def Kf(a b:ByteArray):Bool:=Kb a.data.toList b.data.toList
theorem FC{a b:ByteArray}(h:Kf a b=true):a=b:=by
 have:=ID h;cases a;cases b;simp only at this;rw[amB.1 this]
def J_:Value→Value→Bool
 |.int k a,.int l b=>decide (k=l)&&decide (a=b)
 |.bool a,.bool b=>decide (a=b)
 |.string a,.string b=>Kf a b
 |.nilIface,.nilIface=>true
 |.nilFunc,.nilFunc=>true
 |.tuple a,.tuple b=>decide (a.size=0)&&decide (b.size=0)
 |.pointer none,.pointer none=>true
 |.func (.func f) a b,.func (.func g) c d=>decide (f=g)&&(decide (a.size=0∧b.size=0)&&decide (c.size=0∧d.size=0))
 |_,_=>false
theorem PQ:∀{a b:Value},J_ a b=true→a=b:=by
 intro a b h;unfold J_ at h;split at h
 ·rw[zLq,decide_eq_true_eq,decide_eq_true_eq]at h;rw[h.1,h.2]
 ·rw[decide_eq_true_eq]at h;rw[h]
 ·rw[FC h]
 ·rfl
 ·rfl
 ·rw[zLq,decide_eq_true_eq,decide_eq_true_eq]at h
  rw[amI h.1,amI h.2]
 ·rfl
 ·rw[zLq,zLq,decide_eq_true_eq,decide_eq_true_eq,decide_eq_true_eq]at h
  obtain⟨rfl,⟨g,f⟩,e,d⟩:=h;rw[amI g,amI f,amI e,amI d]
 ·cases h
def nh(f:D→D→Bool):List D→List D→Bool
 |[],[]=>true
 |a::l,b::m=>f a b&&nh f l m
 |_,_=>false
theorem jF{f:D→D→Bool}(d:∀{a b},f a b=true→a=b):∀{l m:List D},nh f l m=true→l=m
 |[],[],_=>rfl
 |a::l,b::m,h=>by
  simp only[nh,zLq]at h;rw[d h.1,jF d h.2]
def wW:Nat→D→D→Bool
 |0,_,_=>false
 |_+1,.any,.any=>true
 |_+1,.lit a,.lit b=>J_ a b
 |n+1,.row l f xs,.row m g d=>decide (l=m)&&decide (f=g)&&nh (wW n) xs d
 |n+1,.agg xs,.agg d=>nh (wW n) xs d
 |n+1,.aV xs,.aV d=>nh (wW n) xs d
 |n+1,.aY xs,.aY d=>nh (wW n) xs d
 |_+1,.ptr b o,.ptr e i=>decide (b=e)&&decide (o=i)
 |_+1,.bz b o l k,.bz e i j p=>decide (b=e)&&decide (o=i)&&decide (l=j)&&decide (k=p)
 |_+1,.cR b l k,.cR e j p=>decide (b=e)&&decide (l=j)&&decide (k=p)
 |n+1,.fn f xs d,.fn g q h=>decide (f=g)&&nh (wW n) xs q&&nh (wW n) d h
 |_,_,_=>false
theorem o6:∀(n:Nat){a b:D},wW n a b=true→a=b
 |0,_,_,h=>by simp[wW]at h
 |n+1,a,b,h=>by
  cases a<;>cases b<;>simp only[wW,Bool.false_eq_true]at h
  ·rfl
  ·rw[PQ h]
  ·simp only[zLq,decide_eq_true_eq]at h
   rw[h.1.1,h.1.2,jF (fun d=>o6 n d) h.2]
  ·rw[jF (fun d=>o6 n d) h]
  ·rw[jF (fun d=>o6 n d) h]
  ·rw[jF (fun d=>o6 n d) h]
  ·simp only[zLq,decide_eq_true_eq]at h
   rw[h.1,h.2]
  ·simp only[zLq,decide_eq_true_eq]at h
   rw[h.1.1.1,h.1.1.2,h.1.2,h.2]
  ·simp only[zLq,decide_eq_true_eq]at h
   rw[h.1.1,h.1.2,h.2]
  ·simp only[zLq,decide_eq_true_eq]at h
   rw[h.1.1,jF (fun d=>o6 n d) h.1.2,jF (fun d=>o6 n d) h.2]
def tg:List (Option (List D))→List (Option (List D))→Bool
 |[],[]=>true
 |none::l,none::m=>tg l m
 |some a::l,some b::m=>nh (wW 8) a b&&tg l m
 |_,_=>false
theorem qA:∀{l m:List (Option (List D))},tg l m=true→l=m
 |[],[],_=>rfl
 |none::l,none::m,h=>by rw[qA (l:=l) (m:=m) h]
 |some a::l,some b::m,h=>by
  simp only[tg,zLq]at h;rw[jF (fun d=>o6 8 d) h.1,qA h.2]
def Oh(blks blks':List (Option (List D)))(d:D):Bool:=d.refs.isEmpty&&tg blks (blks'.take blks.length)
theorem abb{blks blks':List (Option (List D))}{d:D}(h:Oh blks blks' d=true):d.refs=[]∧∀b cs,blks.getD b none=some cs→blks'.getD b none=some cs:=by
 unfold Oh at h;rw[zLq,anH]at h;refine⟨h.1,fun b cs f=>?_⟩
 have e:=qA h.2;rw[e]at f;simp only[List.getD_eq_getElem?_getD,List.getElem?_take]at f⊢;split at f
 ·exact f
 ·simp at f
abbrev Inline(P:Program)(Good:World→Prop):=Nat→List Nat→Func→List D→List (Option (List D))→List Nat→List (Item P Good)→Option (D×List (Option (List D))×List Nat×List (Item P Good)×List (de×de))
def JQ(f:FuncId)(mx:Nat)(args:List D)(blks:List (Option (List D)))(ns:List Nat):de:=.code .skip f mx (.aY args::ns.map fun n=>.ptr n 0) blks
theorem WB{f g:FuncId}{m m':Nat}{xs e:List D}{b i:List (Option (List D))}{ns ns':List Nat}(h:JQ f m xs b ns=JQ g m' e i ns'):f=g∧m=m'∧xs=e∧b=i∧ns=ns':=by
 unfold JQ at h;simp only[de.code.injEq,List.cons.injEq,D.aY.injEq,true_and]at h;refine⟨h.1,h.2.1,h.2.2.1.1,h.2.2.2,?_⟩;have d:=h.2.2.1.2;clear h;induction ns generalizing ns' with
 |nil=>cases ns' with
  |nil=>rfl
  |cons y l=>cases d
 |cons x l j=>cases ns' with
  |nil=>cases d
  |cons y k=>
   simp only[List.map_cons,List.cons.injEq,D.ptr.injEq,and_true]at d;rw[d.1,j d.2]
def ai2{P:Program}{Good:World→Prop}(A:rM P Good)(mx:Nat)(f:FuncId)(args:List D)(blks:List (Option (List D)))(ns:List Nat)(tr':List (Item P Good)):Option (D×List (Option (List D))×List Nat×List (Item P Good)×List (de×de)):=
 match A.stop f with
 |true=>match tr' with
  |.mE (f:=g) (mx:=i) (args:=xs) (blks:=k) (blks':=j) (ns:=h) (ns':=e) (d:=d) _ _::b=>some (d,j,e,.auto A::b,[(JQ f mx args blks ns,JQ g i xs k h)])
  |_=>none
 |false=>none
def Ra{P:Program}{Good:World→Prop}(inl:Inline P Good)(A:rM P Good)(ro:List Nat)(mx:Nat)(f:FuncId)(fn:Func)(args:List D)(blks:List (Option (List D)))(ns:List Nat)(tr':List (Item P Good)):Option (D×List (Option (List D))×List Nat×List (Item P Good)×List (de×de)):=
 match ai2 A mx f args blks ns tr' with
 |some x=>some x
 |none=>match ns with
  |[]=>match A.adn f mx args blks with
   |some (d,blks')=>some (d,blks',[],.auto A::tr',[])
   |none=>inl mx ro fn args blks [] (.auto A::tr')
  |n::ns=>inl mx ro fn args blks (n::ns) (.auto A::tr')
theorem yO{inl:Inline P Good}{A:rM P Good}{ro:List Nat}{mx:Nat}{f:FuncId}{fn:Func}{args:List D}{blks blks':List (Option (List D))}{ns ns':List Nat}{d:D}{tr' i:List (Item P Good)}{eqs:List (de×de)}
  (h:Ra inl A ro mx f fn args blks ns tr'=some (d,blks',ns',i,eqs)) (k:P.funcs[f]? =some fn) (o:∀e∈eqs,e.1=e.2):iD P Good fn mx args blks ns d blks' ns'∨inl mx ro fn args blks ns (.auto A::tr')=some (d,blks',ns',i,eqs):=by
 unfold Ra at h;split at h
 ·rename_i x b
  simp only[zIq]at h;subst h;unfold ai2 at b;split at b
  ·split at b
   ·rename_i g q B t C r z y d0 j p v
    cases b;obtain⟨rfl,rfl,rfl,rfl,rfl⟩:=WB (o _ (alW ..));rw[k]at j;obtain rfl:=amq j;exact .inl p
   ·cases b
  ·cases b
 ·split at h
  ·split at h
   ·rename_i d1 r l
    cases h;exact .inl (A.okI _ _ _ _ _ _ _ l k)
   ·exact .inr h
  ·exact .inr h
def Ho(P:Program){Good:World→Prop}(inl:Inline P Good)(A:rM P Good)(mx:Nat)(f:FuncId)(args:List D)(blks:List (Option (List D)))(ns:List Nat)(tr':List (Item P Good)):Option (Rec×List (Item P Good)×List (de×de)):=
 match P.funcs[f]?with
 |some fn=>match Ra inl A (A.ro f) mx f fn args blks ns tr' with
  |some (d,blks',ns',b,eqs)=>some (match A.fr&&Oh blks blks' d with|true=>.own d|false=>.inl blks' ns' d,b,eqs)
  |none=>none
 |none=>none
theorem oy{inl:Inline P Good}{A:rM P Good}{mx:Nat}{f:FuncId}{args:List D}{blks:List (Option (List D))}{ns:List Nat}{tr' e:List (Item P Good)}{R:Rec}{eqs:List (de×de)}
  (h:Ho P inl A mx f args blks ns tr'=some (R,e,eqs)):∃fn d blks' ns',P.funcs[f]? =some fn∧Ra inl A (A.ro f) mx f fn args blks ns tr'=some (d,blks',ns',e,eqs)∧(R=.inl blks' ns' d∨R=.own d∧Oh blks blks' d=true):=by
 unfold Ho at h;split at h
 ·rename_i fn j
  split at h
  ·rename_i d blks' ns' l k i
   simp only[zIq,zJq]at h;obtain⟨b,rfl,rfl⟩:=h;refine⟨fn,d,blks',ns',j,i,?_⟩;split at b
   ·rename_i g
    rw[zLq]at g;exact .inr ⟨b.symm,g.2⟩
   ·exact .inl b.symm
  ·cases h
 ·cases h
def xW(blk:Nat→Option (List D))(args:List D):Option (Option (Nat×List D)):=
 match args.flatMap D.refs with
 |[]=>some none
 |b::l=>match l.all (fun d=>d==b),blk b with
  |true,some cs=>match dZ cs with
   |true=>none
   |false=>some (some (b,cs))
  |_,_=>none
def l6:Option (Nat×List D)→List (Option (List D))
 |none=>[]
 |some (b,cs)=>List.replicate b none++[some cs]
def D.zI:D→D
 |.ptr _ o=>.ptr 0 o
 |.bz _ o l c=>.bz 0 o l c
 |.cR _ n z=>.cR 0 n z
 |d=>d
def D.zn:D→D
 |.agg xs=>.agg (xs.map D.zI)
 |.aY xs=>.aY (xs.map D.zI)
 |d=>d.zI
def ajy:Option (Nat×List D)→List (Option (List D))
 |none=>[]
 |some (_,cs)=>[some cs]
def ajx:Option (Nat×List D)→Nat
 |none=>0
 |some _=>1
def ajz(o:Option (Nat×List D))(args:List D):List D:=match o with
 |none=>args
 |some _=>args.map D.zn
def NV(o:Option (Nat×List D))(d:D)(blks':List (Option (List D)))(ns':List Nat):Option D:=
 match o with
 |none=>some (d.rowOf (fun b=>blks'.getD b none) (fun b=>ns'.contains b))
 |some (_,cs)=>match blks'.getD 0 none with
  |some cs'=>match d.refs.isEmpty&&(nh (wW 8) cs cs'&& !dZ cs')with
   |true=>some d
   |false=>none
  |none=>none
def NU(e:Bool)(b:Nat)(cs cs':List D)(d:D):Option (Rec×List (de×de)):=
 match d.refs.isEmpty&&(Nat.beq cs'.length cs.length&& !dZ cs')with
 |true=>match e with
  |true=>some (.store b 0 cs' d false,[])
  |false=>some (.val d,[(.u cs',.u cs)])
 |false=>none
def Tk(e:Bool)(o:Option (Nat×List D))(d:D)(blks':List (Option (List D)))(ns':List Nat):Option (Rec×List (de×de)):=
 match o with
 |none=>some (.val (d.rowOf (fun b=>blks'.getD b none) (fun b=>ns'.contains b)),[])
 |some (b,cs)=>match blks'.getD 0 none with
  |some cs'=>NU e b cs cs' d
  |none=>none
def Uv(blk:Nat→Option (List D))(args:List D):Option (Nat×List D):=
 match args.flatMap D.refs with
 |[]=>none
 |b::l=>match l.all (fun d=>d==b),blk b with
  |true,some cs=>some (b,cs)
  |_,_=>none
theorem acV{blk:Nat→Option (List D)}{args:List D}{b:Nat}{cs:List D}(h:Uv blk args=some (b,cs)):blk b=some cs∧∀d∈args,∀f∈d.refs,f=b:=by
 unfold Uv at h;split at h
 ·cases h
 ·rename_i q l i
  split at h
  ·rename_i p g k
   cases h;refine⟨k,fun d j f o=>?_⟩
   have hm:f∈args.flatMap D.refs:=anI.2 ⟨d,j,o⟩;rw[i]at hm;rcases alM.1 hm with e|hm
   ·exact e
   ·have:=al9.1 g f hm
    rwa [beq_iff_eq]at this
  ·cases h
def adB{P:Program}{Good:World→Prop}(A:rM P Good)(f:FuncId)(args:List D)(blk:Nat→Option (List D))(tr':List (Item P Good)):Option (Rec×List (Item P Good)×List (de×de)):=
 match tr' with
 |.aT (f:=g) (args:=xs) (cs:=e) (cs':=h) (r:=r) _ _::d=>match xW blk args with
  |some (some (b,cs))=>match NU ((A.ro f).contains 996) b cs h r with
   |some (R,i)=>some (R,.auto A::d,(.m f (args.map D.zn) cs,.m g xs e)::i)
   |none=>none
  |_=>none
 |.wY (f:=g) (args:=xs) (cs:=e) (r:=r) _ _::d=>match Uv blk args with
  |some (_,cs)=>match r.refs.isEmpty with
   |true=>some (.val r,.auto A::d,[(.m f (args.map D.zn) cs,.m g xs e)])
   |false=>none
  |none=>none
 |_=>none
theorem Av{g:Bool}{b:Nat}{cs cs':List D}{d:D}{R:Rec}{f:List (de×de)}(h:NU g b cs cs' d=some (R,f)):
  dZ cs'=false∧d.refs=[]∧cs'.length=cs.length∧((R=.val d∧f=[(.u cs',.u cs)])∨(R=.store b 0 cs' d false∧f=[])):=by
 unfold NU at h;split at h
 ·rename_i e
  simp only[zLq,List.isEmpty_iff,Bool.not_eq_true']at e;split at h
  ·simp only[zIq,zJq]at h
   exact⟨e.2.2,e.1,anq e.2.1,.inr ⟨h.1.symm,h.2.symm⟩⟩
  ·simp only[zIq,zJq]at h
   exact⟨e.2.2,e.1,anq e.2.1,.inl ⟨h.1.symm,h.2.symm⟩⟩
 ·cases h
def mY(P:Program){Good:World→Prop}(inl:Inline P Good)(A:rM P Good)(f:FuncId)(args:List D)(blk:Nat→Option (List D))(tr':List (Item P Good)):Option (Rec×List (Item P Good)×List (de×de)):=
 match A.stop f with
 |true=>adB A f args blk tr'
 |false=>match(A.ro f).contains 999 with
  |true=>none
  |false=>match xW blk args with
   |some o=>match P.funcs[f]?with
    |some fn=>match Ra inl A (998::A.ro f) (ajx o) f fn (ajz o args) (ajy o) [] tr' with
     |some (d,blks',ns',e,eqs)=>match A.fr with
      |true=>(match NV o d blks' ns' with
       |some b=>JA 12 b fun b=>some (.val b,e,eqs)
       |none=>none)
      |false=>(match Tk ((A.ro f).contains 996) o d blks' ns' with
       |some (R,g)=>some (R,e,eqs++g)
       |none=>none)
     |none=>none
    |none=>none
   |none=>none
def afh(nb:Nat):D→Option (Nat×D)
 |.cR b n size=>some (b,.cR nb n size)
 |.ptr b off=>some (b,.ptr nb off)
 |_=>none
def aiZ(nb:Nat)(x e:D)(blks':List (Option (List D))):Option Rec:=
 match afh nb x with
 |some (b,d)=>match e.ref with
  |some _=>none
  |none=>match blks'.getD b none with
   |some cs=>match dZ cs with
    |true=>none
    |false=>some (.new nb cs (.aY [d,e]) false)
   |none=>none
 |none=>none
def Zs(nb:Nat)(d:D)(blks':List (Option (List D)))(_ns':List Nat):Option Rec:=
 match d with
 |.cR b n size=>match blks'.getD b none with
  |some cs=>match dZ cs with
   |true=>none
   |false=>some (.new nb cs (.cR nb n size) false)
  |none=>none
 |.bz b off len cap=>match blks'.getD b none with
  |some cs=>match dZ cs with
   |true=>none
   |false=>some (.new nb cs (.bz nb off len cap) false)
  |none=>none
 |.aY [x,e]=>aiZ nb x e blks'
 |_=>none
def Dv(P:Program){Good:World→Prop}(inl:Inline P Good)(A:rM P Good)(f:FuncId)(args:List D)(nb:Nat)(tr':List (Item P Good)):Option (Rec×List (Item P Good)×List (de×de)):=
 match(A.ro f).contains 997 with
 |false=>none
 |true=>match P.funcs[f]?with
  |some fn=>match Ra inl A (A.ro f) 0 f fn args [] [] tr' with
   |some (d,blks',ns',b,eqs)=>match Zs nb d blks' ns' with
    |some R=>some (R,b,eqs)
    |none=>none
   |none=>none
  |none=>none
theorem tj{inl:Inline P Good}{A:rM P Good}{f:FuncId}{args:List D}{nb:Nat}{tr' b:List (Item P Good)}{R:Rec}{eqs:List (de×de)}
  (h:Dv P inl A f args nb tr'=some (R,b,eqs)):∃fn d blks' ns',P.funcs[f]? =some fn∧Ra inl A (A.ro f) 0 f fn args [] [] tr'=some (d,blks',ns',b,eqs)∧Zs nb d blks' ns'=some R:=by
 unfold Dv at h;split at h
 ·cases h
 ·split at h
  ·rename_i fn g
   split at h
   ·rename_i d blks' ns' k j e
    split at h
    ·rename_i l i
     simp only[zIq,zJq]at h;obtain⟨rfl,rfl,rfl⟩:=h;exact⟨fn,d,blks',ns',g,e,i⟩
    ·cases h
   ·cases h
  ·cases h
theorem yI{nb:Nat}{d:D}{blks':List (Option (List D))}{ns':List Nat}{R:Rec}(h:Zs nb d blks' ns'=some R):
  ∃b cs d',blks'.getD b none=some cs∧dZ cs=false∧R=.new nb cs d' false∧((∃n size,d=.cR b n size∧d'=.cR nb n size)∨(∃off len f,d=.bz b off len f∧d'=.bz nb off len f)∨
   ∃x g e,d=.aY [x,e]∧d'=.aY [g,e]∧e.ref=none∧((∃n size,x=.cR b n size∧g=.cR nb n size)∨∃off,x=.ptr b off∧g=.ptr nb off)):=by
 unfold Zs at h;split at h
 ·rename_i b n size
  split at h
  ·rename_i cs i
   split at h
   ·cases h
   ·rename_i k
    cases h;exact⟨b,cs,_,i,k,rfl,.inl ⟨n,size,rfl,rfl⟩⟩
  ·cases h
 ·rename_i b off len f
  split at h
  ·rename_i cs i
   split at h
   ·cases h
   ·rename_i k
    cases h;exact⟨b,cs,_,i,k,rfl,.inr (.inl ⟨off,len,f,rfl,rfl⟩)⟩
  ·cases h
 ·rename_i x e
  unfold aiZ at h;split at h
  ·rename_i b g j
   split at h
   ·cases h
   ·rename_i l
    split at h
    ·rename_i cs i
     split at h
     ·cases h
     ·rename_i k
      cases h;refine⟨b,cs,_,i,k,rfl,.inr (.inr ⟨x,g,e,rfl,rfl,l,?_⟩)⟩;unfold afh at j;split at j
      ·cases j;exact .inl ⟨_,_,rfl,rfl⟩
      ·cases j;exact .inr ⟨_,rfl,rfl⟩
      ·cases j
    ·cases h
  ·cases h
 ·cases h
def aeJ(P:Program)(Good:World→Prop)(fn:Func)(args:List D)(o:Option (Nat×List D))(R:Rec):Prop:=
 (∃d blks' ns',o=none∧iD P Good fn 0 args [] [] d blks' ns'∧R=.val (d.rowOf (fun b=>blks'.getD b none) (fun b=>ns'.contains b)))∨
 ∃b cs cs' d blks' ns',o=some (b,cs)∧iD P Good fn 1 (args.map D.zn) [some cs] [] d blks' ns'∧blks'.getD 0 none=some cs'∧dZ cs'=false∧d.refs=[]∧((cs'=cs∧R=.val d)∨(cs'.length=cs.length∧R=.store b 0 cs' d false))
def ab4(P:Program)(Good:World→Prop)(fn:Func)(blk:Nat→Option (List D))(args:List D)(R:Rec):Prop:=
 ∃b cs d,blk b=some cs∧(∀x∈args,∀f∈x.refs,f=b)∧d.refs=[]∧R=.val d∧
  ∀e:List Value,e.length=cs.length→iD P Good fn 1 (args.map D.zn) [some (pg cs e)] [] d [some (pg cs e)] []
theorem Ij{inl:Inline P Good}{A:rM P Good}{f:FuncId}{args:List D}{blk:Nat→Option (List D)}{tr' V:List (Item P Good)}{R:Rec}{eqs:List (de×de)}
  (N:∀mx ro fn args blks ns S d blks' ns' tr' eqs,inl mx ro fn args blks ns S=some (d,blks',ns',tr',eqs)→(∀e∈eqs,e.1=e.2)→iD P Good fn mx args blks ns d blks' ns')
  (h:mY P inl A f args blk tr'=some (R,V,eqs)) (k:∀e∈eqs,e.1=e.2):∃fn,P.funcs[f]? =some fn∧((∃o,xW blk args=some o∧aeJ P Good fn args o R)∨ab4 P Good fn blk args R):=by
 have L:∀{cs cs':List D}{l:List (de×de)},(de.u cs',de.u cs)∈l→(∀e∈l,e.1=e.2)→cs'=cs:=fun z Z=>by
  have:=Z _ z;simp only[de.u.injEq]at this;exact this
 unfold mY at h;split at h
 ·unfold adB at h
  split at h
  ·rename_i g fn Q U T r j z M
   split at h
   ·rename_i b cs E
    split at h
    ·rename_i R' K hu
     simp only[zIq,zJq]at h;obtain⟨rfl,rfl,rfl⟩:=h;have B:=k _ (alW ..);simp only[de.m.injEq]at B;obtain⟨rfl,rfl,rfl⟩:=B;obtain⟨J,I,H,G⟩:=Av hu;refine⟨fn,j,.inl ⟨_,E,.inr ⟨b,cs,T,r,_,_,rfl,z,rfl,J,I,?_⟩⟩⟩;rcases G with⟨t,y⟩|⟨t,y⟩
     ·exact .inl ⟨L (l:=K) (by rw[y];exact alW ..) (fun e i=>k e (al_ _ i)),t⟩
     ·exact .inr ⟨H,t⟩
    ·cases h
   ·cases h
  ·rename_i g fn Q U r j z M
   split at h
   ·rename_i b cs W
    split at h
    ·rename_i Y
     simp only[zIq,zJq]at h;obtain⟨rfl,rfl,rfl⟩:=h;have B:=k _ (alW ..);simp only[de.m.injEq]at B;obtain⟨rfl,rfl,rfl⟩:=B;obtain⟨s1,s2⟩:=acV W;exact⟨fn,j,.inr ⟨b,cs,r,s1,s2,anH.1 Y,rfl,z⟩⟩
    ·cases h
   ·cases h
  ·cases h
 ·split at h
  ·cases h
  ·split at h
   ·rename_i o E
    split at h
    ·rename_i fn j
     split at h
     ·rename_i d blks' ns' M ad6 O
      split at h
      ·split at h
       ·rename_i d' p
        rw[qR]at h;simp only[zIq,zJq]at h;obtain⟨rfl,rfl,rfl⟩:=h;have C:=(yO O j k).elim id fun q=>N _ _ _ _ _ _ _ _ _ _ _ _ q k
        refine⟨fn,j,.inl ⟨o,E,?_⟩⟩;cases o with
        |none=>
         simp only[NV,zIq]at p;exact .inl ⟨d,blks',ns',rfl,C,by rw[←p]⟩
        |some q=>
         obtain⟨b,cs⟩:=q;simp only[NV]at p;split at p
         ·rename_i cs' v
          split at p
          ·rename_i F
           simp only[zLq,List.isEmpty_iff,Bool.not_eq_true']at F;have e:=jF (fun hh=>o6 8 hh) F.2.1
           exact .inr ⟨b,cs,cs',d,blks',ns',rfl,C,v,F.2.2,F.1,.inl ⟨e.symm,by rw[←amq p]⟩⟩
          ·cases p
         ·cases p
       ·cases h
      ·split at h
       ·rename_i R' K x
        simp only[zIq,zJq]at h;obtain⟨rfl,rfl,rfl⟩:=h;have C:=(yO O j fun e i=>k e (anw _ i)).elim id fun q=>N _ _ _ _ _ _ _ _ _ _ _ _ q fun e i=>k e (anw _ i)
        refine⟨fn,j,.inl ⟨o,E,?_⟩⟩;cases o with
        |none=>
         simp only[Tk,zIq,zJq]at x;exact .inl ⟨d,blks',ns',rfl,C,x.1.symm⟩
        |some q=>
         obtain⟨b,cs⟩:=q;simp only[Tk]at x;split at x
         ·rename_i cs' v
          obtain⟨J,I,H,G⟩:=Av x;refine .inr ⟨b,cs,cs',d,blks',ns',rfl,C,v,J,I,?_⟩;rcases G with⟨t,y⟩|⟨t,y⟩
          ·exact .inl ⟨L (l:=K) (by rw[y];exact alW ..) (fun e i=>k e (anL _ i)),t⟩
          ·exact .inr ⟨H,t⟩
         ·cases x
       ·cases h
     ·cases h
    ·cases h
   ·cases h
theorem qa{inl:Inline P Good}{A:rM P Good}{f:FuncId}{args:List D}{blk:Nat→Option (List D)}{tr' j:List (Item P Good)}{R:Rec}{eqs:List (de×de)}
  (h:mY P inl A f args blk tr'=some (R,j,eqs)):(∃d,R=.val d)∨∃b cs d,R=.store b 0 cs d false:=by
 have g:∀{k:Bool}{b:Nat}{cs cs':List D}{d:D}{R:Rec}{i:List (de×de)},NU k b cs cs' d=some (R,i)→(∃d,R=.val d)∨∃b cs d,R=.store b 0 cs d false:=fun hu=>by
  rcases(Av hu).2.2.2 with⟨q,-⟩|⟨q,-⟩
  ·exact .inl ⟨_,q⟩
  ·exact .inr ⟨_,_,_,q⟩
 unfold mY adB at h;split at h
 ·split at h
  ·split at h
   ·split at h
    ·rename_i hu
     cases h;exact g hu
    ·cases h
   ·cases h
  ·split at h
   ·split at h
    ·cases h
     exact .inl ⟨_,rfl⟩
    ·cases h
   ·cases h
  ·cases h
 ·split at h
  ·cases h
  ·split at h
   ·split at h
    ·split at h
     ·split at h
      ·split at h
       ·rw[qR]at h
        cases h;exact .inl ⟨_,rfl⟩
       ·cases h
      ·split at h
       ·rename_i l i e
        cases h;unfold Tk at e;split at e
        ·simp only[zIq,zJq]at e
         exact .inl ⟨_,e.1.symm⟩
        ·split at e
         ·exact g e
         ·cases e
       ·cases h
     ·cases h
    ·cases h
   ·cases h
theorem Hp{inl:Inline P Good}{A:rM P Good}{f:FuncId}{args:List D}{blk blk':Nat→Option (List D)}{tr':List (Item P Good)}(g:∀b l,args.flatMap D.refs=b::l→blk b=blk' b):
  mY P inl A f args blk tr'=mY P inl A f args blk' tr':=by
 have e:xW blk args=xW blk' args:=by
  unfold xW;split
  ·rfl
  ·rename_i b l d
   rw[g b l d]
 have h:Uv blk args=Uv blk' args:=by
  unfold Uv;split
  ·rfl
  ·rename_i b l d
   rw[g b l d]
 unfold mY adB;rw[e,h]
def E9(A:rM P Good)(f:FuncId)(args:List D)(b:List (Item P Good)):Option (D×List (Item P Good)×List (de×de)):=
 match A.stop f with
 |true=>match b with
  |.call (f:=g) (args:=xs) (r:=r) _::tr'=>some (r,tr',[(.call f args,.call g xs)])
  |_=>none
 |false=>match A.orc f args with
  |some r=>some (r,b,[])
  |none=>none
def fA(inl:Inline P Good)(mx:Nat)(blk:Nat→Option (List D))(b_:Nat→Bool)(blks:List (Option (List D)))(ns:List Nat)(dst:Option Tmp)(E:Eff)(h:List (Item P Good)):Option (Rec×List (Item P Good)×List (de×de)):=
 match E with
 |.val d=>match Qn dst d h with
  |(j,tr',eqs)=>some (.val j,tr',eqs)
 |.new b cs d i=>some (.new b cs d i,h,[])
 |.store b off k d i=>some (.store b off k d i,h,[])
 |.grow b cs d=>some (.grow b cs d,h,[])
 |.call f args=>match h with
  |.call (f:=g) (args:=xs) (r:=r) _::tr'=>
   if args.any (fun d=>!d.refs.isEmpty)then(if r.flat then some (.own r,tr',[(.call f (args.map (D.rowOf blk b_)),.call g xs)])else none)
   else match Qn dst r tr' with
    |(j,e,eqs)=>some (.val j,e,(.call f (args.map D.FW),.call g xs)::eqs)
  |.Ha (f:=g) (args:=xs) (n:=n) (cs:=cs) _::tr'=>
   if args.any (fun d=>!d.refs.isEmpty)then none else some (.new blks.length cs (.bz blks.length 0 n n) false,tr',[(.call f (args.map D.FW),.call g xs)])
  |.dY (f:=g) (args:=xs) (r:=r) _::tr'=>some (.own r,tr',[(.call f (args.map (D.rowOf blk b_)),.call g xs)])
  |.inl ro (f:=g) (fn:=fn) _::tr'=>match inl mx ro fn args blks ns tr' with
   |some (d,blks',ns',e,eqs)=>some (.inl blks' ns' d,e,(.call f [],.call g [])::eqs)
   |none=>none
  |.auto A::tr'=>if args.any (fun d=>!d.refs.isEmpty)then(match mY P inl A f args blk tr' with
    |some x=>some x
    |none=>match A.ado f (args.map (D.rowOf blk b_))with
     |some r=>some (.own r,.auto A::tr',[])
     |none=>match E9 A f (args.map (D.rowOf blk b_)) tr' with
      |some (r,e,eqs)=>if r.flat then some (.own r,.auto A::e,eqs)else none
      |none=>Ho P inl A mx f args blks ns tr')
   else(match E9 A f (args.map D.FW) tr' with
    |some (r,e,eqs)=>some (.val r,.auto A::e,eqs)
    |none=>match Dv P inl A f args blks.length tr' with
     |some x=>some x
     |none=>match mY P inl A f args blk tr' with
      |some x=>some x
      |none=>Ho P inl A mx f args blks ns tr')
  |_=>none
universe u
def VE{α:Type u}:List (Option (List D))→(List (Option (List D))→α)→α
 |[],k=>k []
 |none::l,k=>VE l fun l=>k (none::l)
 |some cs::l,k=>VD (JA 12) cs fun cs=>VE l fun l=>k (some cs::l)
theorem K_{α:Type u}:∀(l:List (Option (List D)))(k:List (Option (List D))→α),VE l k=k l
 |[],_=>rfl
 |none::l,k=>by simp only[VE];rw[K_ l]
 |some cs::l,k=>by simp only[VE];rw[wg (qR 12),K_ l]
def frR{α:Type u}(R:Rec)(k:Rec→α):α:=match R with
 |.val d=>JA 12 d fun d=>k (.val d)
 |.new b cs d f=>K9 b fun b=>VD (JA 12) cs fun cs=>JA 12 d fun d=>frB f fun f=>k (.new b cs d f)
 |.store b e g d f=>K9 b fun b=>K9 e fun e=>VD (JA 12) g fun g=>JA 12 d fun d=>frB f fun f=>k (.store b e g d f)
 |.grow b cs d=>K9 b fun b=>VD (JA 12) cs fun cs=>JA 12 d fun d=>k (.grow b cs d)
 |.own d=>JA 12 d fun d=>k (.own d)
 |.inl blks h d=>VE blks fun blks=>JA 12 d fun d=>k (.inl blks h d)
theorem ahs{α:Type u}(R:Rec)(k:Rec→α):frR R k=k R:=by
 cases R<;>simp only[frR,qR,o5,Ry,K_,wg (qR 12)]
def Gm(inl:Inline P Good)(mx:Nat)(blk:Nat→Option (List D))(b_:Nat→Bool)(blks:List (Option (List D)))(ns:List Nat)(dst:Option Tmp)(E:Eff)(b:List (Item P Good)):Option (Rec×List (Item P Good)×List (de×de)):=
 match b with
 |.auto A::_=>match A.fr with
  |true=>(match fA inl mx blk b_ blks ns dst E b with
   |some (R,tr',eqs)=>frR R fun R=>some (R,tr',eqs)
   |none=>none)
  |false=>fA inl mx blk b_ blks ns dst E b
 |b=>fA inl mx blk b_ blks ns dst E b
theorem Nj{inl:Inline P Good}{mx:Nat}{blk:Nat→Option (List D)}{b_:Nat→Bool}{blks:List (Option (List D))}{ns:List Nat}{dst:Option Tmp}{E:Eff}{b:List (Item P Good)}:Gm inl mx blk b_ blks ns dst E b=fA inl mx blk b_ blks ns dst E b:=by
 unfold Gm;split
 ·split
  ·split
   ·rename_i R tr' d h
    rw[ahs,h]
   ·rename_i h;rw[h]
  ·rfl
 ·rfl
def kS(ops:Array Oper)(o:Oper)(tmp:Nat→D):Option Bool:=
 match o.guard with
 |none=>some true
 |some (j,want)=>match(ops[j]?).bind (·.dst)with
  |some t=>match tmp t with
   |.lit (.bool b)=>some (b==want)
   |.lit (.tuple _)=>some false
   |_=>none
  |none=>none
def mxD(b m:Nat):Nat:=match Nat.blt b m with
 |true=>m
 |false=>b+1
def QU(gb:Nat):List D→Nat
 |[]=>gb
 |d::l=>d.refs.foldr mxD (QU gb l)
theorem agE(b m:Nat):b<mxD b m∧m≤mxD b m:=by
 unfold mxD;split
 ·rename_i h;rw[al6]at h;exact⟨h,alE _⟩
 ·rename_i h;have:¬b<m:=fun d=>by rw[←al6]at d;rw[d]at h;cases h
  omega
theorem QT:∀(l:List Nat)(m:Nat),m≤l.foldr mxD m∧∀b∈l,b<l.foldr mxD m
 |[],m=>⟨alE _,fun b d=>by cases d⟩
 |x::l,m=>by
  obtain⟨h,g⟩:=QT l m;obtain⟨f,e⟩:=agE x (l.foldr mxD m);refine⟨alJ h e,fun b d=>?_⟩
  rcases alM.1 d with rfl|d
  ·exact f
  ·exact ami (g b d) e
theorem S5(gb:Nat):∀l:List D,gb≤QU gb l
 |[]=>alE _
 |d::l=>alJ (S5 gb l) (QT d.refs (QU gb l)).1
theorem Nh(gb:Nat):∀(l:List D)(d:D)(b:Nat),d∈l→b∈d.refs→b<QU gb l
 |[],_,_,h,_=>by cases h
 |x::l,d,b,h,e=>by
  have f:=QT x.refs (QU gb l);rcases alM.1 h with rfl|h
  ·exact f.2 b e
  ·exact ami (Nh gb l d b h e) f.1
theorem Zw(gb:Nat)(s:St)(t b:Nat)(d:b∈(s.fs.tmp t).refs):b<QU gb s.tmps:=by
 have e:s.fs.tmp t=s.tmps.getD t .any:=rfl;rw[e]at d;by_cases f:t<s.tmps.length
 ·rw[alD,alK f]at d
  exact Nh gb s.tmps _ b (al2 f) d
 ·rw[alD,alX (by omega)]at d
  simp[D.refs]at d
def mxA(dr:Bool)(gb:Nat)(s:St):Nat:=match dr with
 |true=>s.blks.length
 |false=>QU gb s.tmps
theorem CV(dr:Bool){g gb:Nat}(s:St)(d:g≤gb):(g≤mxA dr gb s∧∀t b,b∈(s.fs.tmp t).refs→b<mxA dr gb s)∨mxA dr gb s=s.blks.length:=by
 cases dr with
 |true=>exact .inr rfl
 |false=>exact .inl ⟨alJ d (S5 gb s.tmps),Zw gb s⟩
def oP(P:Program){Good:World→Prop}(inl:Inline P Good)(ops:Array Oper)(o:Oper)(ro:List Nat)(gb mx:Nat)(s:FSt)(blks:List (Option (List D)))(ns:List Nat)(b:List (Item P Good)):Option (Rec×List (Item P Good)×List (de×de)):=
 match kS ops o s.tmp with
 |some true=>match Li P o s.ev s.blk s.b_ blks.length (match o.dst with|some t=>ro.contains t|none=>false) gb (match o.dst with|some t=>ro.contains (t+1000)|none=>false)with
  |some (E,g)=>match Bz g b with
   |some (d,e)=>match Gm inl mx s.blk s.b_ blks ns o.dst E d with
    |some (R,h,f)=>some (R,h,e++f)
    |none=>none
   |none=>none
  |none=>none
 |some false=>some (.val (.lit undef),b,[])
 |none=>none
theorem uV{inl:Inline P Good}{ops:Array Oper}{o:Oper}{ro:List Nat}{gb mx:Nat}{s:FSt}{blks:List (Option (List D))}{ns:List Nat}{b:List (Item P Good)}:oP P inl ops o ro gb mx s blks ns b=
 (match kS ops o s.tmp with
 |some true=>match Li P o s.ev s.blk s.b_ blks.length (match o.dst with|some t=>ro.contains t|none=>false) gb (match o.dst with|some t=>ro.contains (t+1000)|none=>false)with
  |some (E,g)=>match Bz g b with
   |some (d,e)=>match fA inl mx s.blk s.b_ blks ns o.dst E d with
    |some (R,h,f)=>some (R,h,e++f)
    |none=>none
   |none=>none
  |none=>none
 |some false=>some (.val (.lit undef),b,[])
 |none=>none):=by
 unfold oP;simp only[Nj]
def FSt.app(s:FSt)(n:Nat)(dst:Option Tmp)(R:Rec):FSt:=
 match R with
 |.val d=>s.put n dst d
 |.new b cs d e=>(s.bS b (some cs) e).put n dst d
 |.store b off g d e=>(s.bS b ((s.blk b).map fun cs=>aF cs off g) e).put n dst d
 |.grow b cs d=>((s.clear b).bS b (some cs) false).put n dst d
 |.own d=>s.put n dst d
 |.inl blks f d=>(⟨s.tmp,fun b=>blks.getD b none,fun b=>f.contains b⟩:FSt).put n dst d
def jI(eqs:List (de×de)):Prop:=∀e∈eqs,e.1=e.2
theorem Hq{A:rM P Good}{f:FuncId}{args:List D}{e tr':List (Item P Good)}{r:D}{eqs:List (de×de)}(h:E9 A f args e=some (r,tr',eqs))(k:jI eqs):Spec P Good f args r:=by
 unfold E9 at h;split at h
 ·split at h
  ·rename_i g l i d o
   simp only[zIq,zJq]at h;obtain⟨rfl,rfl,rfl⟩:=h;have b:=k _ (alW ..);simp only[de.call.injEq]at b;obtain⟨rfl,rfl⟩:=b;exact d
  ·cases h
 ·split at h
  ·rename_i i j
   simp only[zIq,zJq]at h;obtain⟨rfl,rfl,rfl⟩:=h;exact A.ok _ _ _ j
  ·cases h
theorem jI.append{l d:List (de×de)}(h:jI (l++d)):jI l∧jI d:=
 ⟨fun e b=>h e (anw _ b),fun e b=>h e (anL _ b)⟩
def yo(P:Program)(Good:World→Prop)(inl:Inline P Good):Prop:=
 ∀e ro fn args blks b f d blks' ns' tr' eqs,inl e ro fn args blks b f=some (d,blks',ns',tr',eqs)→jI eqs→iD P Good fn e args blks b d blks' ns'
theorem Ni{d:HC}{i tr':List (Item P Good)}{eqs:List (de×de)}(h:Bz d i=some (tr',eqs))(g:jI eqs):d.ok:=by
 cases d with
 |no=>trivial
 |want p b j=>
  simp only[Bz]at h;split at h
  ·rename_i q e _
   cases h;have:=g _ (alW ..);simp only[de.p.injEq]at this;show p;rw[this];exact e
  ·rename_i A q e _
   cases h;have:=g _ (alW ..);simp only[de.p.injEq]at this;show p;rw[this];exact e
  ·split at h
   ·rename_i f;exact j f
   ·cases h
theorem SN{dst:Option Tmp}{d d':D}{f tr':List (Item P Good)}{eqs:List (de×de)}(h:Qn dst d f=(d',tr',eqs))(e:jI eqs):d'=d:=by
 unfold Qn at h;split at h
 ·rename_i t x y b _
  split at h
  ·simp only[zJq]at h
   obtain⟨rfl,rfl,rfl⟩:=h;have:=e _ (alW ..);simp only[de.d.injEq]at this;rw[this];exact b.symm
  ·simp only[zJq]at h;exact h.1.symm
 ·rename_i A t x y b _
  split at h
  ·simp only[zJq]at h
   obtain⟨rfl,rfl,rfl⟩:=h;have:=e _ (alW ..);simp only[de.d.injEq]at this;rw[this];exact b.symm
  ·simp only[zJq]at h;exact h.1.symm
 ·simp only[zJq]at h;exact h.1.symm
theorem xj{d:D}{b:Nat}{cs:List D}(h:d.ref=some b):(d.dX b cs).ref=none:=by
 cases d<;>simp only[D.ref,zIq,reduceCtorEq]at h<;>subst h<;>simp[D.dX,D.ref]
theorem yW{c:Ctx}{n:Nat}{s:FSt}{a:Act}{w:World}{β:Nat→Nat}{X:Nat→Prop}(h:dk c n s a w β X){b:Nat}{cs:List D}(i:s.blk b=some cs)(f:s.b_ b=false):∀d∈cs,d.ref=none:=fun d g=>by
 cases e:d.ref with
 |none=>rfl
 |some j=>have:=(h.tB b cs i d g j e).1;rw[f]at this;cases this
theorem FQ{c:Ctx}{n:Nat}{s:FSt}{a:Act}{w:World}{β:Nat→Nat}{X:Nat→Prop}(h:dk c n s a w β X){F:Nat→Prop}
  (o:∀k,F k→X k) (p:∀b cs,s.blk b=some cs→∀k,F k→k≠β b):∀(m:Nat)(v:Value)(d:D),cu β w X v d→cU w F v (D.w7 s.blk s.b_ m d)
 |0,v,d,l=>by
  unfold D.w7;split
  ·rename_i b j
   split
   ·rename_i cs i y
    obtain⟨_,_,us,e,r,_,q⟩:=h.blk b cs i;exact((lO r (q.pure (yW h i y)) l).pure (xj j)).mono fun a u hu g=>⟨hu,fun f=>g ⟨o _ f,p b cs i _ f⟩⟩
   ·exact .any _
  ·rename_i j
   exact(l.pure j).mono fun a u hu g=>⟨hu,fun f=>g (o _ f)⟩
 |m+1,v,d,l=>by
  unfold D.w7;split
  ·rename_i b j
   split
   ·rename_i cs i
    obtain⟨_,_,us,e,r,_,q⟩:=h.blk b cs i;split
    ·rename_i y
     exact((lO r (q.pure (yW h i y)) l).pure (xj j)).mono fun a u hu g=>⟨hu,fun f=>g ⟨o _ f,p b cs i _ f⟩⟩
    ·have z:a9 w F (us.toList.take (cs.map (D.w7 s.blk s.b_ m)).length) (cs.map (D.w7 s.blk s.b_ m)):=by
      rw[alR];exact q.map fun u x _ A=>FQ h o p m u x A
     have t:cu β w F v d:=l.mono (fun a u hu g=>⟨hu,fun f=>g (o _ f)⟩) (fun _ _ e=>e)
     exact((lO r z t).pure (xj j)).mono fun a u hu g=>⟨hu,fun f=>g ⟨f,p b cs i _ f⟩⟩
   ·exact .any _
  ·rename_i j
   exact(l.pure j).mono fun a u hu g=>⟨hu,fun f=>g (o _ f)⟩
theorem rX{c:Ctx}{n:Nat}{s:FSt}{a:Act}{w:World}{β:Nat→Nat}{X:Nat→Prop}(h:dk c n s a w β X){F:Nat→Prop}{v:Value}{d:D}(g:cW β w X v d)
  (q:∀k,F k→X k) (o:∀b cs,s.blk b=some cs→∀k,F k→k≠β b):cU w F v (d.rowOf s.blk s.b_):=by
 have many:∀{us:List Value}{xs:List D},LQ (cu β w X) us xs→a9 w F us (xs.map (D.w7 s.blk s.b_ 4)):=fun f=>
  f.map fun u x z y=>FQ h q o 4 u x y
 cases g with
 |c g=>
  by_cases t:∃xs,d=.agg xs
  ·obtain⟨xs,rfl⟩:=t
   cases g with
   |p l=>cases l with
    |agg us _ f j=>
     have:=many (us:=us) (xs:=xs) ⟨f,fun i a b=>.p (j i a b)⟩
     exact .agg us _ this.1 this.2
  ·by_cases r:∃xs,d=.aY xs
   ·obtain⟨xs,rfl⟩:=r
    cases g with
    |p l=>cases l with
     |aY us _ f j=>
      have:=many (us:=us) (xs:=xs) ⟨f,fun i a b=>.p (j i a b)⟩
      exact .aY us _ this.1 this.2
   ·have e:d.rowOf s.blk s.b_=(D.w7 s.blk s.b_ 4 d).FW:=by
     cases d<;>first|rfl|exact apC ⟨_,rfl⟩ t|exact apC ⟨_,rfl⟩ r
    rw[e];exact uR (FQ h q o 4 _ _ g)
 |agg us xs f=>have:=many f;exact .agg us _ this.1 this.2
 |aY us xs f=>have:=many f;exact .aY us _ this.1 this.2
def TU(w w':World):Prop:=∀k e m,w.shape? k=some (e,m)→∃b,w'.shape? k=some (b,m)
theorem cu.zM{β:Nat→Nat}{w w':World}{X X':Nat→Prop}(h:∀a u,w.cell? a=some u→¬X a.block→w'.cell? a=some u∧¬X' a.block)(i:TU w w')
  {v:Value} {d:D} (j:cu β w X v d):cu β w' X' v d:=by
 cases j with
 |p k=>exact .p (k.mono h)
 |ptr b off=>exact .ptr b off
 |bz b off len cap g f=>exact .bz b off len cap g f
 |cR b n size cap e g f o=>obtain⟨q,l⟩:=i _ _ _ o;exact .cR b n size cap q g f l
theorem cW.zM{β:Nat→Nat}{w w':World}{X X':Nat→Prop}(h:∀a u,w.cell? a=some u→¬X a.block→w'.cell? a=some u∧¬X' a.block)(b:TU w w')
  {v:Value} {d:D} (g:cW β w X v d):cW β w' X' v d:=by
 cases g with
 |c i=>exact .c (i.zM h b)
 |agg us xs f=>exact .agg us xs (f.mono fun u x _ e=>e.zM h b)
 |aY us xs f=>exact .aY us xs (f.mono fun u x _ e=>e.zM h b)
theorem GM{β:Nat→Nat}{w:World}{X:Nat→Prop}{a:Addr}{n d b m size:Nat}(h:cW β w X (.slice (some a) n d) (.cR b m size)):a=⟨β b,0,none⟩∧∃e,w.shape? (β b)=some (e,d*size):=by
 cases h with
 |c h=>cases h with
  |p f=>cases f
  |cR _ _ _ _ e _ _ g=>exact⟨rfl,e,g⟩
theorem dS{o:Option (Nat×List D)}{b:Nat}{cs:List D}:(l6 o).getD b none=some cs↔o=some (b,cs):=by
 cases o with
 |none=>simp[l6]
 |some p=>
  obtain⟨d,c0⟩:=p;simp only[l6,List.getD_eq_getElem?_getD,zIq,zJq];rcases ano b d with h|h|h
  ·rw[amp (by simpa using h),amZ,apB h]
   simp;omega
  ·subst h
   rw[aml (by simp)]
   simp
  ·rw[aml (by simp;omega),alX (by simp;omega)]
   simp;omega
theorem Jr{o:Option (Nat×List D)}{b:Nat}{cs:List D}(h:o=some (b,cs)):b<(l6 o).length:=by subst h;simp[l6]
theorem Vr{blk:Nat→Option (List D)}{args:List D}{o:Option (Nat×List D)}(h:xW blk args=some o):
  (∀b cs,o=some (b,cs)→blk b=some cs∧dZ cs=false)∧(∀d∈args,∀b∈d.refs,∃cs,o=some (b,cs)):=by
 unfold xW at h;split at h
 ·rename_i q
  cases h;refine⟨fun b cs h=>(by cases h),fun d f b g=>?_⟩
  have:b∈args.flatMap D.refs:=anI.2 ⟨d,f,g⟩;rw[q]at this;cases this
 ·rename_i b l r
  split at h
  ·rename_i cs k g
   split at h
   ·cases h
   ·rename_i p
    cases h;refine⟨fun i cs' j=>?_,fun d f i t=>?_⟩
    ·simp only[zIq,zJq]at j
     obtain⟨rfl,rfl⟩:=j;exact⟨g,p⟩
    ·have hm:i∈args.flatMap D.refs:=anI.2 ⟨d,f,t⟩
     rw[r]at hm;rcases alM.1 hm with e|hm
     ·exact⟨cs,by rw[e]⟩
     ·have:=al9.1 k i hm
      rw[beq_iff_eq]at this;exact⟨cs,by rw[this]⟩
  ·cases h
def seenAt(β:Nat→Nat):Option (Nat×List D)→Nat→Bool
 |some (b,_),k=>k==β b
 |none,_=>false
def DT(β:Nat→Nat)(w:World):Option (Nat×List D)→List (Value×D)
 |some (b,_)=>match w.shape? (β b)with
  |some (_,m)=>[(.slice (some ⟨β b,0,none⟩) 0 1,.cR b 0 m)]
  |none=>[]
 |none=>[]
theorem Vq{c:Ctx}{n:Nat}{s:FSt}{a:Act}{w:World}{β:Nat→Nat}{X:Nat→Prop}(h:dk c n s a w β X)(h0:c.Good c.w0){f:FuncId}{fn:Func}(hf:c.P.funcs[f]? =some fn){args:List D}{o:Option (Nat×List D)}
  (Q:∀b cs,o=some (b,cs)→s.blk b=some cs∧dZ cs=false) (dU:∀d∈args,∀b∈d.refs,∃cs,o=some (b,cs))
  {d d':D} {blks':List (Option (List D))} {ns':List Nat} (Jq:iD c.P c.Good fn (l6 o).length args (l6 o) [] d blks' ns') (hd:NV o d blks' ns'=some d') (ho0:o=none)
  {vals:List Value} (rh:vals.length=args.length) (fu:∀i(h:i<vals.length)(h':i<args.length),cW β w X vals[i] args[i]):
  Calls c.P f vals.toArray w fun e w'=>∃v,e=.returned v∧dk c n s a w' β X∧cU w' X v d':=by
 have mT:∀b cs,o=some (b,cs)→∃F e,w.heap[β b]? =some (.cells F e (0,0))∧X (β b):=fun b cs e=>by
  obtain⟨_,j,F,e,O,_⟩:=h.blk b cs (Q b cs e).1;exact⟨F,e,O,j⟩
 have H:∀k,seenAt β o k=true→∃b cs,o=some (b,cs)∧k=β b:=fun k g=>by
  cases l:o with
  |none=>rw[l]at g;cases g
  |some q=>rw[l]at g;exact⟨q.1,q.2,rfl,by simpa [seenAt]using g⟩
 have A_:∀b cs,o=some (b,cs)→seenAt β o (β b)=true:=fun b cs e=>by rw[e];simp[seenAt]
 have U:∀b cs,o=some (b,cs)→∃e m,w.shape? (β b)=some (e,m)∧DT β w o=[(.slice (some ⟨β b,0,none⟩) 0 1,.cR b 0 m)]:=fun b cs e=>by
  obtain⟨F,ty,y,_⟩:=mT b cs e;have j:=cY y;refine⟨ty,F.size,j,?_⟩;rw[e];simp only[DT,j]
 have Y:o=none→DT β w o=[]:=fun e=>by rw[e];rfl
 have yC:o=none→∀k,seenAt β o k=false:=fun e k=>by rw[e];rfl
 generalize seenAt β o=seen at H A_ yC;generalize DT β w o=qO at U Y
 let I:Ctx:={c with gh:=qO,gb:=(l6 o).length,rd:=none,dfs:=[],ns:=w.heap.size,kp:=fun k=>if seen k then none else w.heap[k]?,kx:=fun k=>X k∧seen k=false}
 have lg:∀b cs,o=some (b,cs)→∀x∈cs,x.ref=none:=fun b cs e=>iL (Q b cs e).2
 have sZ:dk I 0 ⟨fun _=>.any,fun b=>(l6 o).getD b none,fun b=>([]:List Nat).contains b⟩ ⟨#[],[]⟩ w β X:=by
  refine⟨rfl,rfl,fun t=>.c (.p (.any _)),fun t b r=>by simp[D.refs]at r,fun b cs r=>?_,fun b cs r x E b' L=>?_,fun b b' r L _=>?_,h.F,h.vt,h.oE,⟨h.below.uJ,h.below.nc,alE _⟩,fun p B=>?_,fun p B b r=>?_,⟨fun k q g=>?_,fun k g=>g.1,fun k g=>h.oE k g.1,fun k g b r=>?_⟩⟩
  ·exact h.blk b cs (Q b cs (dS.1 r)).1
  ·rw[lg b cs (dS.1 r) x E]at L;cases L
  ·obtain⟨c1,S⟩:=alL.1 r
   obtain⟨c2,A⟩:=alL.1 L;have y:=dS.1 S;have j:=dS.1 A;rw[y]at j;simp only[zIq,zJq]at j;exact j.1
  ·cases l:o with
   |none=>have:=Y l;rw[show I.gh=qO from rfl,this]at B;cases B
   |some q=>
    obtain⟨b,cs⟩:=q;obtain⟨e,m,y,j⟩:=U b cs l;rw[show I.gh=qO from rfl,j,alI]at B
    subst B;exact .c (.cR b 0 m 1 e (by omega) (by decide) (by rw[amU];exact y))
  ·cases l:o with
   |none=>have:=Y l;rw[show I.gh=qO from rfl,this]at B;cases B
   |some q=>
    obtain⟨V,cs⟩:=q;obtain⟨e,m,y,j⟩:=U V cs l;rw[show I.gh=qO from rfl,j,alI]at B
    subst B;simp only[D.refs,List.mem_singleton]at r;subst r;exact⟨Jr l,by show((l6 (some (b,cs))).getD b none).isSome=true;rw[dS.2 rfl];rfl⟩
  ·have K:(if seen k then none else w.heap[k]?)=some q:=g
   split at K
   ·cases K
   ·exact K
  ·obtain⟨cs,S⟩:=alL.1 r
   have A:=A_ b cs (dS.1 S);intro e3;rw[e3]at A;rcases g with g|g
   ·have K:(if seen k then none else w.heap[k]?).isSome=true:=g
    rw[apB A]at K;cases K
   ·rw[g.2]at A;cases A
 refine(Jq f hf I w β X vals rfl rfl h0 (alE _) rfl rfl sZ rh fu (fun x E b r=>by
  obtain⟨cs,e⟩:=dU x E b r;rw[dS.2 e];rfl)).mono fun e w' fa=>?_
 obtain⟨v,β',X',rfl,C,hv,hdl⟩:=fa;have M:∀k q,seen k=false→w.heap[k]? =some q→w'.heap[k]? =some q:=fun k q g l=>C.kp.obj k q (by show(if seen k then none else w.heap[k]?)=some q;rw[g];exact l)
 have D5:∀b cs,o=some (b,cs)→blks'.getD b none=some cs∧d.refs=[]∧d'=d:=fun b cs e=>by rw[ho0]at e;cases e
 have Rh:∀b cs,o=some (b,cs)→β' b=β b∧∃e e' m,w.shape? (β b)=some (e,m)∧w'.shape? (β b)=some (e',m):=fun b cs e=>by
  obtain⟨ty,m,y,j⟩:=U b cs e;have:=C.gh _ (by rw[show I.gh=qO from rfl,j];exact alI.2 rfl)
  obtain⟨r1,T,Z⟩:=GM this;have N:β b=β' b:=by injection r1
  exact⟨N.symm,ty,T,m,y,by rw[N];rw[amU]at Z;exact Z⟩
 have G:∀k,X k→X' k:=fun k g=>by
  cases z:seen k with
  |true=>
   obtain⟨b,cs,e,rfl⟩:=H k z;have:=(C.blk b cs (D5 b cs e).1).2.1;rw[(Rh b cs e).1]at this;exact this
  |false=>exact C.kp.x k ⟨g,z⟩
 have Aw:∀a u,w.cell? a=some u→¬X a.block→w'.cell? a=some u∧¬X a.block:=fun a u J E=>by
  refine⟨?_,E⟩;have Ar:seen a.block=false:=by
   cases z:seen a.block with
   |false=>rfl
   |true=>
    obtain⟨b,cs,e,A⟩:=H _ z;obtain⟨_,_,_,q⟩:=mT b cs e;rw[←A]at q;exact apC q E
  have cM:=zf J;have S:w'.heap[a.block]? =w.heap[a.block]? :=by
   rw[M a.block _ Ar (amG cM),amG cM]
  rw[World.cell?_of_block S];exact J
 have Aq:TU w w':=fun k e m g=>by
  cases z:seen k with
  |true=>
   obtain⟨b,cs,A,rfl⟩:=H k z;obtain⟨_,ty,T,m',y,j⟩:=Rh b cs A;rw[y]at g;simp only[zIq,zJq]at g;exact⟨T,by rw[←g.2];exact j⟩
  |false=>
   obtain⟨F,fr,y,j⟩:=jW g;exact⟨e,by rw[←j];exact cY (M k _ z y)⟩
 have u9:dk c n s a w' β X:=by
  refine⟨h.defers,h.size,fun t=>(h.tmp t).zM Aw Aq,h.nd,fun b cs r=>?_,h.tB,h.inj,h.F,h.vt,fun k g=>ami (h.oE k g) C.below.sz,⟨C.below.uJ,fun k q g l=>?_,alJ h.below.sz C.below.sz⟩,fun p B=>(h.gh p B).zM Aw Aq,h.iY,⟨fun k q g=>?_,h.kp.x,fun k g=>ami (h.kp.lt k g) C.below.sz,h.kp.off⟩⟩
  ·obtain⟨y,j,F,ty,O,q4,q5⟩:=h.blk b cs r
   cases z:seen (β b)with
   |true=>
    obtain⟨V,r6,e,A⟩:=H _ z;have W:=(Q V r6 e).1;obtain rfl:=h.inj b V (by rw[r];rfl) (by rw[W];rfl) A
    rw[r]at W;obtain rfl:=amq W;obtain⟨r1,Z,dD,T,N,r4,r5⟩:=C.blk b cs (D5 b cs e).1;rw[(Rh b cs e).1]at N;refine⟨y,j,dD,T,N,r4,((r5.pure (lg b cs e)).mono fun a u J E=>⟨J,fun hX=>E (G _ hX)⟩).lq⟩
   |false=>exact⟨y,j,F,ty,M _ _ z O,q4,q5.mono fun u x _ l=>l.zM Aw Aq⟩
  ·have q:=h.below.nc k _ g l
   refine M k _ ?_ q;cases z:seen k with
   |false=>rfl
   |true=>
    obtain⟨b,cs,e,rfl⟩:=H k z;obtain⟨F,ty,O,_⟩:=mT b cs e;rw[O]at q;exact apC (amq q).symm (l _ _ _)
  ·have q:=h.kp.obj k q g
   refine M k _ ?_ q;cases z:seen k with
   |false=>rfl
   |true=>
    obtain⟨b,cs,e,A⟩:=H k z;exact apC A.symm (h.kp.off k (.inl (by rw[g];rfl)) b (by rw[(Q b cs e).1];rfl))
 refine⟨v,rfl,u9,?_⟩;cases l:o with
 |some q=>
  obtain⟨b,cs⟩:=q;obtain⟨_,j,rfl⟩:=D5 b cs l;exact(hv.pure j).mono fun a u J E=>⟨J,fun hX=>E (G _ hX)⟩
 |none=>
  have acU:=yC l;subst l;simp only[NV,zIq]at hd;subst hd;exact rX C hv G fun b cs r k g e=>C.kp.off k (.inr ⟨g,acU k⟩) b (by show(blks'.getD b none).isSome=true;have L:blks'.getD b none=some cs:=r;rw[L];rfl) e.symm
theorem cu.uG{β:Nat→Nat}{w:World}{X:Nat→Prop}{v:Value}{d:D}{b:Nat}(h:cu β w X v d)(g:∀f,d.ref=some f→f=b):cu (fun _=>β b) w X v d.zI:=by
 cases h with
 |p h=>cases h<;>exact .p (by constructor<;>assumption)
 |ptr f off=>obtain rfl:=g f rfl;exact cu.ptr (β:=fun _=>β f) 0 off
 |bz f off len cap j i=>obtain rfl:=g f rfl;exact cu.bz (β:=fun _=>β f) 0 off len cap j i
 |cR f n size cap e j i k=>obtain rfl:=g f rfl;exact cu.cR (β:=fun _=>β f) 0 n size cap e j i k
theorem cu.Fo{β:Nat→Nat}{w:World}{X:Nat→Prop}{v:Value}{d:D}(h:cu β w X v d.zI):cu (fun _=>β 0) w X v d:=by
 cases d with
 |ptr b off=>cases h with
  |p h=>cases h
  |ptr=>exact cu.ptr (β:=fun _=>β 0) b off
 |bz b off len cap=>cases h with
  |p h=>cases h
  |bz _ _ _ _ g f=>exact cu.bz (β:=fun _=>β 0) b off len cap g f
 |cR b n size=>cases h with
  |p h=>cases h
  |cR _ _ _ cap e g f i=>exact cu.cR (β:=fun _=>β 0) b n size cap e g f i
 |_=>cases h with
  |p h=>exact .p h
theorem LQ.adC{Q Q':Value→D→Prop}{f:D→D}{us:List Value}{xs:List D}(h:LQ Q us xs)(b:∀u x,x∈xs→Q u x→Q' u (f x)):LQ Q' us (xs.map f):=
 ⟨by rw[alR];exact h.1,fun i e d=>by rw[amg];exact b _ _ (al2 _) (h.2 i e (by simpa using d))⟩
theorem LQ.adD{Q Q':Value→D→Prop}{f:D→D}{us:List Value}{xs:List D}(h:LQ Q us (xs.map f))(b:∀u x,x∈xs→Q u (f x)→Q' u x):LQ Q' us xs:=
 ⟨by have:=h.1;rwa [alR]at this,fun i e d=>by
  have:=h.2 i e (by simpa using d)
  rw[amg]at this;exact b _ _ (al2 _) this⟩
theorem cW.uG{β:Nat→Nat}{w:World}{X:Nat→Prop}{v:Value}{d:D}{b:Nat}(h:cW β w X v d)(k:∀f∈d.refs,f=b):cW (fun _=>β b) w X v d.zn:=by
 cases h with
 |c h=>
  cases d with
  |agg xs=>
   cases h with
   |p h=>cases h with
    |agg us _ o l=>
     refine .agg us _ (LQ.adC (Q:=cu β w X) ⟨o,fun i r q=>.p (l i r q)⟩ fun u x g j=>j.uG fun f e=>k f (amh.2 ⟨x,g,e⟩))
  |aY xs=>
   cases h with
   |p h=>cases h with
    |aY us _ o l=>
     refine .aY us _ (LQ.adC (Q:=cu β w X) ⟨o,fun i r q=>.p (l i r q)⟩ fun u x g j=>j.uG fun f e=>k f (amh.2 ⟨x,g,e⟩))
  |_=>exact .c (h.uG fun f e=>k f (rC e))
 |agg us xs h=>exact .agg us _ (h.adC fun u x g j=>j.uG fun f e=>k f (amh.2 ⟨x,g,e⟩))
 |aY us xs h=>exact .aY us _ (h.adC fun u x g j=>j.uG fun f e=>k f (amh.2 ⟨x,g,e⟩))
theorem cW.Fo{β:Nat→Nat}{w:World}{X:Nat→Prop}{v:Value}{d:D}(h:cW β w X v d.zn):cW (fun _=>β 0) w X v d:=by
 cases d with
 |agg xs=>cases h with
  |c h=>cases h with
   |p h=>cases h with
    |agg us _ g e=>exact .agg us _ (LQ.adD (Q:=cu β w X) (f:=D.zI) ⟨g,fun i k j=>.p (e i k j)⟩ fun u x _ b=>b.Fo)
  |agg us _ h=>exact .agg us _ (h.adD fun u x _ b=>b.Fo)
 |aY xs=>cases h with
  |c h=>cases h with
   |p h=>cases h with
    |aY us _ g e=>exact .aY us _ (LQ.adD (Q:=cu β w X) (f:=D.zI) ⟨g,fun i k j=>.p (e i k j)⟩ fun u x _ b=>b.Fo)
  |aY us _ h=>exact .aY us _ (h.adD fun u x _ b=>b.Fo)
 |_=>cases h with
  |c h=>exact .c (cu.Fo h)
theorem IZ{d:D}{b:Nat}(h:b∈d.zn.refs):b=0:=by
 have cell:∀x:D,x.zI.ref=some b→b=0:=fun x e=>by
  cases x<;>simp[D.zI,D.ref]at e<;>omega
 cases d with
 |agg xs=>
  simp only[D.zn,D.refs,List.mem_filterMap,List.mem_map]at h;obtain⟨_,⟨x,_,rfl⟩,e⟩:=h;exact cell x e
 |aY xs=>
  simp only[D.zn,D.refs,List.mem_filterMap,List.mem_map]at h;obtain⟨_,⟨x,_,rfl⟩,e⟩:=h;exact cell x e
 |_=>simp[D.zn,D.zI,D.refs]at h<;>exact h
theorem iD.uG{fn:Func}{b:Nat}{args cs B:List D}{d:D}{blks':List (Option (List D))}{ns':List Nat}(h:iD P Good fn 1 (args.map D.zn) [some cs] [] d blks' ns')
  (T:dZ cs=false) (V:blks'.getD 0 none=some B) (W:dZ B=false) (U:d.refs=[]):iD P Good fn (l6 (some (b,cs))).length args (l6 (some (b,cs))) [] d (l6 (some (b,B))) []:=by
 intro f hf c w β X vals q1 q2 q3 q4 q5 q6 j rh fu Z;have live:∀k,((l6 (some (b,cs))).getD k none).isSome=true→k=b:=fun k g=>by
  obtain⟨H,F⟩:=alL.1 g;have:=dS.1 F;simp only[zIq,zJq]at this;exact this.1.symm
 have S:(l6 (some (b,cs))).getD b none=some cs:=dS.2 rfl;have G:∀k cs',([some cs]:List (Option (List D))).getD k none=some cs'→k=0∧cs'=cs:=fun k cs' e=>by
  cases k with
  |zero=>exact⟨rfl,(amq e).symm⟩
  |succ k=>simp at e
 have sZ:dk {c with gh:=c.gh.map fun p=>(p.1,p.2.zn),gb:=1} 0 ⟨fun _=>.any,fun k=>([some cs]:List (Option (List D))).getD k none,fun k=>([]:List Nat).contains k⟩ ⟨#[],[]⟩ w (fun _=>β b) X:=by
  refine⟨j.defers,j.size,fun t=>.c (.p (.any _)),fun t k g=>by simp[D.refs]at g,fun k cs' g=>?_,fun k cs' g x E z o=>?_,fun k C g K _=>?_,j.F,j.vt,j.oE,⟨j.below.uJ,j.below.nc,j.below.sz⟩,fun p A=>?_,fun p A k g=>?_,⟨j.kp.obj,j.kp.x,j.kp.lt,fun k g C _=>j.kp.off k g b (by show((l6 (some (b,cs))).getD b none).isSome=true;rw[S];rfl)⟩⟩
  ·obtain⟨rfl,rfl⟩:=G k cs' g
   obtain⟨y,r,I,e,N,M,L⟩:=j.blk b cs' S;exact⟨y,r,I,e,N,M,(L.pure (iL T)).lq⟩
  ·obtain⟨rfl,rfl⟩:=G k cs' g
   rw[iL T x E]at o;cases o
  ·obtain⟨H,F⟩:=alL.1 g
   obtain⟨Q,O⟩:=alL.1 K;rw[(G k H F).1,(G C Q O).1]
  ·obtain⟨J,q,rfl⟩:=ama.1 A
   exact(j.gh J q).uG fun z o=>live z (j.iY J q z o).2
  ·obtain⟨J,q,rfl⟩:=ama.1 A
   obtain rfl:=IZ g;exact⟨Nat.one_pos,rfl⟩
 refine(h f hf {c with gh:=c.gh.map fun p=>(p.1,p.2.zn),gb:=1} w (fun _=>β b) X vals q1 q2 q3 (alE 1) q5 q6 sZ (by rw[alR];exact rh) (fun i y r=>by
  rw[amg];exact(fu i y (by simpa using r)).uG fun z o=>live z (Z _ (al2 _) z o)) (fun x E k g=>by
  obtain⟨x0,_,rfl⟩:=ama.1 E;obtain rfl:=IZ g;rfl)).mono fun e w' fa=>?_
 obtain⟨v,Y,X',rfl,l,hv,_⟩:=fa;have k1:∀k cs',(l6 (some (b,B))).getD k none=some cs'→k=b∧cs'=B:=fun k cs' e=>by
  have:=dS.1 e;simp only[zIq,zJq]at this;exact⟨this.1.symm,this.2.symm⟩
 refine⟨v,fun _=>Y 0,X',rfl,⟨l.defers,l.size,fun t=>.c (.p (.any _)),fun t k g=>by simp[D.refs]at g,fun k cs' g=>?_,fun k cs' g x E z o=>?_,fun k C g K _=>?_,l.F,l.vt,l.oE,⟨l.below.uJ,l.below.nc,l.below.sz⟩,fun p A=>?_,fun p A k g=>?_,⟨l.kp.obj,l.kp.x,l.kp.lt,fun k g C _=>l.kp.off k g 0 (by show(blks'.getD 0 none).isSome=true;rw[V];rfl)⟩⟩,.c (.p (hv.pure U)),fun k g=>by rw[U]at g;cases g⟩
 ·obtain⟨rfl,rfl⟩:=k1 k cs' g
  obtain⟨y,r,I,e,N,M,L⟩:=l.blk 0 cs' V;exact⟨y,r,I,e,N,M,(L.pure (iL W)).lq⟩
 ·obtain⟨rfl,rfl⟩:=k1 k cs' g
  rw[iL W x E]at o;cases o
 ·obtain⟨H,F⟩:=alL.1 g
  obtain⟨Q,O⟩:=alL.1 K;rw[(k1 k H F).1,(k1 C Q O).1]
 ·have:=l.gh (p.1,p.2.zn) (ama.2 ⟨p,A,rfl⟩)
  exact this.Fo
 ·obtain⟨y,r⟩:=j.iY p A k g
  obtain rfl:=live k r;refine⟨y,?_⟩;show((l6 (some (k,B))).getD k none).isSome=true;rw[dS.2 rfl];rfl
theorem GK{c:Ctx}{n:Nat}{s:FSt}{a:Act}{w:World}{β:Nat→Nat}{X:Nat→Prop}(h:dk c n s a w β X)(h0:c.Good c.w0){f:FuncId}{fn:Func}(hf:c.P.funcs[f]? =some fn){args:List D}{r:Nat}{L y:List D}
  (qQ:s.blk r=some L) (hp0:dZ L=false) (Rr:∀d∈args,∀b∈d.refs,b=r)
  {d:D} {blks':List (Option (List D))} {ns':List Nat} (Jq:iD c.P c.Good fn (l6 (some (r,L))).length args (l6 (some (r,L))) [] d blks' ns') (Y:blks'.getD r none=some y) (Vn:dZ y=false) (hdr:d.refs=[])
  {vals:List Value} (rh:vals.length=args.length) (fu:∀i(h:i<vals.length)(h':i<args.length),cW β w X vals[i] args[i]):
  Calls c.P f vals.toArray w fun e w'=>∃v,e=.returned v∧dk c n (s.bS r (some y) false) a w' β X∧cU w' X v d:=by
 generalize J:some (r,L)=o at Jq;have ho:∀b cs,o=some (b,cs)→s.blk b=some cs∧dZ cs=false:=fun b cs e=>by
  rw[←J]at e;cases e;exact⟨qQ,hp0⟩
 have dU:∀d∈args,∀b∈d.refs,∃cs,o=some (b,cs):=fun d hd b g=>⟨L,by rw[Rr d hd b g];exact J.symm⟩
 have mT:∀b cs,o=some (b,cs)→∃I e,w.heap[β b]? =some (.cells I e (0,0))∧X (β b):=fun b cs e=>by
  obtain⟨_,l,I,e,S,_⟩:=h.blk b cs (ho b cs e).1;exact⟨I,e,S,l⟩
 have N:∀k,seenAt β o k=true→∃b cs,o=some (b,cs)∧k=β b:=fun k j=>by
  cases A:o with
  |none=>rw[A]at j;cases j
  |some q=>rw[A]at j;exact⟨q.1,q.2,rfl,by simpa [seenAt]using j⟩
 have A_:∀b cs,o=some (b,cs)→seenAt β o (β b)=true:=fun b cs e=>by rw[e];simp[seenAt]
 have qN:∀b cs,o=some (b,cs)→∃e m,w.shape? (β b)=some (e,m)∧DT β w o=[(.slice (some ⟨β b,0,none⟩) 0 1,.cR b 0 m)]:=fun b cs e=>by
  obtain⟨I,ty,z,_⟩:=mT b cs e;have l:=cY z;refine⟨ty,I.size,l,?_⟩;rw[e];simp only[DT,l]
 have vO:o=none→DT β w o=[]:=fun e=>by rw[e];rfl
 have yC:o=none→∀k,seenAt β o k=false:=fun e k=>by rw[e];rfl
 generalize seenAt β o=seen at N A_ yC;generalize DT β w o=qO at qN vO
 let O:Ctx:={c with gh:=qO,gb:=(l6 o).length,rd:=none,dfs:=[],ns:=w.heap.size,kp:=fun k=>if seen k then none else w.heap[k]?,kx:=fun k=>X k∧seen k=false}
 have lg:∀b cs,o=some (b,cs)→∀x∈cs,x.ref=none:=fun b cs e=>iL (ho b cs e).2
 have sZ:dk O 0 ⟨fun _=>.any,fun b=>(l6 o).getD b none,fun b=>([]:List Nat).contains b⟩ ⟨#[],[]⟩ w β X:=by
  refine⟨rfl,rfl,fun t=>.c (.p (.any _)),fun t b g=>by simp[D.refs]at g,fun b cs g=>?_,fun b cs g x F Q M=>?_,fun b Q g M _=>?_,h.F,h.vt,h.oE,⟨h.below.uJ,h.below.nc,alE _⟩,fun p C=>?_,fun p C b g=>?_,⟨fun k q j=>?_,fun k j=>j.1,fun k j=>h.oE k j.1,fun k j b g=>?_⟩⟩
  ·exact h.blk b cs (ho b cs (dS.1 g)).1
  ·rw[lg b cs (dS.1 g) x F]at M;cases M
  ·obtain⟨c1,G⟩:=alL.1 g
   obtain⟨c2,E⟩:=alL.1 M;have z:=dS.1 G;have l:=dS.1 E;rw[z]at l;simp only[zIq,zJq]at l;exact l.1
  ·cases A:o with
   |none=>have:=vO A;rw[show O.gh=qO from rfl,this]at C;cases C
   |some q=>
    obtain⟨b,cs⟩:=q;obtain⟨e,m,z,l⟩:=qN b cs A;rw[show O.gh=qO from rfl,l,alI]at C
    subst C;exact .c (.cR b 0 m 1 e (by omega) (by decide) (by rw[amU];exact z))
  ·cases A:o with
   |none=>have:=vO A;rw[show O.gh=qO from rfl,this]at C;cases C
   |some q=>
    obtain⟨b1,cs⟩:=q;obtain⟨e,m,z,l⟩:=qN b1 cs A;rw[show O.gh=qO from rfl,l,alI]at C
    subst C;simp only[D.refs,List.mem_singleton]at g;subst g;exact⟨Jr A,by show((l6 (some (b,cs))).getD b none).isSome=true;rw[dS.2 rfl];rfl⟩
  ·have U:(if seen k then none else w.heap[k]?)=some q:=j
   split at U
   ·cases U
   ·exact U
  ·obtain⟨cs,G⟩:=alL.1 g
   have E:=A_ b cs (dS.1 G);intro e3;rw[e3]at E;rcases j with j|j
   ·have U:(if seen k then none else w.heap[k]?).isSome=true:=j
    rw[apB E]at U;cases U
   ·rw[j.2]at E;cases E
 refine(Jq f hf O w β X vals rfl rfl h0 (alE _) rfl rfl sZ rh fu (fun x F b g=>by
  obtain⟨cs,e⟩:=dU x F b g;rw[dS.2 e];rfl)).mono fun e w' fa=>?_
 obtain⟨v,β',X',rfl,K,hv,hdl⟩:=fa;have V:∀k q,seen k=false→w.heap[k]? =some q→w'.heap[k]? =some q:=fun k q j A=>K.kp.obj k q (by show(if seen k then none else w.heap[k]?)=some q;rw[j];exact A)
 have D5:∀b cs,o=some (b,cs)→blks'.getD b none=some y∧b=r:=fun b cs e=>by
  rw[←J]at e;cases e;exact⟨Y,rfl⟩
 have Rh:∀b cs,o=some (b,cs)→β' b=β b∧∃e e' m,w.shape? (β b)=some (e,m)∧w'.shape? (β b)=some (e',m):=fun b cs e=>by
  obtain⟨ty,m,z,l⟩:=qN b cs e;have:=K.gh _ (by rw[show O.gh=qO from rfl,l];exact alI.2 rfl)
  obtain⟨r1,PS,r2⟩:=GM this;have W:β b=β' b:=by injection r1
  exact⟨W.symm,ty,PS,m,z,by rw[W];rw[amU]at r2;exact r2⟩
 have Z:∀k,X k→X' k:=fun k j=>by
  cases B:seen k with
  |true=>
   obtain⟨b,cs,e,rfl⟩:=N k B;have:=(K.blk b y (D5 b cs e).1).2.1;rw[(Rh b cs e).1]at this;exact this
  |false=>exact K.kp.x k ⟨j,B⟩
 have Aw:∀a u,w.cell? a=some u→¬X a.block→w'.cell? a=some u∧¬X a.block:=fun a u T F=>by
  refine⟨?_,F⟩;have Ar:seen a.block=false:=by
   cases B:seen a.block with
   |false=>rfl
   |true=>
    obtain⟨b,cs,e,E⟩:=N _ B;obtain⟨_,_,_,q⟩:=mT b cs e;rw[←E]at q;exact apC q F
  have cM:=zf T;have G:w'.heap[a.block]? =w.heap[a.block]? :=by
   rw[V a.block _ Ar (amG cM),amG cM]
  rw[World.cell?_of_block G];exact T
 have Aq:TU w w':=fun k e m j=>by
  cases B:seen k with
  |true=>
   obtain⟨b,cs,E,rfl⟩:=N k B;obtain⟨_,ty,PS,m',z,l⟩:=Rh b cs E;rw[z]at j;simp only[zIq,zJq]at j;exact⟨PS,by rw[←j.2];exact l⟩
  |false=>
   obtain⟨I,fr,z,l⟩:=jW j;exact⟨e,by rw[←l];exact cY (V k _ B z)⟩
 have H':∀b,((s.bS r (some y) false).blk b).isSome=true→(s.blk b).isSome=true:=fun b g=>by
  by_cases H:b=r
  ·rw[H,qQ];rfl
  ·have:(s.bS r (some y) false).blk b=s.blk b:=apA H
   rw[this]at g;exact g
 have Z':∀b,(s.blk b).isSome=true→((s.bS r (some y) false).blk b).isSome=true:=fun b g=>by
  by_cases H:b=r
  ·have:(s.bS r (some y) false).blk b=some y:=apB H
   rw[this];rfl
  ·have:(s.bS r (some y) false).blk b=s.blk b:=apA H
   rw[this];exact g
 have aac:∀b,(s.bS r (some y) false).b_ b=s.b_ b:=fun b=>by
  show(s.b_ b||(false&&(b==r)))=s.b_ b
  simp
 have u9:dk c n (s.bS r (some y) false) a w' β X:=by
  refine⟨h.defers,h.size,fun t=>(h.tmp t).zM Aw Aq,fun t b g=>Z' b (h.nd t b g),fun b cs g=>?_,fun b cs g x F Q M=>?_,fun b Q h1 h2=>h.inj b Q (H' b h1) (H' Q h2),h.F,h.vt,fun k j=>ami (h.oE k j) K.below.sz,⟨K.below.uJ,fun k q j A=>?_,alJ h.below.sz K.below.sz⟩,fun p C=>(h.gh p C).zM Aw Aq,fun p C b g=>⟨(h.iY p C b g).1,Z' b (h.iY p C b g).2⟩,⟨fun k q j=>?_,h.kp.x,fun k j=>ami (h.kp.lt k j) K.below.sz,fun k j b g=>h.kp.off k j b (H' b g)⟩⟩
  ·by_cases H:b=r
   ·subst H
    have G:(s.bS b (some y) false).blk b=some y:=apB rfl;rw[G]at g;obtain rfl:=amq g;obtain⟨z,l,I,ty,S,q4,q5⟩:=h.blk b L qQ;obtain⟨r1,r2,dD,PS,W,r4,r5⟩:=K.blk b y Y;rw[(Rh b L J.symm).1]at W;exact⟨z,l,dD,PS,W,r4,((r5.pure (iL Vn)).mono fun a u T F=>⟨T,fun hX=>F (Z _ hX)⟩).lq⟩
   ·have G:(s.bS r (some y) false).blk b=s.blk b:=apA H
    rw[G]at g;obtain⟨z,l,I,ty,S,q4,q5⟩:=h.blk b cs g;have B:seen (β b)=false:=by
     cases B:seen (β b)with
     |false=>rfl
     |true=>
      obtain⟨b1,cs2,e,E⟩:=N _ B;have zO:=(D5 b1 cs2 e).2;subst zO;exact apC (h.inj b b1 (by rw[g];rfl) (by rw[qQ];rfl) E) H
    exact⟨z,l,I,ty,V _ _ B S,q4,q5.mono fun u x _ A=>A.zM Aw Aq⟩
  ·by_cases H:b=r
   ·subst H
    have G:(s.bS b (some y) false).blk b=some y:=apB rfl;rw[G]at g;obtain rfl:=amq g;rw[iL Vn x F]at M;cases M
   ·have G:(s.bS r (some y) false).blk b=s.blk b:=apA H
    rw[G]at g;obtain⟨z,l⟩:=h.tB b cs g x F Q M;exact⟨by rw[aac];exact z,Z' Q l⟩
  ·have q:=h.below.nc k _ j A
   refine V k _ ?_ q;cases B:seen k with
   |false=>rfl
   |true=>
    obtain⟨b,cs,e,rfl⟩:=N k B;obtain⟨I,ty,S,_⟩:=mT b cs e;rw[S]at q;exact apC (amq q).symm (A _ _ _)
  ·have q:=h.kp.obj k q j
   refine V k _ ?_ q;cases B:seen k with
   |false=>rfl
   |true=>
    obtain⟨b,cs,e,E⟩:=N k B;exact apC E.symm (h.kp.off k (.inl (by rw[j];rfl)) b (by rw[(ho b cs e).1];rfl))
 exact⟨v,rfl,u9,(hv.pure hdr).mono fun a u T F=>⟨T,fun hX=>F (Z _ hX)⟩⟩
theorem Rk{c:Ctx}{n:Nat}{s:FSt}{a:Act}{w:World}{β:Nat→Nat}{X:Nat→Prop}(h:dk c n s a w β X)(h0:c.Good c.w0){f:FuncId}{fn:Func}(hf:c.P.funcs[f]? =some fn){args:List D}{A:Nat}{j:List D}
  (J:s.blk A=some j) (Rr:∀d∈args,∀b∈d.refs,b=A)
  {d:D} (Jq:∀vs:List Value,vs.length=j.length→iD c.P c.Good fn 1 (args.map D.zn) [some (pg j vs)] [] d [some (pg j vs)] []) (I:d.refs=[])
  {vals:List Value} (rh:vals.length=args.length) (fu:∀i(h:i<vals.length)(h':i<args.length),cW β w X vals[i] args[i]):
  Calls c.P f vals.toArray w fun e w'=>∃v,e=.returned v∧dk c n s a w' β X∧cU w' X v d:=by
 obtain⟨g1,g2,us,ty,g3,g4,L⟩:=h.blk A j J;generalize Q:us.toList.take j.length=vs at L;have hlen:vs.length=j.length:=L.1
 let pins:List (Value×D):=(vs.zip j).filter fun p=>p.2.ref.isSome
 have qN:∀p∈pins,cu β w X p.1 p.2∧p.2∈j:=fun p o=>by
  obtain⟨G,-⟩:=anR.1 o;obtain⟨i,hi,rfl⟩:=alZ.1 G;rw[List.getElem_zip];exact⟨L.2 i _ _,al2 _⟩
 let V:=(j.flatMap D.refs).foldl Nat.max c.gb+1
 have fold:∀(l:List Nat)(m:Nat),m≤l.foldl Nat.max m∧∀x∈l,x≤l.foldl Nat.max m:=fun l=>by
  induction l with
  |nil=>exact fun m=>⟨alE _,fun x C=>by cases C⟩
  |cons y l O=>exact fun m=>⟨alJ (aol m y) (O (Nat.max m y)).1,fun x C=>by
    rcases alM.1 C with rfl|C
    ·exact alJ (aoe m x) (O (Nat.max m x)).1
    ·exact(O (Nat.max m y)).2 x C⟩
 let c':Ctx:={c with gh:=pins++c.gh,gb:=V}
 let s1:=s.bS A (some (pg j vs)) false
 have E:∀b,(s1.blk b).isSome=true↔(s.blk b).isSome=true:=fun b=>by
  by_cases r:b=A
  ·subst r
   have z:s1.blk b=some (pg j vs):=apB rfl;rw[z,J];simp
  ·have z:s1.blk b=s.blk b:=apA r
   rw[z]
 have M:∀b,s1.b_ b=s.b_ b:=fun b=>by
  show(s.b_ b||(false&&(b==A)))=s.b_ b
  simp
 have Z:∀{x:D}{b:Nat},b∈x.refs→x.ref.isSome=true→x.ref=some b:=fun{x b} g C=>by
  cases x<;>simp_all [D.refs,D.ref]
 have aW:dk c' n s1 a w β X:=by
  refine⟨h.defers,h.size,h.tmp,fun t b g=>(E b).2 (h.nd t b g),fun b cs g=>?_,fun b cs g x C F aO=>?_,fun b F U T=>h.inj b F ((E b).1 U) ((E F).1 T),h.F,h.vt,h.oE,⟨h.below.uJ,h.below.nc,h.below.sz⟩,fun p o=>?_,fun p o b g=>?_,⟨h.kp.obj,h.kp.x,h.kp.lt,fun k B b g=>h.kp.off k B b ((E b).1 g)⟩⟩
  ·by_cases r:b=A
   ·subst r
    have z:s1.blk b=some (pg j vs):=apB rfl;rw[z]at g;obtain rfl:=amq g;refine⟨g1,g2,us,ty,g3,by rw[sU hlen];exact g4,?_⟩
    rw[sU hlen,Q];refine⟨by rw[sU hlen];exact hlen,fun i i1 i2=>?_⟩
    rw[Gx i (by rw[←hlen];exact i1) i1 i2]
    unfold U9;split
    ·exact L.2 i i1 _
    ·exact .p (.lit _)
   ·have z:s1.blk b=s.blk b:=apA r
    rw[z]at g;exact h.blk b cs g
  ·by_cases r:b=A
   ·subst r
    have z:s1.blk b=some (pg j vs):=apB rfl;rw[z]at g;obtain rfl:=amq g;rw[Gw x C]at aO;cases aO
   ·have z:s1.blk b=s.blk b:=apA r
    rw[z]at g;obtain⟨G,H⟩:=h.tB b cs g x C F aO;exact⟨by rw[M];exact G,(E F).2 H⟩
  ·rcases amy.1 o with o|o
   ·exact .c (qN p o).1
   ·exact h.gh p o
  ·rcases amy.1 o with o|o
   ·have hr:=(anR.1 o).2
    have Au:=(qN p o).2;refine⟨Nat.lt_succ_of_le ((fold _ _).2 b (anI.2 ⟨_,Au,g⟩)),(E b).2 (h.tB A j J p.2 Au b (Z g hr)).2⟩
   ·exact⟨Nat.lt_succ_of_le (alJ (amb (h.iY p o b g).1) (fold _ _).1),(E b).2 (h.iY p o b g).2⟩
 have K:dZ (pg j vs)=false:=by
  cases S:dZ (pg j vs)with
  |false=>rfl
  |true=>
   unfold dZ at S;simp only[List.any_eq_true]at S;obtain⟨x,C,q⟩:=S;rw[Gw x C]at q;cases q
 have z:s1.blk A=some (pg j vs):=apB rfl;refine(GK aW h0 hf z K Rr ((Jq vs hlen).uG K rfl K I) (dS.2 rfl) K I rh fu).mono fun e w' fa=>?_
 obtain⟨v,rfl,g,hv⟩:=fa;refine⟨v,rfl,?_,hv⟩;have e2:s1.bS A (some (pg j vs)) false=s1:=by
  have G:(fun k=>if k=A then some (pg j vs)else s1.blk k)=s1.blk:=funext fun k=>by
   by_cases B:k=A
   ·rw[apB B,B,z]
   ·rw[apA B]
  have H:(fun k=>s1.b_ k||(false&&(k==A)))=s1.b_:=funext fun k=>by simp
  generalize s1=s2 at G H⊢;cases s2;simp only[FSt.bS]at G H⊢;rw[G,H]
 rw[e2]at g;refine⟨g.defers,g.size,g.tmp,fun t b r=>(E b).1 (g.nd t b r),fun b cs r=>?_,h.tB,fun b F U T=>g.inj b F ((E b).2 U) ((E F).2 T),g.F,g.vt,g.oE,⟨g.below.uJ,g.below.nc,g.below.sz⟩,fun p o=>g.gh p (anL _ o),h.iY,⟨g.kp.obj,g.kp.x,g.kp.lt,fun k B b r=>g.kp.off k B b ((E b).2 r)⟩⟩
 by_cases zO:b=A
 ·subst zO
  rw[J]at r;obtain rfl:=amq r;obtain⟨r1,r2,Y,PS,r3,r4,N⟩:=g.blk b _ z;rw[sU hlen]at r4 N;refine⟨r1,r2,Y,PS,r3,r4,by rw[N.1,sU hlen],fun i i1 i2=>?_⟩
  have q:=N.2 i i1 (by rw[sU hlen];exact i2)
  rw[Gx i i2 (by rw[hlen];exact i2)]at q
  unfold U9 at q;split at q
  ·exact q
  ·rename_i k B
   have W:(Y.toList.take j.length)[i]=vs[i]'(by rw[hlen];exact i2):=by
    generalize(Y.toList.take j.length)[i]=u1 at q;generalize vs[i]'(by rw[hlen];exact i2)=u2 at q
    cases q with
    |p q=>cases q;rfl
   rw[W];have o:=g.gh (vs[i]'(by rw[hlen];exact i2),j[i]) (anw _ (anR.2 ⟨by
    rw[alZ];exact⟨i,by rw[List.length_zip,hlen];omega,List.getElem_zip⟩,by show j[i].ref.isSome=true;rw[B];rfl⟩))
   generalize j[i]=x at o B;generalize vs[i]'(by rw[hlen];exact i2)=u2 at o
   cases o with
   |c o=>exact o
   |agg _ _ _=>cases B
   |aY _ _ _=>cases B
 ·have W:s1.blk b=s.blk b:=apA zO
  rw[←W]at r;exact g.blk b cs r
theorem aae{c:Ctx}{n:Nat}{s:FSt}{a:Act}{w:World}{β:Nat→Nat}{X:Nat→Prop}(h:dk c n s a w β X)(h0:c.Good c.w0){f:FuncId}{fn:Func}(hf:c.P.funcs[f]? =some fn){args:List D}
  (dU:∀d∈args,d.refs=[]) {d:D} {blks':List (Option (List D))} {ns':List Nat} (Jq:iD c.P c.Good fn 0 args [] [] d blks' ns') {nb:Nat} (s7:s.blk nb=none) {R:Rec} (hd:Zs nb d blks' ns'=some R)
  {vals:List Value} (rh:vals.length=args.length) (fu:∀i(h:i<vals.length)(h':i<args.length),cW β w X vals[i] args[i]) {o:Oper}:
  Calls c.P f vals.toArray w fun e w'=>∃v,e=.returned v∧Rel c n (s.app n o.dst R) (a.put o.dst v) w':=by
 let c':Ctx:={c with gh:=[],gb:=0,rd:=none,dfs:=[],ns:=w.heap.size,kp:=fun k=>w.heap[k]?,kx:=fun k=>X k}
 have sZ:dk c' 0 ⟨fun _=>.any,fun b=>([]:List (Option (List D))).getD b none,fun b=>([]:List Nat).contains b⟩ ⟨#[],[]⟩ w β X:=
  ⟨rfl,rfl,fun t=>.c (.p (.any _)),fun t b r=>by simp[D.refs]at r,fun b cs r=>by simp at r,fun b cs r=>by simp at r,fun b b' r=>by simp at r,h.F,h.vt,h.oE,⟨h.below.uJ,h.below.nc,alE _⟩,fun p j=>(by cases j),fun p j=>(by cases j),
   ⟨fun k q C=>C,fun k C=>C,fun k C=>h.oE k C,fun k C b r=>by simp at r⟩⟩
 refine(Jq f hf c' w β X vals rfl rfl h0 (alE _) rfl rfl sZ rh fu (fun x A b r=>by rw[dU x A]at r;cases r)).mono fun e w' fa=>?_
 obtain⟨v,g,Y,rfl,E,B,hdl⟩:=fa;obtain⟨b,cs,d',kC,lg,rfl,H⟩:=yI hd;have zr:Below w.heap.size w w':=by
  have W:=h.below.uJ;have V:=E.below.uJ;refine⟨V.os.trans W.os.symm,V.tape.trans W.tape.symm,V.output.trans W.output.symm,E.below.sz,fun k C=>?_⟩
  rw[E.kp.obj k _ (amG C),amG C]
 obtain⟨q1,Z,K,ty,q3,q4,q5⟩:=E.blk b cs kC;have Q:w.heap.size≤g b:=by
  rcases alU (g b) w.heap.size with cM|Js
  ·exact apC rfl (E.kp.off (g b) (.inl (by show(w.heap[g b]?).isSome=true;rw[amG cM];rfl)) b (by show(blks'.getD b none).isSome=true;rw[kC];rfl))
  ·exact Js
 have hr:a9 w' (fun k=>X k∨k=g b) (K.toList.take cs.length) cs:=(q5.pure (iL lg)).mono fun a u T A=>⟨T,fun z=>A (by
  rcases z with z|z
  ·exact E.kp.x _ z
  ·rw[z];exact Z)⟩
 have K2:=h.aft zr nb s7 Q q3 q4 hr;refine⟨v,rfl,_,_,K2.put (v:=v) (d:=d') ?_ ?_⟩
 ·rcases H with⟨G,size,rfl,rfl⟩|⟨y,len,l,rfl,rfl⟩|⟨x,F,e,rfl,rfl,S,A⟩
  ·cases B with
   |c B=>cases B with
    |p j=>cases j
    |cR _ _ _ l e J I U=>
     have:=cu.cR (β:=fun k=>if k=nb then g b else β k) (w:=w') (X:=fun k=>X k∨k=g b) nb G size l e J I (by simp only[if_true];exact U)
     simp only[if_true]at this;exact .c this
  ·cases B with
   |c B=>cases B with
    |p j=>cases j
    |bz _ _ _ _ J I=>
     have:=cu.bz (β:=fun k=>if k=nb then g b else β k) (w:=w') (X:=fun k=>X k∨k=g b) nb y len l J I
     simp only[if_true]at this;exact .c this
  ·have N:∀{u:Value},¬cU w' Y u x:=fun j=>by
    rcases A with⟨G,size,rfl,-⟩|⟨y,rfl,-⟩<;>cases j
   have step:∀{u:Value},cu g w' Y u x→cu (fun k=>if k=nb then g b else β k) w' (fun k=>X k∨k=g b) u F:=fun hu=>by
    rcases A with⟨G,size,rfl,rfl⟩|⟨y,rfl,rfl⟩
    ·cases hu with
     |p j=>cases j
     |cR _ _ _ l e J I U=>
      have:=cu.cR (β:=fun k=>if k=nb then g b else β k) (w:=w') (X:=fun k=>X k∨k=g b) nb G size l e J I (by simp only[if_true];exact U)
      simp only[if_true]at this;exact this
    ·cases hu with
     |p j=>cases j
     |ptr=>
      have:=cu.ptr (β:=fun k=>if k=nb then g b else β k) (w:=w') (X:=fun k=>X k∨k=g b) nb y
      simp only[if_true]at this;exact this
   have low:∀a u,w'.cell? a=some u→¬Y a.block→w'.cell? a=some u∧¬(X a.block∨a.block=g b):=fun a u T A=>⟨T,fun z=>A (by
    rcases z with z|z
    ·exact E.kp.x _ z
    ·rw[z];exact Z)⟩
   cases B with
   |c B=>cases B with
    |p j=>cases j with
     |aY K _ L uH=>exact apC (uH 0 (by rw[L];simp) (by simp)) N
   |aY K _ L=>
    refine .aY K _ ⟨L.1,fun i i1 i2=>?_⟩
    have hi:=L.2 i i1 i2;cases i with
    |zero=>exact step hi
    |succ i=>cases i with
     |zero=>exact .p ((hi.pure S).mono low)
     |succ i=>exfalso;simp only[List.length_cons,List.length_nil]at i2;omega
 ·intro b' M
  have:b'=nb:=by
   rcases H with⟨G,size,rfl,rfl⟩|⟨y,len,l,rfl,rfl⟩|⟨x,F,e,rfl,rfl,S,A⟩
   ·simpa [D.refs]using M
   ·simpa [D.refs]using M
   ·have e1:(D.aY [F,e]).refs=[nb]:=by
     show [F,e].filterMap D.ref=[nb];have O:F.ref=some nb:=by rcases A with⟨_,_,-,rfl⟩|⟨_,-,rfl⟩<;>rfl
     rw[List.filterMap_cons_some O,aoG S,List.filterMap_nil]
    rw[e1]at M;simpa using M
  subst this;simp[FSt.bS]
theorem GL{c:Ctx}{n:Nat}{s:FSt}{a:Act}{w:World}{β:Nat→Nat}{X:Nat→Prop}(h:dk c n s a w β X)(ops:Array Oper)(o:Oper):∀b,kS ops o s.tmp=some b→Region.wanted o (yielded ops a.tmps)=b:=by
 intro b d;unfold kS at d;unfold Region.wanted;split at d
 ·rename_i k;simp only[zIq]at d;rw[k];exact d
 ·rename_i j want k
  rw[k];split at d
  ·rename_i t r
   have f:=h.tmp t;have i:yielded ops a.tmps j=match a.tmps[t]?with|some (.bool b)=>some b|_=>none:=by unfold yielded;rw[r];rfl
   split at d
   ·rename_i p l
    simp only[zIq]at d;rw[l]at f;have e:=sA (f.pure rfl) (v:=.bool p) rfl;have:a.tmps[t]? =some (.bool p):=by
     cases g:a.tmps[t]?with
     |none=>simp[Array.getD_eq_getD_getElem?,g,undef]at e
     |some v=>simp[Array.getD_eq_getD_getElem?,g]at e;rw[e]
    rw[this]at i;simp only[i];rw[←d];cases p<;>cases want<;>rfl
   ·rename_i q l
    simp only[zIq]at d;rw[l]at f;have e:=sA (f.pure rfl) (v:=.tuple q) rfl;have:yielded ops a.tmps j=none:=by
     rw[i];cases g:a.tmps[t]?with
     |none=>rfl
     |some v=>simp[Array.getD_eq_getD_getElem?,g]at e;rw[e]
    simp only[this];rw[←d];cases want<;>rfl
   ·cases d
  ·cases d
theorem MZ{c:Ctx}{n:Nat}{s:FSt}{a:Act}{w:World}{inl:Inline P Good}(nR:yo P Good inl)(hP:c.P=P)(Ez:c.Good=Good)(hG:aa Good)(Z:c.Good c.w0){gb mx:Nat}(qP:c.gb≤gb)(h:Rel c n s a w)
  {ops:Array Oper} {o:Oper} {ro:List Nat} {blks:List (Option (List D))} {ns:List Nat} {tr tr':List (Item P Good)} {R:Rec} {eqs:List (de×de)}
  (W:oP P inl ops o ro gb mx s blks ns tr=some (R,tr',eqs)) (he:jI eqs) (hnb:∀b cs d nf,R=.new b cs d nf→s.blk b=none)
  (Vv:R.inner=true→(∀b,s.blk b=blks.getD b none)∧(∀b,s.b_ b=ns.contains b)∧(∀t,n≤t→s.tmp t=.any)∧((c.gb≤mx∧∀t b,b∈(s.tmp t).refs→b<mx)∨mx=blks.length)) {Q:Exit→Act→World→Prop} {K:Act→World→Prop}
  (O:∀a' w',Rel c n (s.app n o.dst R) a' w'→K a' w'):
  if Region.wanted o (yielded ops a.tmps)then o.wp P a w K Q else K (a.put o.dst undef) w:=by
 subst hP Ez;obtain⟨β,X,h⟩:=h;rw[uV]at W;have K3:=GL h ops o;split at W
 ·rename_i hg
  rw[apB (K3 _ hg)];split at W
  ·rename_i E nd hE
   split at W
   ·rename_i xg w9 hn
    split at W
    ·rename_i R' mZ qS y
     simp only[zIq,zJq]at W;obtain⟨rfl,rfl,rfl⟩:=W;obtain⟨Vt,U⟩:=he.append;have iM:=VL h qP hE (Ni hn Vt);unfold Oper.wp;cases E with
     |val d=>
      obtain⟨v,w',M,l,B,BR⟩:=iM;simp only[fA]at y;generalize hrw:Qn o.dst d xg=q at y;obtain⟨d',S,ajR⟩:=q;simp only[zIq,zJq]at y;obtain⟨rfl,rfl,rfl⟩:=y;obtain rfl:=SN hrw U;rw[M,Oper.upon_value];exact O _ _ ⟨β,X,(h.grow l).put B BR⟩
     |new b cs d nf=>
      obtain⟨rfl,w1,us,e,v,M,zO,hs1,hle,T,hnf,J,B⟩:=iM;simp only[fA,zIq,zJq]at y;obtain⟨rfl,rfl,rfl⟩:=y;rw[M,Oper.upon_value];have K2:=(h.grow zO).new blks.length (hnb _ cs d nf rfl) e us cs nf hle (T.mono fun u x _ hq=>hq.mono (iG zO) (mi zO)) hnf
      refine O _ _ ⟨_,_,K2.put (.c (B _ _ _ (by simp[hs1]) ?_)) (fun L z=>?_)⟩
      ·rw[←hs1];exact cY (heap_alloc_new w1 _)
      ·rw[J,alI]at z
       subst z;simp[FSt.bS]
     |store b off ds d nf=>
      obtain⟨cs,us,dD,e,v,rfl,l,hu,M,D4,hle,hlu,T,hlv⟩:=iM;simp only[fA,zIq,zJq]at y;obtain⟨rfl,rfl,rfl⟩:=y;have hlen:(cs.take off++(ds++cs.drop (off+ds.length))).length=cs.length:=by simp;omega
      have pn:=h.store b cs (cs.take off++(ds++cs.drop (off+ds.length))) nf l us dD e hu D4 (by omega) (by rw[hlen];exact T) (fun d J L z=>by
       rcases amy.1 J with J|J
       ·have:=h.tB b cs l d (anv J) L z;exact⟨by rw[this.1];rfl,this.2⟩
       ·rcases amy.1 J with J|J
        ·exact⟨by rw[(hlv d J L z).1];simp,(hlv d J L z).2⟩
        ·have:=h.tB b cs l d (ao2 J) L z;exact⟨by rw[this.1];rfl,this.2⟩)
      have:(s.app n o.dst (.store b off ds (.lit v) nf))=(s.bS b (some (cs.take off++(ds++cs.drop (off+ds.length)))) nf).put n o.dst (.lit v):=by
       simp[FSt.app,l,aF]
      rcases M with⟨M,rfl⟩|M
      ·rw[M,Oper.upon_skip]
       refine O _ _ ⟨β,X,?_⟩;rw[this];exact pn.put (.c (.p (.lit undef))) (fun L z=>by simp[D.refs]at z)
      ·rw[M,Oper.upon_value]
       refine O _ _ ⟨β,X,?_⟩;rw[this];exact pn.put (.c (.p (.lit v))) (fun L z=>by simp[D.refs]at z)
     |grow b cs d=>
      obtain⟨v,w',β',X',M,F,B,J⟩:=iM;simp only[fA,zIq,zJq]at y;obtain⟨rfl,rfl,rfl⟩:=y;rw[M,Oper.upon_value];refine O _ _ ⟨β',X',F.put (.c B) (fun L z=>?_)⟩
      rw[J,alI]at z;subst z;simp[FSt.bS]
     |call f args=>
      obtain⟨H,M,Y,T,xU⟩:=iM;by_cases hI:∃(fn:Func)(d:D)(blks':List (Option (List D)))(ns':List Nat),(R'=.inl blks' ns' d∨R'=.own d∧Oh blks blks' d=true)∧c.P.funcs[f]? =some fn∧iD c.P c.Good fn mx args blks ns d blks' ns'
      ·obtain⟨fn,d,blks',ns',hRR,hf,Jq⟩:=hI
       obtain⟨hbk,Ti,htn,hmx⟩:=Vv (by rcases hRR with rfl|⟨rfl,-⟩<;>rfl)
       have cM:∀b,(s.blk b).isSome=true→b<blks.length:=fun b l=>by
        rw[hbk b]at l;rcases alU b blks.length with h|h
        ·exact h
        ·rw[alD,alX h]at l;simp at l
       have hmt:∀t b,b∈(s.tmp t).refs→b<mx:=fun t b l=>hmx.elim (fun q=>q.2 t b l) fun q=>by rw[q];exact cM b (h.nd t b l)
       have hmg:∀p∈c.gh,∀b,b∈p.2.refs→b<mx:=fun p N b l=>hmx.elim (fun q=>ami (h.iY p N b l).1 q.1) fun q=>by rw[q];exact cM b (h.iY p N b l).2
       rw[M,Oper.upon_enter]
       let gh':List (Value×D):=((List.range n).map fun t=>(a.tmps.getD t undef,s.tmp t))++c.gh
       have hbs:(fun b=>blks.getD b none)=s.blk:=funext fun b=>(hbk b).symm
       have hnn:(fun b=>ns.contains b)=s.b_:=funext fun b=>(Ti b).symm
       have sZ:dk {c with gh:=gh',gb:=mx,rd:=none,dfs:=[]} 0 ⟨fun _=>.any,fun b=>blks.getD b none,fun b=>ns.contains b⟩ ⟨#[],[]⟩ w β X:=by
        rw[hbs,hnn];refine⟨rfl,rfl,fun t=>.c (.p (.any _)),fun t b l=>by simp[D.refs]at l,h.blk,h.tB,h.inj,h.F,h.vt,h.oE,⟨h.below.uJ,h.below.nc,h.below.sz⟩,fun p N=>?_,fun p N b l=>?_,?_⟩
        ·rcases amy.1 N with N|N
         ·obtain⟨t,_,rfl⟩:=ama.1 N;exact h.tmp t
         ·exact h.gh p N
        ·rcases amy.1 N with N|N
         ·obtain⟨t,_,rfl⟩:=ama.1 N;exact⟨hmt t b l,h.nd t b l⟩
         ·exact⟨hmg p N b l,(h.iY p N b l).2⟩
        ·exact⟨h.kp.obj,h.kp.x,h.kp.lt,h.kp.off⟩
       refine(Jq f hf {c with gh:=gh',gb:=mx,rd:=none,dfs:=[]} w β X H rfl rfl Z (alE _) rfl rfl sZ Y T (fun d J b l=>by rw[←hbk];exact xU d J b l)).mono fun e w' I=>?_
       obtain⟨v,β',X',rfl,F,B,J⟩:=I;rcases hRR with rfl|⟨rfl,akV⟩
       case inr=>
        obtain⟨hdr,D5⟩:=abb akV;have back:∀b cs,s.blk b=some cs→blks'.getD b none=some cs:=fun b cs l=>D5 b cs (by rw[←hbk];exact l)
        have u9:dk c n s a w' β' X':=by
         refine⟨h.defers,h.size,fun t=>?_,h.nd,fun b cs l=>F.blk b cs (back b cs l),h.tB,fun b L G V=>?_,F.F,F.vt,F.oE,⟨F.below.uJ,F.below.nc,F.below.sz⟩,fun p N=>F.gh p (anL _ N),h.iY,⟨F.kp.obj,F.kp.x,F.kp.lt,fun k C b l=>by
          obtain⟨c1,e1⟩:=alL.1 l;exact F.kp.off k C b (by show(blks'.getD b none).isSome=true;rw[back b c1 e1];rfl)⟩⟩
         ·by_cases ht:t<n
          ·exact F.gh (a.tmps.getD t undef,s.tmp t) (anw _ (ama.2 ⟨t,by simpa using ht,rfl⟩))
          ·rw[htn t (by omega)];exact .c (.p (.any _))
         ·obtain⟨c1,e1⟩:=alL.1 G
          obtain⟨c2,e2⟩:=alL.1 V;exact F.inj b L (by show(blks'.getD b none).isSome=true;rw[back b c1 e1];rfl) (by show(blks'.getD L none).isSome=true;rw[back L c2 e2];rfl)
        exact O _ _ ⟨β',X',u9.put B (fun L z=>by rw[hdr]at z;cases z)⟩
       have u9:dk c n ⟨s.tmp,fun b=>blks'.getD b none,fun b=>ns'.contains b⟩ a w' β' X':=by
        refine⟨h.defers,h.size,fun t=>?_,fun t b l=>?_,F.blk,F.tB,F.inj,F.F,F.vt,F.oE,⟨F.below.uJ,F.below.nc,F.below.sz⟩,fun p N=>F.gh p (anL _ N),fun p N b l=>?_,⟨F.kp.obj,F.kp.x,F.kp.lt,F.kp.off⟩⟩
        ·by_cases ht:t<n
         ·exact F.gh (a.tmps.getD t undef,s.tmp t) (anw _ (ama.2 ⟨t,by simpa using ht,rfl⟩))
         ·show cW β' w' X' _ (s.tmp t)
          rw[htn t (by omega)];exact .c (.p (.any _))
        ·by_cases ht:t<n
         ·exact(F.iY (a.tmps.getD t undef,s.tmp t) (anw _ (ama.2 ⟨t,by simpa using ht,rfl⟩)) b l).2
         ·have z:b∈(s.tmp t).refs:=l
          rw[htn t (by omega)]at z;simp[D.refs]at z
        ·exact⟨(h.iY p N b l).1,(F.iY p (anL _ N) b l).2⟩
       exact O _ _ ⟨β',X',u9.put B J⟩
      simp only[fA]at y;split at y
      ·rename_i g xs r zN S
       split at y
       ·split at y
        ·rename_i aag
         simp only[zIq,zJq]at y;obtain⟨rfl,rfl,rfl⟩:=y;have G:=U _ (alW ..);simp only[de.call.injEq]at G;obtain⟨rfl,rfl⟩:=G;rw[M,Oper.upon_enter];refine(zN w (fun k=>X k∧∀b cs,s.blk b=some cs→k≠β b) H (h.l7 hG Z) ⟨by simpa using Y,fun i G V=>?_⟩ (fun k C=>h.oE k C.1)).mono fun e w' I=>?_
         ·rw[amg]
          exact rX h (T i G (by simpa using V)) (fun k C=>C.1) (fun b cs l k C=>C.2 b cs l)
         ·obtain⟨v,rfl,B,l,_⟩:=I
          cases r<;>simp only[D.flat,Bool.false_eq_true]at aag
          cases B;exact O _ _ ⟨β,X,(h.grow l).put (.c (.p (.lit _))) (fun L z=>by simp[D.refs]at z)⟩
        ·cases y
       ·rename_i BQ
        have Xi:∀d∈args,d.refs=[]:=by
         intro d J;simp only[List.any_eq_true,not_exists,not_and,Bool.not_eq_true]at BQ;have:=BQ d J;simpa using this
        generalize hrw:Qn o.dst r S=q at y;obtain⟨d',tr4,ajR⟩:=q;simp only[zIq,zJq]at y;obtain⟨rfl,rfl,rfl⟩:=y;have G:=U _ (alW ..);simp only[de.call.injEq]at G;obtain⟨rfl,rfl⟩:=G;obtain rfl:=SN hrw (fun e he'=>U e (al_ _ he'))
        rw[M,Oper.upon_enter];refine(zN w X H (h.l7 hG Z) ⟨by simpa using Y,fun i G V=>?_⟩ h.oE).mono fun e w' I=>?_
        ·rw[amg]
         exact uR ((T i G (by simpa using V)).pure (Xi _ (al2 _)))
        ·obtain⟨v,rfl,B,l,_⟩:=I
         exact O _ _ ⟨β,X,(h.grow l).put (.c (.p B)) (fun L z=>by rw[ff B]at z;cases z)⟩
      ·rename_i g xs m cs zN S
       split at y
       ·cases y
       ·rename_i BQ
        have Xi:∀d∈args,d.refs=[]:=by
         intro d J;simp only[List.any_eq_true,not_exists,not_and,Bool.not_eq_true]at BQ;have:=BQ d J;simpa using this
        simp only[zIq,zJq]at y;obtain⟨rfl,rfl,rfl⟩:=y;have G:=U _ (alW ..);simp only[de.call.injEq]at G;obtain⟨rfl,rfl⟩:=G;rw[M,Oper.upon_enter];refine(zN w X H (h.l7 hG Z) ⟨by simpa using Y,fun i G V=>?_⟩ h.oE).mono fun e w' I=>?_
        ·rw[amg]
         exact uR ((T i G (by simpa using V)).pure (Xi _ (al2 _)))
        ·obtain⟨k,us,ty,rfl,hm1,C,hu,hle,hrr,l,_⟩:=I
         have K2:=h.aft l blks.length (hnb _ _ _ _ rfl) C hu hle hrr;refine O _ _ ⟨_,_,K2.put (v:=.slice (some ⟨k,0,none⟩) m m) ?_ (fun L z=>?_)⟩
         ·have:=cu.bz (β:=fun j=>if j=blks.length then k else β j) (w:=w') (X:=fun j=>X j∨j=k) blks.length 0 m m (alE _) hm1
          simp only[if_true]at this;exact .c this
         ·simp only[D.refs,List.mem_singleton]at z
          subst z;simp[FSt.bS]
      ·rename_i g xs r zN S
       simp only[zIq,zJq]at y;obtain⟨rfl,rfl,rfl⟩:=y;have G:=U _ (alW ..);simp only[de.call.injEq]at G;obtain⟨rfl,rfl⟩:=G;rw[M,Oper.upon_enter];exact(zN w H (h.l7 hG Z) ⟨by simpa using Y,fun i G V=>by
        rw[amg];exact rX h (T i G (by simpa using V)) (fun k C=>C.elim) (fun b cs l k C=>C.elim)⟩).mono fun e w' I=>by
         obtain⟨v,rfl,B,l,_⟩:=I;exact O _ _ ⟨β,X,(h.grow l).put (.c (.p (B.mono fun a u hu hx=>⟨hu,fun hX=>hx (h.oE _ hX)⟩))) (fun L z=>by rw[ff B]at z;cases z)⟩
      ·rename_i ro' g fn hf S
       split at y
       ·rename_i d blks' ns' tr4 ajR hi
        simp only[zIq,zJq]at y;obtain⟨rfl,rfl,rfl⟩:=y;have G:=U _ (alW ..);simp only[de.call.injEq,and_true]at G;subst G;exact apC ⟨_,_,_,_,.inl rfl,hf,nR _ _ _ _ _ _ _ _ _ _ _ _ hi fun e he'=>U e (al_ _ he')⟩ hI
       ·cases y
      ·rename_i A S
       have hid:∀{mZ qS},mY c.P inl A f args s.blk S=some (R',mZ,qS)→jI qS→Calls c.P f H.toArray w fun e w'=>∃v,e=.returned v∧K (a.put o.dst v) w':=fun h9 h8=>by
        obtain⟨fn,q2,⟨o1,q1,q4⟩|⟨b0,pw,d,q1,q4,q5,rfl,q6⟩⟩:=Ij nR h9 h8
        case inr=>
         refine(Rk h Z q2 q1 q4 q6 q5 Y T).mono fun e w' I=>?_
         obtain⟨v,rfl,l,B⟩:=I;exact⟨v,rfl,O _ _ ⟨β,X,l.put (.c (.p B)) (fun L z=>by rw[ff B]at z;cases z)⟩⟩
        obtain⟨r1,r2⟩:=Vr q1;rcases q4 with⟨d,blks',ns',rfl,Jq,rfl⟩|⟨b0,pw,r6,d,blks',ns',rfl,Jq,q5,q6,q8,q9⟩
        ·refine(Vq (o:=none) h Z q2 r1 r2 Jq rfl rfl Y T).mono fun e w' I=>?_
         obtain⟨v,rfl,l,B⟩:=I;exact⟨v,rfl,O _ _ ⟨β,X,l.put (.c (.p B)) (fun L z=>by rw[ff B]at z;cases z)⟩⟩
        ·obtain⟨qQ,hp0⟩:=r1 b0 pw rfl
         refine(GK h Z q2 qQ hp0 (fun x hx b l=>by
          obtain⟨cs,e⟩:=r2 x hx b l;simp only[zIq,zJq]at e;exact e.1.symm) (Jq.uG hp0 q5 q6 q8) (dS.2 rfl) q6 q8 Y T).mono fun e w' I=>?_
         obtain⟨v,rfl,l,B⟩:=I;refine⟨v,rfl,O _ _ ⟨β,X,?_⟩⟩;have e1:(s.app n o.dst R')=(s.bS b0 (some r6) false).put n o.dst d:=by
          rcases q9 with⟨rfl,rfl⟩|⟨q7,rfl⟩
          ·have e2:s.bS b0 (some r6) false=s:=by
            have g1:(fun k=>if k=b0 then some r6 else s.blk k)=s.blk:=funext fun k=>by
             by_cases C:k=b0
             ·rw[apB C,C,qQ]
             ·rw[apA C]
            have g2:(fun k=>s.b_ k||(false&&(k==b0)))=s.b_:=funext fun k=>by simp
            cases s;simp only[FSt.bS]at g1 g2⊢;rw[g1,g2]
           rw[e2];rfl
          ·have e2:aF pw 0 r6=r6:=by
            unfold aF;rw[am',anf,amv,q7,aoS,amX]
           simp only[FSt.app,qQ,Option.map_some,e2]
         rw[e1];exact l.put (.c (.p B)) (fun L z=>by rw[ff B]at z;cases z)
       have inn:∀{mZ qS},Ho c.P inl A mx f args blks ns S=some (R',mZ,qS)→jI qS→False:=fun h9 h8=>by
        obtain⟨fn,d,blks',ns',q1,q2,q3⟩:=oy h9;exact hI ⟨_,_,_,_,q3,q1,(yO q2 q1 h8).elim id fun q=>nR _ _ _ _ _ _ _ _ _ _ _ _ q h8⟩
       split at y
       ·split at y
        ·rename_i x hx
         simp only[zIq]at y;subst y;rw[M,Oper.upon_enter];exact(hid hx U).mono fun e w' I=>by obtain⟨v,rfl,C⟩:=I;exact C
        split at y
        ·rename_i r aab
         simp only[zIq,zJq]at y;obtain⟨rfl,rfl,rfl⟩:=y;rw[M,Oper.upon_enter];exact(A.okF _ _ _ aab w H (h.l7 hG Z) ⟨by simpa using Y,fun i G V=>by
          rw[amg];exact rX h (T i G (by simpa using V)) (fun k C=>C.elim) (fun b cs l k C=>C.elim)⟩).mono fun e w' I=>by
           obtain⟨v,rfl,B,l,_⟩:=I;exact O _ _ ⟨β,X,(h.grow l).put (.c (.p (B.mono fun a u hu hx=>⟨hu,fun hX=>hx (h.oE _ hX)⟩))) (fun L z=>by rw[ff B]at z;cases z)⟩
        split at y
        ·rename_i r trq eqq aab
         split at y
         ·rename_i aag
          simp only[zIq,zJq]at y;obtain⟨rfl,rfl,rfl⟩:=y;rw[M,Oper.upon_enter];refine(Hq aab U w (fun k=>X k∧∀b cs,s.blk b=some cs→k≠β b) H (h.l7 hG Z) ⟨by simpa using Y,fun i G V=>?_⟩ (fun k C=>h.oE k C.1)).mono fun e w' I=>?_
          ·rw[amg]
           exact rX h (T i G (by simpa using V)) (fun k C=>C.1) (fun b cs l k C=>C.2 b cs l)
          ·obtain⟨v,rfl,B,l,_⟩:=I
           cases r<;>simp only[D.flat,Bool.false_eq_true]at aag
           cases B;exact O _ _ ⟨β,X,(h.grow l).put (.c (.p (.lit _))) (fun L z=>by simp[D.refs]at z)⟩
         ·cases y
        ·exact(inn y U).elim
       ·rename_i BQ
        have Xi:∀d∈args,d.refs=[]:=by
         intro d J;simp only[List.any_eq_true,not_exists,not_and,Bool.not_eq_true]at BQ;have:=BQ d J;simpa using this
        split at y
        ·rename_i r trq eqq aab
         simp only[zIq,zJq]at y;obtain⟨rfl,rfl,rfl⟩:=y;rw[M,Oper.upon_enter];refine(Hq aab U w X H (h.l7 hG Z) ⟨by simpa using Y,fun i G V=>?_⟩ h.oE).mono fun e w' I=>?_
         ·rw[amg]
          exact uR ((T i G (by simpa using V)).pure (Xi _ (al2 _)))
         ·obtain⟨v,rfl,B,l,_⟩:=I
          exact O _ _ ⟨β,X,(h.grow l).put (.c (.p B)) (fun L z=>by rw[ff B]at z;cases z)⟩
        ·split at y
         ·rename_i x hx
          simp only[zIq]at y;subst y;rw[M,Oper.upon_enter];obtain⟨fn,d,blks',ns',q1,q2,q3⟩:=tj hx;obtain⟨b1,r6,d1,_,_,hRe,_⟩:=yI q3;exact(aae h Z q1 Xi ((yO q2 q1 U).elim id fun q=>nR _ _ _ _ _ _ _ _ _ _ _ _ q U) (hnb _ _ _ _ hRe) q3 Y T).mono fun e w' I=>by obtain⟨v,rfl,C⟩:=I;exact O _ _ C
         split at y
         ·rename_i x hx
          simp only[zIq]at y;subst y;rw[M,Oper.upon_enter];exact(hid hx U).mono fun e w' I=>by obtain⟨v,rfl,C⟩:=I;exact C
         ·exact(inn y U).elim
      ·cases y
    ·cases W
   ·cases W
  ·cases W
 ·rename_i hg
  rw[K3 _ hg];simp only[zIq,zJq]at W;obtain⟨rfl,rfl,rfl⟩:=W;exact O _ _ ⟨β,X,h.put (.c (.p (.lit undef))) (fun L z=>by simp[D.refs]at z)⟩
 ·cases W
theorem M0{inl:Inline P Good}{ops:Array Oper}{o:Oper}{ro:List Nat}{gb mx:Nat}{s:FSt}{blks:List (Option (List D))}{ns:List Nat}{d tr':List (Item P Good)}{R:Rec}{eqs:List (de×de)}
  (b:oP P inl ops o ro gb mx s blks ns d=some (R,tr',eqs)):(∀c,o.op≠.defer c)∨kS ops o s.tmp=some false:=by
 rw[uV]at b;split at b
 ·left
  intro c f;unfold Li at b;simp only[f]at b;cases b
 ·rename_i e;exact .inr e
 ·cases b
theorem gR{c:Ctx}{n:Nat}{s:FSt}{a:Act}{w:World}{inl:Inline P Good}(v:yo P Good inl)(y:c.P=P)(F:c.Good=Good)(A:aa Good)(C:c.Good c.w0){gb mx:Nat}(p:c.gb≤gb)(h:Rel c n s a w)
  {ops:Array Oper} {o:Oper} {ro:List Nat} {blks:List (Option (List D))} {ns:List Nat} {l tr':List (Item P Good)} {R:Rec} {eqs:List (de×de)}
  (j:oP P inl ops o ro gb mx s blks ns l=some (R,tr',eqs)) (x:jI eqs) (i:∀b cs d q,R=.new b cs d q→s.blk b=none)
  (E:R.inner=true→(∀b,s.blk b=blks.getD b none)∧(∀b,s.b_ b=ns.contains b)∧(∀t,n≤t→s.tmp t=.any)∧((c.gb≤mx∧∀t b,b∈(s.tmp t).refs→b<mx)∨mx=blks.length)) {Q:Exit→Act→World→Prop} {K:Act→World→Prop} {r:Option Nat}
  (z:∀k w',Rel c n (s.app n o.dst R) k w'→K k w'):
  if Region.wanted o (yielded ops a.tmps)then o.wpIn (Fw r) 0 P a w K Q else(∀f,o.about P w a.eval=some f→(Fw r).fn f)∧K (a.put o.dst undef) w:=by
 have e:=MZ v y F A C p h j x i E (Q:=Q) z;by_cases hw:Region.wanted o (yielded ops a.tmps)=true
 ·rw[apB hw]at e⊢
  refine aif ?_ e;rcases M0 j with g|g
  ·exact g
  ·obtain⟨β,X,B⟩:=h
   have:=GL B ops o _ g;rw[hw]at this;cases this
 ·rw[apA hw]at e⊢
  exact⟨fun f _=>trivial,e⟩
def vV(ns:List Nat)(f:D→D):Nat→List (Option (List D))→List (Option (List D))
 |_,[]=>[]
 |i,x::l=>(if ns.contains i then x.map (List.map f)else x)::vV ns f (i+1) l
theorem Ak(ns:List Nat)(f:D→D):∀(i:Nat)(l:List (Option (List D))),(vV ns f i l).length=l.length
 |_,[]=>rfl
 |i,x::l=>by simp[vV,Ak ns f (i+1) l]
theorem xO(ns:List Nat)(f:D→D):∀(i:Nat)(l:List (Option (List D)))(k:Nat),(vV ns f i l).getD k none=if ns.contains (i+k)then(l.getD k none).map (List.map f)else l.getD k none
 |i,[],k=>by simp[vV]
 |i,x::l,k=>by
  cases k with
  |zero=>simp[vV]
  |succ k=>
   have:=xO ns f (i+1) l k;simp only[vV,List.getD_cons_succ,this,Nat.add_assoc,Nat.add_comm 1 k]
def St.app(s:St)(dst:Option Tmp)(R:Rec):St:=
 let put (l:List D) (d:D):List D:=match dst with|some t=>l.set t d|none=>l
 match R with
 |.val d=>{s with tmps:=put s.tmps d}
 |.new _ cs d e=>{tmps:=put s.tmps d,blks:=s.blks++[some cs],b_:=if e then s.blks.length::s.b_ else s.b_}
 |.store b off g d e=>{tmps:=put s.tmps d,blks:=match s.blks.getD b none with|some cs=>s.blks.set b (some (aF cs off g))|none=>s.blks,b_:=if e then b::s.b_ else s.b_}
 |.grow b cs d=>{tmps:=put (s.tmps.map (D.clear b)) d,blks:=(vV s.b_ (D.clear b) 0 s.blks).set b (some cs),b_:=s.b_}
 |.own d=>{s with tmps:=put s.tmps d}
 |.inl blks f d=>{tmps:=put s.tmps d,blks:=blks,b_:=f}
theorem K5(l:List D)(t u:Nat)(d:D):(l.set t d).getD u .any=if some t=some u∧u<l.length then d else l.getD u .any:=by
 simp only[List.getD_eq_getElem?_getD,List.getElem?_set];by_cases h:t=u
 ·subst h
  by_cases b:t<l.length
  ·simp[b]
  ·simp[b]
 ·simp[h]
theorem vZ(l:List (Option (List D)))(b k:Nat)(x:Option (List D))(h:b<l.length):(l.set b x).getD k none=if k=b then x else l.getD k none:=by
 simp only[List.getD_eq_getElem?_getD,List.getElem?_set];by_cases d:k=b
 ·subst d;simp[h]
 ·rw[apA (anm d),apA d]
theorem Am{l:List (Option (List D))}{b:Nat}{cs:List D}(h:l.getD b none=some cs):b<l.length:=by
 rcases alU b l.length with d|d
 ·exact d
 ·rw[alD,alX d]at h;cases h
theorem M'(ns:List Nat)(b:Nat)(d:Bool):(fun k=>(if d then b::ns else ns).contains k)=fun k=>ns.contains k||(d&&(k==b)):=by
 funext k
 cases d with
 |true=>rw[am3];simp[or_comm]
 |false=>simp
theorem St.ahX(s:St)(dst:Option Tmp)(R:Rec)(o:∀b cs d h,R=.new b cs d h→b=s.blks.length)(j:∀b cs d,R=.grow b cs d→b<s.blks.length):
  (s.app dst R).fs=s.fs.app s.tmps.length dst R∧(s.app dst R).tmps.length=s.tmps.length:=by
 have f:∀(l:List D)(d:D),l.length=s.tmps.length→(fun t=>(match dst with|some t=>l.set t d|none=>l).getD t .any)=fun t=>if dst=some t∧t<s.tmps.length then d else l.getD t .any:=by
  intro l d i
  funext u
  cases dst with
  |none=>simp
  |some t=>rw[←i];exact K5 l t u d
 have hlen:∀(l:List D) d,l.length=s.tmps.length→(match dst with|some t=>l.set t d|none=>l).length=s.tmps.length:=by intro l d i;cases dst<;>simp[i]
 cases R with
 |val d=>exact⟨by simp only[St.app,St.fs,FSt.app,FSt.put,f s.tmps d rfl],hlen _ d rfl⟩
 |own d=>exact⟨by simp only[St.app,St.fs,FSt.app,FSt.put,f s.tmps d rfl],hlen _ d rfl⟩
 |inl blks r d=>exact⟨by simp only[St.app,St.fs,FSt.app,FSt.put,f s.tmps d rfl],hlen _ d rfl⟩
 |new b cs d h=>
  obtain rfl:=o b cs d h rfl;refine⟨?_,hlen _ d rfl⟩;simp only[St.app,St.fs,FSt.app,FSt.put,FSt.bS,f s.tmps d rfl,M'];congr 1
  funext k
  by_cases e:k=s.blks.length
  ·subst e;simp[List.getD_eq_getElem?_getD]
  ·rw[apA e]
   simp only[List.getD_eq_getElem?_getD];by_cases p:k<s.blks.length
   ·rw[amp p]
   ·rw[alX (by simp;omega),alX (by omega)]
 |grow b cs d=>
  have q:=j b cs d rfl;refine⟨?_,hlen _ d (by simp)⟩
  simp only[St.app,St.fs,FSt.app,FSt.put,FSt.bS,FSt.clear,f (s.tmps.map (D.clear b)) d (by simp),Bool.false_and,Bool.or_false]
  congr 1
  ·funext t
   split
   ·rfl
   ·simp only[List.getD_eq_getElem?_getD,List.getElem?_map]
    cases s.tmps[t]?with
    |none=>simp[D.clear,D.refs]
    |some x=>rfl
  ·funext k
   rw[vZ _ b k _ (by rw[Ak];exact q),xO,amv]
   by_cases e:k=b
   ·rw[apB e,apB e]
   ·rw[apA e,apA e];rfl
 |store b off v d h=>
  refine⟨?_,hlen _ _ rfl⟩;simp only[St.app,St.fs,FSt.app,FSt.put,FSt.bS,f s.tmps _ rfl,M'];congr 1
  funext k
  cases g:s.blks.getD b none with
  |none=>
   by_cases e:k=b
   ·rw[e,apB rfl,g];rfl
   ·rw[apA e]
  |some cs=>exact vZ s.blks b k _ (Am g)
def rk(o:Oper)(ρ:Operand→D):Option Nat:=
 match o.op with
 |.load _ x=>match ρ x with|.ptr b _=>some b|_=>none
 |.store _ x _=>match ρ x with|.ptr b _=>some b|_=>none
 |.call k=>match k.callee with
  |.value x=>(((match ρ x with|.fn _ xs _=>xs|_=>[])++k.args.toList.map ρ++(match ρ x with|.fn _ _ d=>d|_=>[])).flatMap D.refs).head?
  |.builtin .copy=>match k.args.toList.map ρ with|.bz b _ _ _::_=>some b|.cR b _ _::_=>some b|_=>none
  |.builtin .append=>match k.args.toList.map ρ with|.bz b _ _ _::_=>some b|.cR b _ _::_=>some b|_=>none
  |_=>none
 |_=>none
def kU(P:Program){Good:World→Prop}(inl:Inline P Good)(dr:Bool)(ops:Array Oper)(ro:List Nat)(gb:Nat):List Oper→St→List (Item P Good)→Option (St×List (Item P Good)×List (de×de)×List (Rec×Option Nat))
 |[],s,b=>some (s,b,[],[])
 |o::rest,s,b=>match oP P inl ops o ro gb (mxA dr gb s) s.fs s.blks s.b_ b with
  |some (R,d,e)=>match kU P inl dr ops ro gb rest (s.app o.dst R) d with
   |some (s',g,f,h)=>some (s',g,e++f,(R,rk o s.fs.ev)::h)
   |none=>none
  |none=>none
theorem ad8{o:Oper}{ρ:Operand→D}{blk:Nat→Option (List D)}{b_:Nat→Bool}{nb:Nat}{ro g:Bool}{gb b:Nat}{cs:List D}{d:D}{e:Bool}{f:HC}
  (h:Li P o ρ blk b_ nb ro gb g=some (.new b cs d e,f)):b=nb:=by
 unfold Li at h
 repeat' split at h
 all_goals first|(cases h;done)|(simp only[zIq,zJq,Eff.new.injEq]at h;exact h.1.1.symm)
theorem aa0{o:Oper}{ρ:Operand→D}{blk:Nat→Option (List D)}{b_:Nat→Bool}{nb:Nat}{ro f:Bool}{gb b:Nat}{cs:List D}{d:D}{e:HC}
  (h:Li P o ρ blk b_ nb ro gb f=some (.grow b cs d,e)):∃cs',blk b=some cs':=by
 unfold Li at h
 repeat' split at h
 all_goals first|(cases h;done)|(simp only[zIq,zJq,Eff.grow.injEq]at h;obtain⟨⟨rfl,-,-⟩,-⟩:=h;exact⟨_,by assumption⟩)
theorem pI{inl:Inline P Good}{ops:Array Oper}{o:Oper}{ro:List Nat}{gb mx:Nat}{s:FSt}{blks:List (Option (List D))}{ns:List Nat}{p tr':List (Item P Good)}{eqs:List (de×de)}{R:Rec}
  (h:oP P inl ops o ro gb mx s blks ns p=some (R,tr',eqs)):(∀b cs d i,R=.new b cs d i→b=blks.length)∧(∀b cs d,R=.grow b cs d→∃cs',s.blk b=some cs'):=by
 have no:∀{k:Rec},(∀b cs d i,k≠.new b cs d i)→(∀b cs d,k≠.grow b cs d)→(∀b cs d i,k=.new b cs d i→b=blks.length)∧(∀b cs d,k=.grow b cs d→∃cs',s.blk b=some cs'):=
  fun x v=>⟨fun b cs d i e=>apC e (x b cs d i),fun b cs d e=>apC e (v b cs d)⟩
 rw[uV]at h;split at h
 ·split at h
  ·rename_i E C l
   split at h
   ·split at h
    ·rename_i k F B g
     cases h;cases E with
     |val d=>simp only[fA,zIq,zJq]at g;obtain⟨rfl,-,-⟩:=g;exact no (by intros;simp) (by intros;simp)
     |new z cs' y t=>
      simp only[fA,zIq,zJq]at g;obtain⟨rfl,-,-⟩:=g;exact⟨(fun _ _ _ _ h=>by cases h;exact ad8 l),(fun _ _ _ h=>by cases h)⟩
     |store=>simp only[fA,zIq,zJq]at g;obtain⟨rfl,-,-⟩:=g;exact no (by intros;simp) (by intros;simp)
     |grow z cs' y=>
      simp only[fA,zIq,zJq]at g;obtain⟨rfl,-,-⟩:=g;exact⟨(fun _ _ _ _ h=>by cases h),(fun _ _ _ h=>by cases h;exact aa0 l)⟩
     |call f args=>
      simp only[fA]at g;split at g
      ·split at g
       ·split at g
        ·cases g;exact no (by intros;simp) (by intros;simp)
        ·cases g
       ·cases g;exact no (by intros;simp) (by intros;simp)
      ·split at g
       ·cases g
       ·cases g;exact⟨(fun _ _ _ _ h=>by cases h;rfl),(fun _ _ _ h=>by cases h)⟩
      ·cases g;exact no (by intros;simp) (by intros;simp)
      ·split at g
       ·cases g;exact no (by intros;simp) (by intros;simp)
       ·cases g
      ·split at g
       ·split at g
        ·rename_i j;simp only[zIq]at g;subst g;rcases qa j with⟨_,rfl⟩|⟨_,_,_,rfl⟩<;>exact no (by intros;simp) (by intros;simp)
        split at g
        ·cases g;exact no (by intros;simp) (by intros;simp)
        split at g
        ·split at g
         ·cases g;exact no (by intros;simp) (by intros;simp)
         ·cases g
        ·obtain⟨fn,d,blks',ns',r,q,rfl|⟨rfl,-⟩⟩:=oy g<;>exact no (by intros;simp) (by intros;simp)
       ·split at g
        ·cases g;exact no (by intros;simp) (by intros;simp)
        split at g
        ·rename_i j;simp only[zIq]at g;subst g;obtain⟨_,_,_,_,_,_,A⟩:=tj j;obtain⟨_,_,_,_,_,rfl,_⟩:=yI A;exact⟨(fun _ _ _ _ h=>by cases h;rfl),(fun _ _ _ h=>by cases h)⟩
        split at g
        ·rename_i j;simp only[zIq]at g;subst g;rcases qa j with⟨_,rfl⟩|⟨_,_,_,rfl⟩<;>exact no (by intros;simp) (by intros;simp)
        ·obtain⟨fn,d,blks',ns',r,q,rfl|⟨rfl,-⟩⟩:=oy g<;>exact no (by intros;simp) (by intros;simp)
      ·cases g
    ·cases h
   ·cases h
  ·cases h
 ·cases h;exact no (by intros;simp) (by intros;simp)
 ·cases h
theorem mA(s:St):s.fs.blk s.blks.length=none:=by simp[St.fs,List.getD_eq_getElem?_getD]
theorem uW{inl:Inline P Good}{ops:Array Oper}{o:Oper}{ro:List Nat}{gb mx:Nat}{s:St}{e tr':List (Item P Good)}{eqs:List (de×de)}{R:Rec}
  (h:oP P inl ops o ro gb mx s.fs s.blks s.b_ e=some (R,tr',eqs)):(s.app o.dst R).fs=s.fs.app s.tmps.length o.dst R∧(s.app o.dst R).tmps.length=s.tmps.length:=by
 obtain⟨j,i⟩:=pI h;exact s.ahX o.dst R j (fun b cs d g=>by obtain⟨cs',f⟩:=i b cs d g;exact Am f)
theorem vE(s:St):∀t,s.tmps.length≤t→s.fs.tmp t=.any:=fun t b=>by simp[St.fs,List.getD_eq_getElem?_getD,List.getElem?_eq_none b]
theorem A'{dr:Bool}{c:Ctx}{Q:Exit→Act→World→Prop}{inl:Inline P Good}(q:yo P Good inl)(r:c.P=P)(z:c.Good=Good)(t:aa Good)(v:c.Good c.w0){gb:Nat}(i:c.gb≤gb){ops:Array Oper}{ro:List Nat}:
  ∀(l:List Oper)(s s':St)(g tr':List (Item P Good))(eqs:List (de×de))(p:List (Rec×Option Nat))(a:Act)(w:World),
   kU P inl dr ops ro gb l s g=some (s',tr',eqs,p)→jI eqs→Rel c s.tmps.length s.fs a w→(∀f w',Rel c s.tmps.length s'.fs f w'→Q .normal f w')→wpListIn (Fw c.rd) 0 P ops Q l a w
 |[],s,s',g,tr',eqs,p,a,w,e,he,h,j=>by
  simp only[kU,zIq,zJq]at e;obtain⟨rfl,rfl,rfl,rfl⟩:=e;exact j a w h
 |o::rest,s,s',g,tr',eqs,p,a,w,e,he,h,j=>by
  simp only[kU]at e;split at e
  ·rename_i R H I k
   split at e
   ·rename_i s2 L J M D
    cases e;obtain⟨F,G⟩:=he.append;obtain⟨E,y⟩:=uW k;refine wpListIn_step fun K C=>?_
    refine gR q r z t v i h k F (fun b cs d A B=>by rw[(pI k).1 b cs d A B];exact mA s) (fun _=>⟨fun b=>rfl,fun b=>rfl,vE s,CV _ s i⟩) fun f w' x=>C _ _ ?_
    rw[←E,←y]at x;exact A' q r z t v i rest _ _ _ _ _ _ f w' D G x (by rw[y];exact j)
   ·cases e
  ·cases e
theorem pF{dr:Bool}{inl:Inline P Good}{ops:Array Oper}{ro:List Nat}{gb:Nat}:∀(l:List Oper)(s s':St)(d tr':List (Item P Good))(eqs:List (de×de))(e:List (Rec×Option Nat)),
   kU P inl dr ops ro gb l s d=some (s',tr',eqs,e)→s'.tmps.length=s.tmps.length
 |[],s,s',d,tr',eqs,e,b=>by
  simp only[kU,zIq,zJq]at b;obtain⟨rfl,rfl,rfl,rfl⟩:=b;rfl
 |o::rest,s,s',d,tr',eqs,e,b=>by
  simp only[kU]at b;split at b
  ·rename_i R h i g
   split at b
   ·rename_i s2 k j p f
    cases b;rw[pF rest _ _ _ _ _ _ f,(uW g).2]
   ·cases b
  ·cases b
end Lw
namespace Lw
open Go Go.RowKit
variable {P:Program} {Good:World→Prop}
theorem vU{ρ b:Operand→D}{l:List Operand}(h:∀x∈l,ρ x=b x):l.map ρ=l.map b:=amQ h
theorem DU{ρ b:Operand→D}{l:List (Nat×Operand)}(h:∀x∈l.map (·.2),ρ x=b x):(l.map fun p=>(p.1,ρ p.2))=l.map fun p=>(p.1,b p.2):=
 amQ fun p d=>by rw[h p.2 (anB d)]
theorem JF{o:Oper}{ρ p:Operand→D}{blk blk':Nat→Option (List D)}{b_ nst':Nat→Bool}{nb:Nat}{ro Y:Bool}{gb:Nat}(d:∀x∈o.op.operands.toList,ρ x=p x)
  (J:∀b,rk o ρ=some b→blk b=blk' b) (T:∀k b n sz rest,o.op=.call k→k.callee=.builtin .append→k.args.toList.map ρ=.cR b n sz::rest→b_ b=nst' b):
  Li P o ρ blk b_ nb ro gb Y=Li P o p blk' nst' nb ro gb Y:=by
 unfold Li;cases B:o.op<;>simp only[B,Op.operands]at d<;>try dsimp only
 case move x=>rw[d x (by simp)]
 case assign x=>rw[d x (by simp)]
 case pick k x y=>rw[d k (by simp),d x (by simp),d y (by simp)]
 case box t x=>rw[d x (by simp)]
 case build t parts=>rw[DU (by simpa using d)]
 case buildSlice t len parts=>rw[DU (by simpa using d)]
 case load t x=>
  have j:=d x (by simp)
  rw[←j];cases F:ρ x with
  |ptr b g=>have e:=J b (by simp[rk,B,F]);simp only[e]
  |_=>rfl
 case store t x y=>
  have j:=d x (by simp)
  rw[←j,←d y (by simp)]
  cases F:ρ x with
  |ptr b g=>
   have e:=J b (by simp[rk,B,F])
   cases(ρ y).cells with
   |none=>rfl
   |some ds=>cases cC P t with
    |none=>rfl
    |some sz=>simp only[e]
  |_=>rfl
 case binOp op t x y u=>rw[d x (by simp),d y (by simp)]
 case nilCheck x=>rw[d x (by simp)]
 case makeFunc fn first V=>
  have M:first.toList.map ρ=first.toList.map p:=vU fun x j=>d x (by simp;exact .inl (by simpa using j))
  have h2:V.toList.map ρ=V.toList.map p:=vU fun x j=>d x (by simp;exact .inr (by simpa using j))
  rw[M,h2]
 case unOp op t x=>rw[d x (by simp)]
 case convert t u x=>rw[d x (by simp)]
 case makeInterface t x=>rw[d x (by simp)]
 case typeAssert x t u ok=>rw[d x (by simp)]
 case fieldAddr t x f=>rw[d x (by simp)]
 case field t x f=>rw[d x (by simp)]
 case indexAddr t x S=>rw[d x (by simp),d S (by simp)]
 case index t x S=>rw[d x (by simp),d S (by simp)]
 case extract x i=>rw[d x (by simp)]
 case makeSlice t l k=>rw[d l (by simp),d k (by simp)]
 case slice t x Q I Z=>
  cases Z with
  |some m=>rfl
  |none=>
   have j:=d x (by simp)
   cases Q with
   |none=>cases I with
    |none=>simp only[j]
    |some I=>have M:=d I (by simp);simp only[j,M]
   |some Q=>
    have W:=d Q (by simp)
    cases I with
    |none=>simp only[j,W]
    |some I=>have M:=d I (by simp);simp only[j,W,M]
 case call k=>
  simp only[Call.operands]at d;have L:k.args.toList.map ρ=k.args.toList.map p:=vU fun x j=>d x (by simp;exact .inr (by simpa using j))
  have N:=fun b n sz rest=>T k b n sz rest B
  rw[L]at N⊢;cases H:k.callee with
  |value f=>have:=d f (by simp[H]);simp only[this]
  |invoke r m=>rfl
  |builtin b=>
   cases b<;>try rfl
   case copy=>
    have q:∀b g len h rest,k.args.toList.map p=.bz b g len h::rest→blk b=blk' b:=fun b g len h rest G=>J b (by
     simp only[rk,B,H,L,G])
    have A:∀b len O rest,k.args.toList.map p=.cR b len O::rest→blk b=blk' b:=fun b len O rest G=>J b (by
     simp only[rk,B,H,L,G])
    generalize k.args.toList.map p=l at q A
    match l,q,A with
    |[],_,_=>rfl
    |[x],_,_=>cases x<;>rfl
    |x::y::z::r,_,_=>cases x<;>cases y<;>rfl
    |[x,y],q,A=>
     cases x<;>try rfl
     case cR b len O=>
      have e:=A b len O [y] rfl;cases y<;>try rfl
      case row m f U=>
       generalize k.argTypes.toList=K
       match K with
       |[]=>rfl
       |[t]=>rfl
       |[t,E]=>simp only[e]
       |t::E::C::r=>rfl
     case bz b g len h=>
      have e:=q b g len h [y] rfl;cases y<;>try rfl
      case row m f U=>
       generalize k.argTypes.toList=K
       match K with
       |[]=>rfl
       |[t]=>rfl
       |[t,E]=>simp only[e]
       |t::E::C::r=>rfl
   case append=>
    have v:=fun b n sz rest=>N b n sz rest H
    have q:∀b g len h rest,k.args.toList.map p=.bz b g len h::rest→blk b=blk' b:=fun b g len h rest G=>J b (by
     simp only[rk,B,H,L,G])
    have A:∀b n sz rest,k.args.toList.map p=.cR b n sz::rest→blk b=blk' b:=fun b n sz rest G=>J b (by
     simp only[rk,B,H,L,G])
    generalize k.args.toList.map p=l at v q A;generalize k.argTypes.toList=K
    match l,K,v,q,A with
    |[],_,_,_,_=>rfl
    |[x],_,_,_,_=>rfl
    |[x,y],[],_,_,_=>cases y<;>rfl
    |[x,y],[t],_,_,_=>cases y<;>rfl
    |[x,y],t::E::C::r,_,_,_=>cases y<;>rfl
    |[x,y],[t,E],v,q,A=>
     cases y<;>try rfl
     case row m f U=>
      cases x with
      |cR b n sz=>
       have e:=A b n sz _ rfl;have e2:=v b n sz _ rfl;simp only[e,e2]
      |row _ full _=>cases full<;>rfl
      |bz b g n h=>have e:=q b g n h _ rfl;simp only[e]
      |_=>rfl
    |x::y::z::r,[],_,_,_=>cases y<;>rfl
    |x::y::z::r,[t],_,_,_=>cases y<;>rfl
    |x::y::z::r,[t,E],_,_,_=>cases y<;>rfl
    |x::y::z::r,t::E::C::r',_,_,_=>cases y<;>rfl
theorem guard_congr{ops:Array Oper}{o:Oper}{tmp b:Nat→D}(h:∀j want t,o.guard=some (j,want)→(ops[j]?).bind (·.dst)=some t→tmp t=b t):
  kS ops o tmp=kS ops o b:=by
 unfold kS;split
 ·rfl
 ·rename_i j want e
  split
  ·rename_i t d
   rw[h j want t e d]
  ·rfl
theorem GY{o:Oper}{ρ f:Operand→D}{blk blk':Nat→Option (List D)}{b_ nst':Nat→Bool}{nb:Nat}{ro l:Bool}{gb:Nat}{E:Eff}{i:HC}(p:∀x∈o.op.operands.toList,ρ x=f x)
  (y:∀b,rk o ρ=some b→blk b=blk' b) (h:Li P o ρ blk b_ nb ro gb l=some (E,i)) (j:∀b cs d,E≠.grow b cs d):Li P o f blk' nst' nb ro gb l=some (E,i):=by
 rw[←h];refine(JF p y fun k b n sz g r v t=>False.elim ?_).symm
 unfold Li at h;simp only[r,v,t]at h
 repeat' split at h
 all_goals first|(cases h;done)|skip
 all_goals (rename_i q _;first|(simp only[zIq,zJq]at h;exact j _ _ _ h.1.symm)|(simp at q;done)|skip)
 all_goals first|(simp only[zIq,zJq]at h;exact j _ _ _ h.1.symm)|skip
 all_goals first|(rename_i e _ _ _;simp at e;done)|(simp_all;done)
theorem RD{o:Oper}{ρ d:Operand→D}{blk blk':Nat→Option (List D)}{b_ nst':Nat→Bool}{nb:Nat}{ro e:Bool}{gb:Nat}(f:∀x∈o.op.operands.toList,ρ x=d x)
  (h:∀b,rk o ρ=some b→blk b=blk' b) (g:b_=nst'):Li P o ρ blk b_ nb ro gb e=Li P o d blk' nst' nb ro gb e:=
 JF f h fun _ b _ _ _ _ _ _=>by rw[g]
theorem Lh{o:Oper}{ρ:Operand→D}{blk:Nat→Option (List D)}{b_:Nat→Bool}{nb:Nat}{ro p:Bool}{gb:Nat}{f:FuncId}{args:List D}{g:HC}(h:Li P o ρ blk b_ nb ro gb p=some (.call f args,g))
  {b:Nat} {l:List Nat} (e:args.flatMap D.refs=b::l):rk o ρ=some b:=by
 unfold Li at h
 repeat' split at h
 all_goals first|(cases h;done)|skip
 all_goals (simp only[zIq,zJq,Eff.call.injEq]at h)
 rename_i k q _ x i _ t first r j
 obtain⟨⟨rfl,rfl⟩,-⟩:=h;obtain⟨d,-⟩:=wX j;unfold rk;simp only[q,i];rcases d with⟨d,rfl,rfl⟩|d
 ·rw[d]
  simp only[List.nil_append,List.append_nil]at e⊢;rw[e];rfl
 ·rw[d]
  simp only at e⊢;rw[am7,e];rfl
theorem DV{inl:Inline P Good}{ops:Array Oper}{o:Oper}{ro:List Nat}{gb mx:Nat}{s s':FSt}{blks:List (Option (List D))}{ns:List Nat}{r tr':List (Item P Good)}{R:Rec}{eqs:List (de×de)}
  (M:∀j want t,o.guard=some (j,want)→(ops[j]?).bind (·.dst)=some t→s.tmp t=s'.tmp t)
  (I:∀x∈o.op.operands.toList,s.ev x=s'.ev x) (z:∀b,rk o s.ev=some b→s.blk b=s'.blk b)
  (h:oP P inl ops o ro gb mx s blks ns r=some (R,tr',eqs)) (g:R.plain=true):oP P inl ops o ro gb mx s' blks ns r=some (R,tr',eqs):=by
 rw[uV]at h⊢;rw[←guard_congr M];split at h
 ·rename_i L
  split at h
  ·rename_i E T B
   split at h
   ·rename_i C O J
    split at h
    ·rename_i N H F e
     simp only[zIq,zJq]at h;obtain⟨rfl,rfl,rfl⟩:=h;have q:fA inl mx s'.blk s'.b_ blks ns o.dst E C=some (N,H,F):=by
      cases E with
      |call f args=>
       simp only[fA]at e⊢;split at e
       ·split at e
        ·split at e
         ·cases e;cases g
         ·cases e
        ·rename_i i;rw[apA i];exact e
       ·exact e
       ·cases e;cases g
       ·split at e
        ·cases e;cases g
        ·cases e
       ·rename_i A k
        have y:=Hp (inl:=inl) (A:=A) (f:=f) (args:=args) (tr':=k) (blk:=s.blk) (blk':=s'.blk) fun b l K=>z b (Lh B K)
        split at e
        ·rename_i i
         rw[apB i];split at e
         ·rename_i x v
          rw[y]at v;rw[v];exact e
         split at e
         ·cases e;cases g
         split at e
         ·split at e
          ·cases e;cases g
          ·cases e
         ·obtain⟨fn,d,blks',ns',S,Q,rfl|⟨rfl,-⟩⟩:=oy e<;>cases g
        ·rename_i i
         rw[apA i,←y];exact e
       ·cases e
      |val d=>exact e
      |new b cs d G=>exact e
      |store b off U d G=>exact e
      |grow b cs d=>exact e
     have p:∀b cs d,E≠.grow b cs d:=by
      rintro b cs d rfl
      simp only[fA,zIq,zJq]at e;obtain⟨rfl,-,-⟩:=e;cases g
     simp only[GY I z B p,J,q]
    ·cases h
   ·cases h
  ·cases h
 ·exact h
 ·cases h
def Rec.isVal:Rec→Bool
 |.val _=>true
 |.new _ _ _ _=>false
 |.store _ _ _ _ _=>false
 |.grow _ _ _=>false
 |.own _=>true
 |.inl _ _ _=>false
theorem KC{inl:Inline P Good}{ops:Array Oper}{o:Oper}{ro:List Nat}{gb mx:Nat}{s s':FSt}{blks:List (Option (List D))}{ns:List Nat}{i tr':List (Item P Good)}{R:Rec}{eqs:List (de×de)}
  (q:∀j want t,o.guard=some (j,want)→(ops[j]?).bind (·.dst)=some t→s.tmp t=s'.tmp t)
  (l:∀x∈o.op.operands.toList,s.ev x=s'.ev x) (k:s.blk=s'.blk) (y:s.b_=s'.b_)
  (h:oP P inl ops o ro gb mx s blks ns i=some (R,tr',eqs)) (r:R.isVal=true):oP P inl ops o ro gb mx s' blks ns i=some (R,tr',eqs):=by
 rw[uV]at h⊢;rw[←guard_congr q];split at h
 ·split at h
  ·rename_i E C v
   split at h
   ·rename_i z A p
    split at h
    ·rename_i G F B e
     simp only[zIq,zJq]at h;obtain⟨rfl,rfl,rfl⟩:=h;have f:∀b cs d,E≠.grow b cs d:=by
      rintro b cs d rfl
      simp only[fA,zIq,zJq]at e;obtain⟨rfl,-,-⟩:=e;cases r
     have g:=GY (nst':=s'.b_) l (fun b _=>congrFun k b) v f
     rw[k,y]at e;simp only[g,p,e]
    ·cases h
   ·cases h
  ·cases h
 ·exact h
 ·cases h
theorem KD{inl:Inline P Good}{ops:Array Oper}{o:Oper}{ro:List Nat}{gb mx:Nat}{s s':FSt}{blks:List (Option (List D))}{ns:List Nat}{l tr':List (Item P Good)}{b:Nat}{cs:List D}{d:D}{eqs:List (de×de)}
  (i:∀j want t,o.guard=some (j,want)→(ops[j]?).bind (·.dst)=some t→s.tmp t=s'.tmp t)
  (y:∀x∈o.op.operands.toList,s.ev x=s'.ev x) (A:∀b,rk o s.ev=some b→s.blk b=s'.blk b) (F:s.b_=s'.b_)
  (h:oP P inl ops o ro gb mx s blks ns l=some (.grow b cs d,tr',eqs)):oP P inl ops o ro gb mx s' blks ns l=some (.grow b cs d,tr',eqs):=by
 rw[uV]at h⊢;rw[←guard_congr i];split at h
 ·split at h
  ·rename_i E M p
   split at h
   ·rename_i r G z
    split at h
    ·rename_i S N I e
     simp only[zIq,zJq]at h;obtain⟨rfl,rfl,rfl⟩:=h;rw[RD y A F]at p;have i:∃b cs d,E=.grow b cs d:=by
      cases E with
      |grow b cs d=>exact⟨b,cs,d,rfl⟩
      |val k=>
       simp only[fA]at e;generalize Qn o.dst k r=q at e;obtain⟨L,K,J⟩:=q;cases e
      |new B cs' k v=>simp only[fA]at e;cases e
      |store B off O k v=>simp only[fA]at e;cases e
      |call f args=>
       exfalso;simp only[fA]at e;split at e
       ·split at e
        ·split at e
         ·cases e
         ·cases e
        ·cases e
       ·split at e
        ·cases e
        ·cases e
       ·cases e
       ·split at e
        ·cases e
        ·cases e
       ·split at e
        ·split at e
         ·rename_i g;simp only[zIq]at e;subst e;rcases qa g with⟨_,q⟩|⟨_,_,_,q⟩<;>cases q
         split at e
         ·cases e
         split at e
         ·split at e
          ·cases e
          ·cases e
         ·obtain⟨_,_,_,_,_,_,q|⟨q,-⟩⟩:=oy e<;>cases q
        ·split at e
         ·cases e
         split at e
         ·rename_i g;simp only[zIq]at e;subst e;obtain⟨_,_,_,_,_,_,C⟩:=tj g;obtain⟨_,_,_,_,_,q,_⟩:=yI C;cases q
         split at e
         ·rename_i g;simp only[zIq]at e;subst e;rcases qa g with⟨_,q⟩|⟨_,_,_,q⟩<;>cases q
         ·obtain⟨_,_,_,_,_,_,q|⟨q,-⟩⟩:=oy e<;>cases q
       ·cases e
     obtain⟨Q,H,d1,rfl⟩:=i;simp only[fA]at e;simp only[p,z,fA,e]
    ·cases h
   ·cases h
  ·cases h
 ·simp only[zIq,zJq]at h;cases h.1
 ·cases h
def dK(o:Oper):List Nat:=(o.after.toList.filter fun e=>Region.binds .any e).map (·.on)
def TP(acc:List Nat)(ds:List Nat):Nat:=ds.foldl (fun s d=>s|||(2^d|||acc.getD d 0)) 0
def Ik:List Oper→List Nat→List Nat
 |[],acc=>acc
 |o::rest,acc=>Ik rest (acc++[TP acc (dK o)])
theorem JV(acc:List Nat):∀(ds:List Nat)(z k:Nat),(ds.foldl (fun s d=>s|||(2^d|||acc.getD d 0)) z).testBit k=true→z.testBit k=true∨∃d∈ds,k=d∨(acc.getD d 0).testBit k=true
 |[],z,k,h=>.inl h
 |d::ds,z,k,h=>by
  rcases JV acc ds _ k h with b|⟨e,he,f⟩
  ·rw[Nat.testBit_or,Nat.testBit_or,amo,amo]at b
   rcases b with b|b|b
   ·exact .inl b
   ·rw[Nat.testBit_two_pow]at b
    exact .inr ⟨d,by simp,.inl (by simpa using b:d=k).symm⟩
   ·exact .inr ⟨d,by simp,.inr b⟩
  ·exact .inr ⟨e,by simp[he],f⟩
def aca(l:List Oper)(acc:List Nat):Prop:=
 acc.length≤l.length∧∀i(h:i<acc.length)(b:i<l.length) k,(acc.getD i 0).testBit k=true→∃d∈dK l[i],k=d∨(d<i∧(acc.getD d 0).testBit k=true)
theorem E_(l:List Oper):∀(rest:List Oper)(pre:List Oper)(acc:List Nat),l=pre++rest→acc.length=pre.length→aca l acc→(∀i(h:i<l.length),∀d∈dK l[i],d<i)→
  aca l (Ik rest acc)∧(Ik rest acc).length=l.length
 |[],pre,acc,f,hlen,p,_=>⟨p,by rw[f];simpa [Ik]using hlen⟩
 |o::rest,pre,acc,f,hlen,p,q=>by
  have v:acc.length<l.length:=by rw[f,hlen];simp
  have r:l[acc.length]=o:=by simp[f,hlen]
  refine E_ l rest (pre++[o]) _ (by rw[f];simp) (by simp[hlen]) ⟨by simp;omega,fun i h z k j=>?_⟩ q
  have get:∀d,d<acc.length→(acc++[TP acc (dK o)]).getD d 0=acc.getD d 0:=fun d e=>by simp[List.getD_eq_getElem?_getD,List.getElem?_append_left e]
  by_cases t:i<acc.length
  ·rw[get i t]at j
   obtain⟨d,e,b⟩:=p.2 i t z k j;refine⟨d,e,?_⟩;rcases b with b|⟨b,y⟩
   ·exact .inl b
   ·exact .inr ⟨b,by rw[get d (by omega)];exact y⟩
  ·have:i=acc.length:=by simp at h;omega
   subst this;have x:(acc++[TP acc (dK o)]).getD acc.length 0=TP acc (dK o):=by simp[List.getD_eq_getElem?_getD]
   rw[x]at j;rcases JV acc _ 0 k j with b|⟨d,e,b⟩
   ·simp at b
   ·rw[r]
    refine⟨d,e,?_⟩;rcases b with b|b
    ·exact .inl b
    ·have g:=q acc.length v d (by rw[r];exact e)
     exact .inr ⟨g,by rw[get d g];exact b⟩
theorem AM{l:List Oper}{acc:List Nat}(q:aca l acc)(f:acc.length=l.length){L:Nat→Bool}(o:∀j(h:j<l.length),L j=true→∀d∈dK l[j],L d=true):∀i(h:i<l.length),(∀d∈dK l[i],L d=true)→∀k,(acc.getD i 0).testBit k=true→L k=true:=by
 intro i;induction i using Nat.strongRecOn with
 |_ i p=>
  intro h e k r;obtain⟨d,g,b⟩:=q.2 i (by omega) h k r
  rcases b with b|⟨b,t⟩
  ·rw[b];exact e d g
  ·exact p d b (by omega) (o d (by omega) (e d g)) k t
def Rec.dx:Rec→Nat→Bool
 |.new d _ _ _,b=>d==b
 |.val _,_=>false
 |.store _ _ _ _ _,_=>false
 |.grow _ _ _,_=>false
 |.own _,_=>false
 |.inl _ _ _,_=>false
def Rec.cZ:Rec→Nat→Bool
 |.store d _ _ _ _,b=>d==b
 |.val _,_=>false
 |.new _ _ _ _,_=>false
 |.grow _ _ _,_=>false
 |.own _,_=>false
 |.inl _ _ _,_=>false
def Rec.Zt:Rec→Nat→Bool
 |.new e _ _ d,b=>d&&(b==e)
 |.store e _ _ _ d,b=>d&&(b==e)
 |_,_=>false
def Rec.cs:Rec→List D
 |.new _ cs _ _=>cs
 |_=>[]
def Rec.stored:Rec→List D→List D
 |.store _ off ds _ _,cs=>aF cs off ds
 |_,cs=>cs
def sL(s0:FSt)(n m:Nat)(dst:Nat→Option Tmp)(R:Nat→Rec)(L:Nat→Bool):FSt where
 tmp:=fun t=>match(List.range m).find? (fun j=>L j&&(dst j==some t&&Nat.blt t n))with
  |some j=>(R j).put
  |none=>s0.tmp t
 blk:=fun b=>
  let base:=match(List.range m).find? (fun j=>L j&&(R j).dx b)with
   |some j=>some (R j).cs
   |none=>s0.blk b
  (List.range m).foldl (fun c j=>if L j&&(R j).cZ b then c.map (R j).stored else c) base
 b_:=fun b=>s0.b_ b||(List.range m).any fun j=>L j&&(R j).Zt b
theorem abL{m i:Nat}{L p:Nat→Bool}(f:i<m):((List.range m).any fun j=>(L j||j==i)&&p j)=(((List.range m).any fun j=>L j&&p j)||p i):=by
 rw[am3,amo,am5,am5];constructor
 ·rintro⟨j,d,h⟩
  rw[zLq,amo]at h;rcases h with⟨b|b,e⟩
  ·exact .inl ⟨j,d,by rw[b,e];rfl⟩
  ·rw[beq_iff_eq]at b;subst b;exact .inr e
 ·rintro(⟨j,d,h⟩|h)
  ·rw[zLq]at h
   exact⟨j,d,by rw[h.1,h.2];rfl⟩
  ·exact⟨i,by simpa using f,by rw[h];simp⟩
theorem any_congr{m:Nat}{p q:Nat→Bool}(h:∀j,j<m→p j=q j):(List.range m).any p=(List.range m).any q:=by
 rw[am3,am5,am5];constructor
 ·rintro⟨j,b,e⟩;exact⟨j,b,by rw[←h j (by simpa using b)];exact e⟩
 ·rintro⟨j,b,e⟩;exact⟨j,b,by rw[h j (by simpa using b)];exact e⟩
theorem C'{m:Nat}{p:Nat→Bool}{i:Nat}(d:i<m)(b:p i=true)(hu:∀j,j<m→p j=true→j=i):(List.range m).find? p=some i:=by
 cases h:(List.range m).find? p with
 |none=>
  have:=aom.1 h i (by simpa using d)
  exact apC b this
 |some j=>
  have f:=anN h;have e:=aon h;rw[hu j (by simpa using f) e]
theorem yY{m:Nat}{p:Nat→Bool}(h:∀j,j<m→p j=false):(List.range m).find? p=none:=by
 rw[aom];intro x b;rw[h x (by simpa using b)];simp
theorem find_congr{m:Nat}{p q:Nat→Bool}(h:∀j,j<m→p j=q j):(List.range m).find? p=(List.range m).find? q:=by
 have:∀l:List Nat,(∀j∈l,p j=q j)→l.find? p=l.find? q:=by
  intro l d;induction l with
  |nil=>rfl
  |cons x l e=>simp only[List.find?_cons,d x (by simp),e (fun j b=>d j (by simp[b]))]
 exact this _ fun j b=>h j (by simpa using b)
theorem fold_congr{α:Type}{m:Nat}{p q:Nat→Bool}{f:Nat→α→α}{x:α}(h:∀j,j<m→p j=q j):
  (List.range m).foldl (fun c j=>if p j then f j c else c) x=(List.range m).foldl (fun c j=>if q j then f j c else c) x:=by
 induction m with
 |zero=>rfl
 |succ m b=>
  rw[ang,am9,am9,b fun j d=>h j (by omega)]
  simp only[List.foldl_cons,List.foldl_nil,h m (by omega)]
theorem JB{α:Type}{m:Nat}{p:Nat→Bool}{f:Nat→α→α}{x:α}(h:∀j,j<m→p j=false):(List.range m).foldl (fun c j=>if p j then f j c else c) x=x:=by
 induction m with
 |zero=>rfl
 |succ m b=>
  rw[ang,am9,b fun j d=>h j (by omega)]
  simp only[List.foldl_cons,List.foldl_nil,h m (by omega)]
  rfl
theorem VG{α:Type}{m i:Nat}{p q:Nat→Bool}{f:Nat→α→α}{x:α}(v:i<m)(o:p i=false)(g:∀j,j<m→p j=true→j<i)(b:∀j,q j=(p j||j==i)):
  (List.range m).foldl (fun c j=>if q j then f j c else c) x=f i ((List.range m).foldl (fun c j=>if p j then f j c else c) x):=by
 induction m with
 |zero=>omega
 |succ m l=>
  rw[ang,am9,am9];simp only[List.foldl_cons,List.foldl_nil];rcases alU i m with h|h
  ·rw[l h fun j r d=>g j (by omega) d]
   have k:p m=false:=by
    cases t:p m with
    |false=>rfl
    |true=>have:=g m (by omega) t;omega
   have e:q m=false:=by
    rw[b,k];have:(m==i)=false:=by rw[beq_eq_false_iff_ne];omega
    rw[this];rfl
   rw[k,e];rfl
  ·have:i=m:=by omega
   subst this;have e:q i=true:=by rw[b];simp
   rw[e,o];have:(List.range i).foldl (fun c j=>if q j then f j c else c) x=(List.range i).foldl (fun c j=>if p j then f j c else c) x:=fold_congr fun j r=>by
    rw[b];have:(j==i)=false:=by rw[beq_eq_false_iff_ne];omega
    rw[this,Bool.or_false]
   rw[this];rfl
theorem La{m:Nat}{p:Nat→Bool}{f:Nat→List D→List D}:(List.range m).foldl (fun c j=>if p j then Option.map (f j) c else c) none=none:=by
 induction m with
 |zero=>rfl
 |succ m b=>
  rw[ang,am9,b];simp only[List.foldl_cons,List.foldl_nil,Option.map_none];split<;>rfl
structure HI(s0:FSt)(m:Nat)(dst:Nat→Option Tmp)(reads:Nat→Tmp→Bool)(R:Nat→Rec)(acc:Nat→Option Nat)(jE:Nat→Nat→Bool):Prop where
 WD:∀i j t,i<m→j<m→dst i=some t→dst j=some t→i=j
 ahL:∀i j b,i<m→j<m→(R i).cZ b=true→(R j).cZ b=true→i=j∨(jE i j=true∧j<i)∨(jE j i=true∧i<j)
 ael:∀i j b,i<m→j<m→(R i).dx b=true→(R j).dx b=true→i=j
 ahM:∀i b,i<m→(R i).dx b=true→s0.blk b=none
 Hc:∀i j t,i<m→j<m→reads i t=true→dst j=some t→j=i∨jE i j=true∨jE j i=true
 aek:∀i j b,i<m→j<m→acc i=some b→(R j).cZ b=true→j=i∨jE i j=true∨jE j i=true
 afq:∀i j b,i<m→j<m→acc i=some b→(R j).dx b=true→jE i j=true
 alp:∀i b,i<m→(R i).cZ b=true→acc i=some b
 He:∀i,i<m→(R i).plain=true
section step
variable {s0:FSt} {n m:Nat} {dst:Nat→Option Tmp} {reads:Nat→Tmp→Bool} {R:Nat→Rec} {acc:Nat→Option Nat} {jE:Nat→Nat→Bool}
theorem X6(ok:HI s0 m dst reads R acc jE){L:Nat→Bool}{i:Nat}(r:i<m)(D:L i=false)(N:∀j,j<m→L j=true→∀k,jE j k=true→L k=true):
  (sL s0 n m dst R L).app n (dst i) (R i)=sL s0 n m dst R (fun j=>L j||j==i):=by
 have K:∀t,(sL s0 n m dst R (fun j=>L j||j==i)).tmp t=if dst i=some t∧t<n then(R i).put else(sL s0 n m dst R L).tmp t:=by
  intro t;simp only[sL];by_cases B:dst i=some t∧t<n
  ·have F:(List.range m).find? (fun j=>(L j||j==i)&&(dst j==some t&&Nat.blt t n))=some i:=C' r (by simp[B.1,B.2]) (fun j l o=>by
    simp only[zLq,beq_iff_eq]at o;exact(ok.WD i j t r l B.1 o.2.1).symm)
   rw[apB B,F]
  ·rw[apA B]
   congr 1
   refine find_congr fun j l=>?_
   by_cases h:j=i
   ·subst h
    have:(dst j==some t&&Nat.blt t n)=false:=by
     rw[Bool.and_eq_false_iff];by_cases C:dst j=some t
     ·right
      have y:¬t<n:=fun y=>B ⟨C,y⟩
      cases v:Nat.blt t n with
      |false=>rfl
      |true=>rw[al6]at v;exact apC v y
     ·left;simpa using C
    rw[this];simp
   ·have x:(j==i)=false:=by simpa using h
    simp only[x,Bool.or_false]
 have M:∀b,(R i).dx b=false→(R i).cZ b=false→(sL s0 n m dst R (fun j=>L j||j==i)).blk b=(sL s0 n m dst R L).blk b:=by
  intro b C y;simp only[sL];have H:(List.range m).find? (fun j=>(L j||j==i)&&(R j).dx b)=(List.range m).find? (fun j=>L j&&(R j).dx b):=find_congr fun j l=>by
   by_cases h:j=i
   ·subst h;rw[C];simp
   ·have x:(j==i)=false:=by simpa using h
    simp only[x,Bool.or_false]
  rw[H];exact fold_congr fun j l=>by
   by_cases h:j=i
   ·subst h;rw[y];simp
   ·have x:(j==i)=false:=by simpa using h
    simp only[x,Bool.or_false]
 have A:∀b,(sL s0 n m dst R (fun j=>L j||j==i)).b_ b=((sL s0 n m dst R L).b_ b||(R i).Zt b):=by
  intro b;simp only[sL];rw[abL r,Bool.or_assoc]
 cases g:R i with
 |grow b cs d=>have:=ok.He i r;rw[g]at this;cases this
 |own d=>have:=ok.He i r;rw[g]at this;cases this
 |inl bl nl d=>have:=ok.He i r;rw[g]at this;cases this
 |val d=>
  have C:∀b,(R i).dx b=false:=fun b=>by rw[g];rfl
  have y:∀b,(R i).cZ b=false:=fun b=>by rw[g];rfl
  have:(sL s0 n m dst R (fun j=>L j||j==i))=⟨(sL s0 n m dst R (fun j=>L j||j==i)).tmp,(sL s0 n m dst R (fun j=>L j||j==i)).blk,(sL s0 n m dst R (fun j=>L j||j==i)).b_⟩:=rfl
  rw[this];simp only[FSt.app,FSt.put];congr 1
  ·funext t;rw[K t,g];rfl
  ·funext b;rw[M b (C b) (y b)]
  ·funext b;rw[A b,g];simp[Rec.Zt]
 |new z cs d S=>
  have J:∀j,j<m→(L j||j==i)=true→(R j).cZ z=false:=by
   intro j l G;cases E:(R j).cZ z with
   |false=>rfl
   |true=>
    have U:=ok.alp j z l E;have O:=ok.afq j i z l r U (by rw[g];simp[Rec.dx])
    by_cases h:j=i
    ·subst h;rw[g]at E;simp[Rec.cZ]at E
    ·have I:L j=true:=by simpa [h]using G
     have:=N j l I i O;rw[D]at this;cases this
  have:(sL s0 n m dst R (fun j=>L j||j==i))=⟨(sL s0 n m dst R (fun j=>L j||j==i)).tmp,(sL s0 n m dst R (fun j=>L j||j==i)).blk,(sL s0 n m dst R (fun j=>L j||j==i)).b_⟩:=rfl
  rw[this];simp only[FSt.app,FSt.put,FSt.bS];congr 1
  ·funext t;rw[K t,g];rfl
  ·funext b
   by_cases v:b=z
   ·subst v
    rw[apB rfl];have F:(List.range m).find? (fun j=>(L j||j==i)&&(R j).dx b)=some i:=C' r (by simp[g,Rec.dx]) (fun j l o=>by
     simp only[zLq]at o;exact(ok.ael i j b r l (by rw[g];simp[Rec.dx]) o.2).symm)
    simp only[sL,F,g];rw[JB (fun j l=>by
      cases T:(L j||j==i)with
      |false=>rfl
      |true=>simp[J j l T])]
    rfl
   ·rw[apA v,M b (by rw[g];simp[Rec.dx,Ne.symm v]) (by rw[g];rfl)]
  ·funext b;rw[A b,g];rfl
 |store z off V d S=>
  have:(sL s0 n m dst R (fun j=>L j||j==i))=⟨(sL s0 n m dst R (fun j=>L j||j==i)).tmp,(sL s0 n m dst R (fun j=>L j||j==i)).blk,(sL s0 n m dst R (fun j=>L j||j==i)).b_⟩:=rfl
  rw[this];simp only[FSt.app,FSt.put,FSt.bS];congr 1
  ·funext t;rw[K t,g];rfl
  ·funext b
   by_cases v:b=z
   ·subst v
    rw[apB rfl];have Q:∀j,j<m→(L j&&(R j).cZ b)=true→j<i:=by
     intro j l o;rw[zLq]at o;rcases ok.ahL i j b r l (by rw[g];simp[Rec.cZ]) o.2 with e|⟨-,e⟩|⟨e,-⟩
     ·subst e;rw[D]at o;cases o.1
     ·exact e
     ·have:=N j l o.1 i e
      rw[D]at this;cases this
    have H:(List.range m).find? (fun j=>(L j||j==i)&&(R j).dx b)=(List.range m).find? (fun j=>L j&&(R j).dx b):=find_congr fun j l=>by
     by_cases h:j=i
     ·subst h;rw[g];simp[Rec.dx]
     ·have x:(j==i)=false:=by simpa using h
      simp only[x,Bool.or_false]
    simp only[sL,H];rw[VG (p:=fun j=>L j&&(R j).cZ b) (q:=fun j=>(L j||j==i)&&(R j).cZ b) (f:=fun j c=>Option.map (R j).stored c) r (by simp[D]) Q (fun j=>by
     by_cases h:j=i
     ·subst h;rw[g];simp[Rec.cZ]
     ·have x:(j==i)=false:=by simpa using h
      simp only[x,Bool.or_false])]
    rw[g];rfl
   ·rw[apA v,M b (by rw[g];rfl) (by rw[g];simp[Rec.cZ,Ne.symm v])]
  ·funext b;rw[A b,g];rfl
theorem af3(ok:HI s0 m dst reads R acc jE){L L':Nat→Bool}{i:Nat}(v:i<m)(l:L i=false)(b:L' i=false)
  (r:∀k,jE i k=true→L k=true) (o:∀k,jE i k=true→L' k=true)
  (p:∀j,j<m→L j=true→∀k,jE j k=true→L k=true) (f:∀j,j<m→L' j=true→∀k,jE j k=true→L' k=true) {t:Tmp} (q:reads i t=true):
  (sL s0 n m dst R L).tmp t=(sL s0 n m dst R L').tmp t:=by
 simp only[sL];congr 1;refine find_congr fun j e=>?_
 by_cases g:dst j=some t
 ·rcases ok.Hc i j t v e q g with rfl|h|h
  ·rw[l,b]
  ·rw[r j h,o j h]
  ·have y:L j=false:=by
    cases d:L j with
    |false=>rfl
    |true=>have:=p j e d i h;rw[l]at this;cases this
   have x:L' j=false:=by
    cases d:L' j with
    |false=>rfl
    |true=>have:=f j e d i h;rw[b]at this;cases this
   rw[y,x]
 ·have:(dst j==some t)=false:=by simpa using g
  rw[this];simp
theorem af4(ok:HI s0 m dst reads R acc jE){L L':Nat→Bool}{i:Nat}(p:i<m)(r:L i=false)(f:L' i=false)
  (o:∀k,jE i k=true→L k=true) (l:∀k,jE i k=true→L' k=true)
  (t:∀j,j<m→L j=true→∀k,jE j k=true→L k=true) (g:∀j,j<m→L' j=true→∀k,jE j k=true→L' k=true) {b:Nat} (q:acc i=some b):
  (sL s0 n m dst R L).blk b=(sL s0 n m dst R L').blk b:=by
 have y:(List.range m).find? (fun j=>L j&&(R j).dx b)=(List.range m).find? (fun j=>L' j&&(R j).dx b):=find_congr fun j e=>by
  cases d:(R j).dx b with
  |false=>simp
  |true=>have:=ok.afq i j b p e q d;rw[o j this,l j this]
 simp only[sL];rw[y];exact fold_congr fun j e=>by
  cases d:(R j).cZ b with
  |false=>simp
  |true=>
   rcases ok.aek i j b p e q d with rfl|h|h
   ·rw[r,f]
   ·rw[o j h,l j h]
   ·have x:L j=false:=by
     cases d:L j with
     |false=>rfl
     |true=>have:=t j e d i h;rw[r]at this;cases this
    have v:L' j=false:=by
     cases d:L' j with
     |false=>rfl
     |true=>have:=g j e d i h;rw[f]at this;cases this
    rw[x,v]
theorem X5(ok:HI s0 m dst reads R acc jE){L:Nat→Bool}{i b:Nat}(d:i<m)(h:L i=false)(e:(R i).dx b=true):(sL s0 n m dst R L).blk b=none:=by
 have k:(List.range m).find? (fun j=>L j&&(R j).dx b)=none:=yY fun j g=>by
  cases f:(R j).dx b with
  |false=>simp
  |true=>have:=ok.ael j i b g d f e;subst this;rw[h];rfl
 simp only[sL];rw[k,ok.ahM i b d e];exact La
end step
end Lw
