/- Part 0. -/
import Derived.KernelRfl
import Derived.Orders
import Derived.Below
import Derived.Laws.CopyRow
import Derived.Laws.Rows
import Derived.Laws.Tables
import Derived.Laws.Cells
import Derived.Laws.AppendOwn
import Derived.Great.Frames
import GoSem.Dispatch
import Derived.Laws.Entries
import Derived.Great.FillDense
import Derived.Great.BuildSlice
import Derived.Laws.NewFold
import Derived.ChangeKeysEq
import Derived.Laws.MakeOwn
set_option maxHeartbeats 2000000
set_option linter.all false
open Option renaming some->a6,none->bk,map_some->dm,bind_some->u0,getD_some->uS
open _root_ renaming List->ai,Nat->aw,Bool->b5,Option->bF,Int->cA,ByteArray->cB,Rat->cl,Array->eY,beq_iff_eq->ec,if_true->gn,beq_self_eq_true->gp,of_decide_eq_true->hJ,if_false->jv,if_neg->ks,if_pos->nT,Decidable->vp
open Bool renaming false->aj,true->bj,false_eq_true->cy,and_eq_true->dT,or_eq_true->hO,not_true->kn
open Go renaming Value->b3,World->bn,TypeId->c5,Operand->c6,FuncId->c7,Program->cp,run_underlying->db,Oper->e9,undef->fg,Func->kf,cell_of_row->l0,maxLen->lj,heap_alloc_new->m3,IntKind->my,setRow_other->r9,run_storeCells_at->sN,Calls->vx
open List renaming mem_cons->b4,not_mem_nil->bI,getD_eq_getElem?_getD->bP,replicate->cd,range->ch,mem_singleton->dc,map_cons->eZ,length_cons->ey,map_nil->fB,getElem?_append_left->g6,getElem?_take->gi,all_eq_true->gv,getD_cons_succ->iz,length_append->j3,getElem?_eq_none->jy,mem_filterMap->kN,getElem_range->kT,mem_map->ky,getElem_map->kz,getElem?_drop->lf,nil_append->lp,map->m4,length_drop->m6,isEmpty_iff->na,length_take->o4,size_toArray->ov,mem_append->p5,any_eq_true->pb,getElem?_eq_getElem->py,getElem?_map->qW,append_nil->r8,getElem?_append->rB,append_assoc->ra,map_map->sj,drop_zero->sv,getElem?_set->ts,flatMap_cons->tu,getElem_replicate->v5,length->y6,getD->y7
open Inhabited renaming default->bc
open Nat renaming blt->c3,min->fe,ble->hM,pow_zero->mb,beq->ml,blt_eq->n4,add_zero->n5,mul_left_comm->om,mul_assoc->px,mul_comm->qH,ble_eq->qc,mul_one->qg,div_one->ql,zero_add->qq,add_sub_cancel->sr,add_mul->tm,add_comm->vT
open Go.Instr renaming sliceBounds->dj,sureAddr->lg,indexAt->rA,sliceAt->ry
open Go.Builtin renaming append_->gJ,zeroCells->mn,firstCells->n6,lenOf->pz,len_->sl
open Go.Value.int renaming injEq->gl
open Go.Result renaming andThen_ok->ie
open Array renaming toList_map->kB,length_toList->mN,toList_range->sA
open Go.Sem renaming run_bind->kl,run_pure->n3
open Int renaming ofNat_eq_natCast->rI,subNatNat->ux
open Go.Deferred renaming ofValue->vn
open Or renaming inl->y1,inr->y2
def za{p:Prop}(h:p:=by omega):p:=h
def zb{p:Prop}(h:p:=by simp):p:=h
def zk{p:Prop}(h:p:=by kernel_rfl):p:=h
def zv{p:Prop}(h:p:=by decide):p:=h
def zT{p:Prop}(h:p:=by simp;omega):p:=h
def z0{p:Prop}(h:p:=by intros;simp):p:=h
def z1{p:Prop}(h:p:=by intro h;cases h):p:=h
def z2{p:Prop}(h:p:=by decide+kernel):p:=h
open Int renaming ofNat->zNq
open Option renaming some.injEq->zIq
open Prod renaming mk.injEq->zJq
open Bool renaming and_eq_true->zLq
abbrev apc:=@Nat.le_refl
abbrev ape:=@ks
abbrev apf:=@bP
abbrev apg:=@dc
abbrev aph:=@nT
abbrev api:=@absurd
abbrev apj:=@py
abbrev apm:=@Nat.le_trans
abbrev apn:=@Option.isSome_iff_exists
abbrev apo:=@b4
abbrev apq:=@List.length_map
abbrev apr:=@o4
abbrev aps:=@p5
abbrev apt:=@List.contains_iff_mem
abbrev apu:=@m6
abbrev apv:=@Nat.eq_zero_or_pos
abbrev apw:=@List.mem_cons_self
abbrev apx:=@px
abbrev apy:=@Nat.lt_or_ge
abbrev apz:=@List.map_congr_left
abbrev apA:=@List.take_of_length_le
abbrev apB:=@Nat.mul_le_mul_right
abbrev apC:=@qH
abbrev apD:=@List.getElem_mem
abbrev apE:=@decide_eq_true
abbrev apF:=@List.mem_iff_getElem
abbrev apG:=@decide_eq_false
abbrev apH:=@gv
abbrev apI:=@Nat.pow_le_pow_right
abbrev apJ:=@Nat.zero_le
abbrev apK:=@Nat.pow_succ
abbrev apL:=@jy
abbrev apM:=@kN
abbrev apN:=@ky
abbrev apO:=@Nat.div_div_eq_div_mul
abbrev apP:=@Nat.mod_lt
abbrev apQ:=@bI
abbrev apR:=@Nat.mul_le_mul
abbrev apS:=@List.getElem?_append_right
abbrev apT:=@Nat.mul_le_mul_left
abbrev apU:=@Nat.le_of_lt
abbrev apV:=@Nat.lt_of_lt_of_le
abbrev apW:=@Nat.mod_eq_of_lt
abbrev apX:=@List.mem_cons_of_mem
abbrev apY:=@List.length_set
abbrev apZ:=@n4
abbrev ap0:=@Option.some.inj
abbrev ap1:=@Nat.div_lt_iff_lt_mul
abbrev ap2:=@kz
abbrev ap3:=@Nat.div_eq_of_lt
abbrev ap4:=@j3
abbrev ap5:=@List.filter_cons_of_neg
abbrev ap6:=@hO
abbrev ap7:=@Nat.pow_add
abbrev ap8:=@List.eq_nil_of_length_eq_zero
abbrev ap9:=@Array.getElem?_eq_getElem
abbrev ap_:=@List.length_eq_one_iff
abbrev ap':=@tu
abbrev aqa:=@qq
abbrev aqb:=@List.length_replicate
abbrev aqc:=@Array.toList_inj
abbrev aqd:=@List.length_pos_iff
abbrev aqe:=@g6
abbrev aqf:=@Bool.eq_iff_iff
abbrev aqg:=@Nat.div_le_self
abbrev aqh:=@Nat.lt_of_le_of_lt
abbrev aqi:=@Array.getElem?_eq_some_iff
abbrev aqj:=@Array.eq_empty_of_size_eq_zero
abbrev aqk:=@Nat.succ_mul
abbrev aql:=@congrArg
abbrev aqm:=@Nat.mul_pos
abbrev aqn:=@Nat.mul_add
abbrev aqo:=@List.map_id
abbrev aqp:=@List.map_append
abbrev aqq:=@List.filter_eq_self
abbrev aqr:=@List.drop_eq_getElem_cons
abbrev aqs:=@r8
abbrev aqt:=@List.mem_append_left
abbrev aqu:=@List.findIdx_le_length
abbrev aqv:=@Int.natAbs_natCast
abbrev aqw:=@Nat.one_mul
abbrev aqx:=@qg
abbrev aqy:=@List.getElem?_replicate
abbrev aqz:=@qW
abbrev aqA:=@List.mem_of_find?_eq_some
abbrev aqB:=@qc
abbrev aqC:=@Nat.pow_pos
abbrev aqD:=@sv
abbrev aqE:=@Nat.div_add_mod
abbrev aqF:=@vT
abbrev aqG:=@sj
abbrev aqH:=@Nat.zero_mul
abbrev aqI:=@List.flatMap_append
abbrev aqJ:=@Nat.eq_of_beq_eq_true
abbrev aqK:=@List.foldl_append
abbrev aqL:=@List.length_range
abbrev aqM:=@List.take_length
abbrev aqN:=@tm
abbrev aqO:=@ey
abbrev aqP:=@ql
abbrev aqQ:=@List.filter_eq_nil_iff
abbrev aqR:=@List.getElem_append_right
abbrev aqS:=@List.getElem?_eq_some_iff
abbrev aqT:=@mN
abbrev aqU:=@List.getElem_of_mem
abbrev aqV:=@ra
abbrev aqW:=@List.getElem_append_left
abbrev aqX:=@List.mem_append_right
abbrev aqY:=@List.take_zero
abbrev aqZ:=@Ne.symm
abbrev aq0:=@lp
abbrev aq1:=@List.range_succ
abbrev aq2:=@Nat.mul_lt_mul_of_pos_right
abbrev aq3:=@List.mem_singleton_self
abbrev aq4:=@List.find?_cons_of_neg
abbrev aq5:=@Nat.lt_trichotomy
abbrev aq6:=@List.take_add_one
abbrev aq7:=@Nat.add_mul_div_right
abbrev aq8:=@gi
abbrev aq9:=@List.mem_flatMap
abbrev aq_:=@List.filter_append
abbrev aq':=@List.mem_of_mem_take
abbrev ara:=@Int.natAbs_mul
abbrev arb:=@List.mem_range
abbrev arc:=@Bool.eq_false_iff
abbrev ard:=@List.mem_map_of_mem
abbrev are:=@eZ
abbrev arf:=@Nat.add_assoc
abbrev arh:=@Nat.sub_le
abbrev ari:=@Int.sign_eq_neg_one_of_neg
abbrev arj:=@pb
abbrev ark:=@List.countP_cons
abbrev arl:=@List.take_take
abbrev arn:=@Int.natCast_nonneg
abbrev aro:=@List.find?_some
abbrev arp:=@Nat.le_antisymm
abbrev arq:=@List.getElem_drop
abbrev ars:=@List.getElem_take
abbrev art:=@Nat.gcd_pos_of_pos_left
abbrev aru:=@iz
abbrev arv:=@List.ext_getElem
abbrev arw:=@Int.natAbs_neg
abbrev arx:=@List.find?_cons_of_pos
abbrev ary:=@Nat.mod_one
abbrev arz:=@Int.sign_eq_one_of_pos
abbrev arA:=@Option.map_eq_some_iff
abbrev arB:=@List.find?_eq_none
abbrev arC:=@Nat.two_pow_add_eq_or_of_lt
abbrev arD:=@List.mem_iff_getElem?
abbrev arE:=@Nat.le_of_ble_eq_true
abbrev arF:=@List.find?_append
abbrev arG:=@Nat.pow_lt_pow_right
abbrev arH:=@Classical.byContradiction
abbrev arI:=@Nat.le_max_right
abbrev arJ:=@Nat.pow_le_pow_iff_right
abbrev arK:=@Rat.intCast_eq_zero_iff
abbrev arL:=@List.map_take
abbrev arM:=@Rat.sub_eq_add_neg
abbrev arN:=@Rat.mul_inv_cancel
abbrev arO:=@List.mem_filter
abbrev arP:=@Nat.le_max_left
abbrev arQ:=@Nat.min_eq_left
abbrev arR:=@Rat.num_divInt_den
abbrev arS:=@List.any_eq_false
abbrev arT:=@om
abbrev arU:=@Nat.le_div_iff_mul_le
abbrev arV:=@Nat.zero_div
abbrev arW:=@Nat.gcd_comm
abbrev arX:=@Classical.choose_spec
abbrev arY:=@List.drop_take
abbrev arZ:=@Rat.zero_mul
abbrev ar0:=@List.take_sublist_take_left
abbrev ar1:=@List.drop_length
abbrev ar2:=@List.mem_of_getElem?
abbrev ar3:=@Nat.le_add_right
abbrev ar4:=@Nat.beq_eq
abbrev ar5:=@Rat.mul_assoc
abbrev ar6:=@Bool.and_true
abbrev ar7:=@Rat.lt_irrefl
abbrev ar8:=@List.replicate_succ
abbrev ar9:=@List.filterMap_eq_nil_iff
abbrev ar_:=@List.find?_cons
abbrev ar':=@lf
abbrev asa:=@List.filterMap_cons_none
abbrev asb:=@Nat.mul_div_cancel
abbrev asc:=@List.map_replicate
abbrev asd:=@List.countP_append
abbrev ase:=@Nat.one_le_two_pow
abbrev asf:=@Nat.gcd_dvd_right
abbrev asg:=@Int.le_refl
abbrev ash:=@Nat.mod_eq_zero_of_dvd
abbrev asi:=@Rat.div_def
abbrev asj:=@Nat.pow_succ'
abbrev asl:=@Nat.gcd_dvd_left
abbrev asm:=@Array.getElem?_toList
abbrev asn:=@Bool.and_eq_false_iff
abbrev aso:=@List.countP_mono_left
abbrev asp:=@Nat.mul_mod_mul_right
abbrev asq:=@Nat.mul_succ
abbrev asr:=@List.mem_of_mem_drop
abbrev ass:=@n5
abbrev ast:=@Nat.div_le_div_right
abbrev asu:=@Nat.mul_add_div
abbrev asv:=@List.length_dropLast
abbrev asw:=@Nat.sub_self
abbrev asx:=@Rat.num_eq_zero
abbrev asy:=@List.headD_cons
abbrev asz:=@List.count_cons
abbrev asA:=@List.count_le_length
abbrev asB:=@Int.ofNat_le
abbrev asC:=@List.take_append_of_le_length
abbrev asD:=@List.filterMap_cons
abbrev asE:=@Nat.div_eq_of_lt_le
abbrev asF:=@List.getElem?_range
abbrev asG:=@List.take_left
abbrev asH:=@List.find?_map
abbrev asI:=@Rat.mul_one
abbrev asJ:=@sr
abbrev asK:=@Bool.true_and
abbrev asL:=@List.ext_getElem?
abbrev asM:=@List.flatten_cons
abbrev asN:=@Nat.gcd_zero_left
abbrev asO:=@Rat.divInt_eq_div
abbrev asP:=@ts
abbrev asQ:=@Rat.add_zero
abbrev asR:=@na
abbrev asS:=@mb
abbrev asT:=@Nat.max_eq_right
abbrev asU:=@Rat.divInt_ofNat
abbrev asV:=@List.flatMap_nil
abbrev asW:=@Rat.inv_zero
abbrev asX:=@Rat.mul_zero
abbrev asY:=@List.prefix_refl
namespace Lw
namespace fb
class zY(K:Type) extends Add K,Mul K,Neg K,Sub K,Zero K,One K where
 fo:∀a b c:K,a+b+c=a+(b+c)
 kM:∀a b:K,a+b=b+a
 add_zero':∀a:K,a+0=a
 rS:∀a:K,-a+a=0
 oP:∀a b c:K,a*b*c=a*(b*c)
 fT:∀a b:K,a*b=b*a
 pU:∀a:K,a*1=a
 wU:∀a b c:K,a*(b+c)=a*b+a*c
 sub_def':∀a b:K,a-b=a+ -b
namespace zY
variable {K:Type} [zY K]
def iD(a:K):0+a=a:=by rw[kM,add_zero']
def oq(a:K):a+ -a=0:=by rw[kM,rS]
def yY(a:K):1*a=a:=by rw[fT,pU]
def AJ(a b c:K):(a+b)*c=a*c+b*c:=by rw[fT,wU,fT c a,fT c b]
def Q3(a b c:K):a+(b+c)=b+(a+c):=by rw[<-fo,kM a b,fo]
def mul_left(a b c:K):a*(b*c)=b*(a*c):=by rw[<-oP,fT a b,oP]
def cancel{a b c:K}(h:a+b=a+c):b=c:=by have:=aql (λx=> -a+x) h;simp only[<-fo,rS,iD]at this;exact this
def bB(a:K):a*0=0:=by
 have:a*0+a*0=a*0+0:=by rw[<-wU,add_zero',add_zero']
 exact cancel this
def jE(a:K):0*a=0:=by rw[fT,bB]
def ug{a b:K}(h:a+b=0):b= -a:=by
 have:a+b=a+ -a:=by rw[h,oq]
 exact cancel this
def y_(a b:K): -a*b= -(a*b):=ug (by rw[<-AJ,oq,jE])
def IA(a:K): - -a=a:=(ug (rS a)).symm
def xK(a b:K): -(a+b)= -a+ -b:=(ug (by rw[fo,Q3 b,<-fo,oq,iD,oq])).symm
def tL: -(0:K)=0:=(ug (add_zero' 0)).symm
def fJ{a b:K}:a-b=0↔a=b:=by rw[sub_def'];constructor;intro h;have:=aql (λx=>x+b) h;simp only[fo,rS,add_zero',iD]at this;exact this;rintro rfl;exact oq a
def y8:aw->K
 |0=>0
 |n+1=>y8 n+1
def Kg:cA->K
 |.ofNat n=>y8 n
 |.negSucc n=> -(y8 (n+1))
def C_(m n:aw):(y8 (m+n):K)=y8 m+y8 n:=by
 induction n with
 |zero=>simp only[n5,y8,add_zero']
 |succ n a=>rw[Nat.add_succ];simp only[y8,a,fo]
def UI(m n:aw):(y8 (m*n):K)=y8 m*y8 n:=by
 induction n with
 |zero=>simp only[Nat.mul_zero,y8,bB]
 |succ n a=>rw[asq,C_,a];simp only[y8,wU,pU]
def UJ(m n:aw):(Kg (ux m n):K)=y8 m+ -(y8 n):=by
 obtain h|h:=apy m n
 obtain⟨k,rfl⟩:∃k,n=m+(k+1):=⟨n-m-1,by omega⟩;have e:ux m (m+(k+1))=.negSucc k:=by rw[Int.subNatNat_eq_coe];omega
 rw[e,C_,xK,<-fo,oq,iD];rfl;obtain⟨k,rfl⟩:∃k,m=n+k:=⟨m-n,by omega⟩;have e:ux (n+k) n=.ofNat k:=by rw[Int.subNatNat_eq_coe];simp only[rI];omega
 rw[e,C_,kM (y8 n),fo,oq,add_zero'];rfl
def M'(a:cA):(Kg (-a):K)= -(Kg a):=by
 cases a with
 |ofNat n=>cases n with
  |zero=>show(y8 0:K)= -(y8 0);simp only[y8,tL]
  |succ n=>rfl
 |negSucc n=>show(y8 (n+1):K)= -(-(y8 (n+1)));rw[IA]
def UL(a b:cA):(Kg (a+b):K)=Kg a+Kg b:=by
 cases a with
 |ofNat m=>cases b with
  |ofNat n=>exact C_ m n
  |negSucc n=>exact UJ m (n+1)
 |negSucc m=>cases b with
  |ofNat n=>
   show(Kg (ux n (m+1)):K)=_;rw[UJ,kM];rfl
  |negSucc n=>
   show -(y8 (m+n+1+1):K)= -(y8 (m+1))+ -(y8 (n+1));rw[<-xK,<-C_];congr 2;omega
def afK(a b:cA):(Kg (a*b):K)=Kg a*Kg b:=by
 have pos:∀(m:aw)(b:cA),(Kg (zNq m*b):K)=y8 m*Kg b:=by
  intro m b;cases b with
  |ofNat n=>exact UI m n
  |negSucc n=>
   have:zNq m*Int.negSucc n= -(zNq (m*(n+1))):=by simp[Int.negSucc_eq,Int.mul_neg]
   rw[this,M'];show -(y8 (m*(n+1)):K)=y8 m* -(y8 (n+1));rw[UI,fT (y8 m) (-(y8 (n+1))),y_,fT]
 cases a with
 |ofNat m=>exact pos m b
 |negSucc m=>
  have:Int.negSucc m*b= -(zNq (m+1)*b):=by simp[Int.negSucc_eq,Int.neg_mul]
  rw[this,M',pos];show -(y8 (m+1)*Kg b:K)= -(y8 (m+1))*Kg b;rw[y_]
inductive Ex where
 |v (n:aw)
 |z
 |o
 |add (a b:Ex)
 |mul (a b:Ex)
 |neg (a:Ex)
 |sub (a b:Ex)
def Ex.ev(ρ:ai K):Ex->K
 |.v n=>y7 ρ n 0
 |.z=>0
 |.o=>1
 |.add a b=>a.ev ρ+b.ev ρ
 |.mul a b=>a.ev ρ*b.ev ρ
 |.neg a=> -(a.ev ρ)
 |.sub a b=>a.ev ρ-b.ev ρ
abbrev Poly:=ai (cA×ai aw)
def Tj(ρ:ai K):ai aw->K
 |[]=>1
 |n::l=>y7 ρ n 0*Tj ρ l
def E7(ρ:ai K):Poly->K
 |[]=>0
 |(c,m)::p=>Kg c*Tj ρ m+E7 ρ p
def af4(n:aw):ai aw->ai aw
 |[]=>[n]
 |k::l=>if hM n k then n::k::l else k::af4 n l
def mulM:ai aw->ai aw->ai aw
 |[],b=>b
 |n::a,b=>af4 n (mulM a b)
def eqM:ai aw->ai aw->b5
 |[],[]=>bj
 |a::l,b::m=>ml a b&&eqM l m
 |_,_=>aj
def ltM:ai aw->ai aw->b5
 |[],[]=>aj
 |[],_::_=>bj
 |_::_,[]=>aj
 |a::l,b::m=>if ml a b then ltM l m else c3 a b
def isZ:cA->b5
 |.ofNat n=>ml n 0
 |.negSucc _=>aj
def ab0(c:cA)(m:ai aw):Poly->Poly
 |[]=>[(c,m)]
 |(a,m')::p=>if eqM m m' then(if isZ (c+a)then p else(c+a,m')::p)else if ltM m m' then(c,m)::(a,m')::p else(a,m')::ab0 c m p
def A5:Poly->Poly->Poly
 |[],q=>q
 |(c,m)::p,q=>ab0 c m (A5 p q)
def abp(c:cA)(m:ai aw):Poly->Poly
 |[]=>[]
 |(a,m')::p=>ab0 (c*a) (mulM m m') (abp c m p)
def abq:Poly->Poly->Poly
 |[],_=>[]
 |(c,m)::p,q=>A5 (abp c m q) (abq p q)
def W6:Poly->Poly
 |[]=>[]
 |(c,m)::p=>(-c,m)::W6 p
def Ex.norm:Ex->Poly
 |.v n=>[(1,[n])]
 |.z=>[]
 |.o=>[(1,[])]
 |.add a b=>A5 a.norm b.norm
 |.mul a b=>abq a.norm b.norm
 |.neg a=>W6 a.norm
 |.sub a b=>A5 a.norm (W6 b.norm)
def UK:(Kg 1:K)=1:=by show(y8 0+1:K)=1;exact iD 1
variable {i:cA} {u v:Ex}
def ajL(h:isZ i=bj):i=0:=by
 cases i with
 |ofNat n=>simp only[isZ]at h;rw[aqJ h];rfl
 |negSucc n=>cases h
def acV:∀{a b:ai aw},eqM a b=bj->a=b
 |[],[],_=>rfl
 |a::l,b::m,h=>by simp only[eqM,dT]at h;rw[aqJ h.1,acV h.2]
 |[],_::_,h=>by cases h
 |_::_,[],h=>by cases h
def Vo(ρ:ai K)(n:aw):∀l,Tj ρ (af4 n l)=y7 ρ n 0*Tj ρ l
 |[]=>rfl
 |k::l=>by simp only[af4];split;rfl;simp only[Tj,Vo ρ n l];exact mul_left _ _ _
def Vn(ρ:ai K):∀a b,Tj ρ (mulM a b)=Tj ρ a*Tj ρ b
 |[],b=>by simp only[mulM,Tj,yY]
 |n::a,b=>by simp only[mulM,Tj,Vo,Vn ρ a b,oP]
def NI(ρ:ai K)(c:cA)(m:ai aw):∀p,E7 ρ (ab0 c m p)=Kg c*Tj ρ m+E7 ρ p
 |[]=>rfl
 |(d,m')::p=>by simp only[ab0];split;rename_i b;have:=acV b;subst this;split;rename_i a;simp only[E7,<-fo,<-AJ,<-UL,ajL a];show _=(y8 0:K)*_+_;simp only[y8,jE,iD];simp only[E7,UL,AJ,fo];split;rfl;simp only[E7,NI ρ c m p];exact Q3 _ _ _
def Hb(ρ:ai K):∀p q,E7 ρ (A5 p q)=E7 ρ p+E7 ρ q
 |[],q=>by simp only[A5,E7,iD]
 |(c,m)::p,q=>by simp only[A5,E7,NI,Hb ρ p q,fo]
def Vl(ρ:ai K)(c:cA)(m:ai aw):∀p,E7 ρ (abp c m p)=Kg c*Tj ρ m*E7 ρ p
 |[]=>by simp only[abp,E7,bB]
 |(a,m')::p=>by simp only[abp,E7,NI,Vl ρ c m p,Vn,afK,wU];congr 1;simp only[oP];rw[mul_left (Kg a) (Tj ρ m)]
def Vm(ρ:ai K):∀p q,E7 ρ (abq p q)=E7 ρ p*E7 ρ q
 |[],q=>by simp only[abq,E7,jE]
 |(c,m)::p,q=>by simp only[abq,E7,Hb,Vl,Vm ρ p q,AJ]
def NH(ρ:ai K):∀p,E7 ρ (W6 p)= -(E7 ρ p)
 |[]=>by simp only[W6,E7,tL]
 |(c,m)::p=>by simp only[W6,E7,NH ρ p,M',y_,xK]
def vm(ρ:ai K):∀e:Ex,E7 ρ e.norm=e.ev ρ
 |.v n=>by simp only[Ex.norm,E7,Tj,Ex.ev,UK,yY,pU,add_zero']
 |.z=>rfl
 |.o=>by simp only[Ex.norm,E7,Tj,Ex.ev,UK,yY,add_zero']
 |.add a b=>by simp only[Ex.norm,Hb,vm ρ a,vm ρ b,Ex.ev]
 |.mul a b=>by simp only[Ex.norm,Vm,vm ρ a,vm ρ b,Ex.ev]
 |.neg a=>by simp only[Ex.norm,NH,vm ρ a,Ex.ev]
 |.sub a b=>by simp only[Ex.norm,Hb,NH,vm ρ a,vm ρ b,Ex.ev,sub_def']
class At(ρ:ai K)(a:K)(n:outParam aw):Prop where
 h:ρ.getD n 0=a
instance(a:K)(l:ai K):At (a::l) a 0:=⟨rfl⟩
instance(priority:=low)(a b:K)(l:ai K)(n:aw)[i:At l a n]:At (b::l) a (n+1):=⟨by rw[aru];exact i.h⟩
class Qt(ρ:ai K)(a:K)(e:outParam Ex):Prop where
 h:e.ev ρ=a
instance(ρ:ai K):Qt ρ (0:K) .z:=⟨rfl⟩
instance(ρ:ai K):Qt ρ (1:K) .o:=⟨rfl⟩
instance(ρ:ai K)(a b:K)(e f:Ex)[i:Qt ρ a e][j:Qt ρ b f]:Qt ρ (a+b) (.add e f):=⟨by simp only[Ex.ev,i.h,j.h]⟩
instance(ρ:ai K)(a b:K)(e f:Ex)[i:Qt ρ a e][j:Qt ρ b f]:Qt ρ (a*b) (.mul e f):=⟨by simp only[Ex.ev,i.h,j.h]⟩
instance(ρ:ai K)(a b:K)(e f:Ex)[i:Qt ρ a e][j:Qt ρ b f]:Qt ρ (a-b) (.sub e f):=⟨by simp only[Ex.ev,i.h,j.h]⟩
instance(ρ:ai K)(a:K)(e:Ex)[i:Qt ρ a e]:Qt ρ (-a) (.neg e):=⟨by simp only[Ex.ev,i.h]⟩
instance(priority:=low)(ρ:ai K)(a:K)(n:aw)[i:At ρ a n]:Qt ρ a (.v n):=⟨i.h⟩
def rg(ρ:ai K){a b:K}[i:Qt ρ a u][j:Qt ρ b v](h:(Ex.sub u v).norm=[]:=by kernel_rfl):a=b:=by have c:=vm ρ (Ex.sub u v);rw[h]at c;simp only[Ex.ev,i.h,j.h]at c;exact fJ.1 c.symm
def rg1(ρ:ai K){a b p q:K}(c:K)(d:p=q)[i:Qt ρ a u][j:Qt ρ (b+c*(p-q)) v](h:(Ex.sub u v).norm=[]:=by kernel_rfl):a=b:=by have:=rg ρ (a:=a) (b:=b+c*(p-q)) h;rw[this,fJ.2 d,bB,add_zero']
def rg2(ρ:ai K){a b p q g d:K}(c k:K)(m:p=q)(l:g=d)[i:Qt ρ a u][j:Qt ρ (b+c*(p-q)+k*(g-d)) v](h:(Ex.sub u v).norm=[]:=by kernel_rfl):a=b:=by have:=rg ρ (a:=a) (b:=b+c*(p-q)+k*(g-d)) h;rw[this,fJ.2 m,fJ.2 l,bB,bB,add_zero',add_zero']
end zY
open zY
class dH(K:Type) extends zY K where
 pos:K->Prop
 gB:∀{a b:K},pos a->pos b->pos (a+b)
 cQ:∀{a b:K},pos a->pos b->pos (a*b)
 Gm:∀a:K,pos a\/a=0\/pos (-a)
 lO:¬pos (0:K)
 j_:pos (1:K)
 inv:∀a:K,a≠0->∃b,a*b=1
namespace dH
variable {K:Type} [dH K]
def pO{a:K}(h:pos a)(b:pos (-a)):False:=by have:=gB h b;rw[oq]at this;exact lO this
def ub{a:K}(h:pos a):a≠0:=λe=>lO (e▸h)
def nn(a:K):Prop:=pos a\/a=0
def UO:nn (0:K):=y2 rfl
def Sy{a b:K}(h:nn a)(c:nn b):nn (a+b):=by
 obtain h|rfl:=h
 obtain c|rfl:=c
 exact y1 (gB h c);rw[add_zero'];exact y1 h;rw[iD];exact c
def BL{a b:K}(h:pos a)(c:nn b):pos (a+b):=by
 obtain c|rfl:=c
 exact gB h c;rw[add_zero'];exact h
def BS{a b:K}(h:nn a)(c:nn b):nn (a*b):=by
 obtain h|rfl:=h
 obtain c|rfl:=c
 exact y1 (cQ h c);exact y2 (bB a);exact y2 (jE b)
def vg{a b:K}(h:pos (-a))(c:pos (-b)):pos (a*b):=by
 have:=cQ h c
 rwa [show -a* -b=a*b from rg [a,b]]at this
def vf{a b:K}(h:pos (-a))(c:pos b):pos (-(a*b)):=by
 have:=cQ h c
 rwa [y_]at this
def FR{a b:K}(h:pos a)(c:pos (-b)):pos (-(a*b)):=by rw[fT];exact vf c h
def rN(a:K):nn (a*a):=by
 obtain h|rfl|h:=Gm a
 exact y1 (cQ h h);exact y2 (bB 0);exact y1 (vg h h)
def sq_pos{a:K}(h:a≠0):pos (a*a):=by
 obtain b|rfl|b:=Gm a
 exact cQ b b;exact api rfl h;exact vg b b
def ajc{a:K}(h:nn a)(b:pos (-a)):False:=by
 obtain h|rfl:=h
 exact pO h b;rw[tL]at b;exact lO b
def Nd{a:K}(h:nn a)(b:nn (-a)):a=0:=by
 obtain h|h:=h
 obtain b|b:=b
 exact api b (λg=>pO h g);have:=IA a;rw[b,tL]at this;exact this.symm;exact h
def mul_eq_zero{a b:K}(h:a*b=0):a=0\/b=0:=by by_cases d:a=0;exact y1 d;obtain⟨c,g⟩:=inv a d;right;have e:b=c*(a*b):=rg1 [a,b,c] (-b) g;rw[e,h,bB]
def ji{a b:K}(h:a≠0)(c:b≠0):a*b≠0:=λe=>(mul_eq_zero e).elim h c
def qI{a:K}(h:a*a=0):a=0:=(mul_eq_zero h).elim id id
def of_eq{a b:K}(h:pos a)(e:b=a):pos b:=e▸h
def alX{a b:K}(h:nn a)(e:b=a):nn b:=e▸h
def He{p q:K}(h:pos (p*p-q*q))(a:pos p):pos (p+q):=by
 rcases Gm (p+q)with g|g|g
 exact g;exfalso;have e:p*p-q*q=(p+q)*(p-q):=rg [p,q];rw[e,g,jE]at h;exact lO h;exfalso;have c:pos (p-q):=of_eq (gB (gB a a) g) (rg [p,q]);have b:=vf g c;exact pO h (of_eq b (rg [p,q]))
open Classical in
noncomputable def sg(a:K):cA:=if pos a then 1 else if a=0 then 0 else -1
def sG{a:K}(h:pos a):sg a=1:=aph h
def iU:sg (0:K)=0:=by unfold sg;rw[ape lO,aph rfl]
def yO{a:K}(h:pos (-a)):sg a= -1:=by unfold sg;rw[ape (λg=>pO g h),ape (λe=>by rw[e,tL]at h;exact lO h)]
def pI(a:K):(pos a/\sg a=1)\/(a=0/\sg a=0)\/(pos (-a)/\sg a= -1):=by
 obtain h|h|h:=Gm a
 exact y1 ⟨h,sG h⟩;exact y2 (y1 ⟨h,by rw[h];exact iU⟩);exact y2 (y2 ⟨h,yO h⟩)
def HW(a b:K):sg (a*b)=sg a*sg b:=by
 rcases pI a with⟨h,e⟩|⟨h,e⟩|⟨h,e⟩
 rcases pI b with⟨c,d⟩|⟨c,d⟩|⟨c,d⟩
 rw[e,d,sG (cQ h c)];rfl;rw[d,c,bB,iU];simp;rw[e,d,yO (FR h c)];rfl;rw[e,h,jE,iU];simp;rcases pI b with⟨c,d⟩|⟨c,d⟩|⟨c,d⟩
 rw[e,d,yO (vf h c)];rfl;rw[d,c,bB,iU];simp;rw[e,d,sG (vg h c)];rfl
def Wr{a:K}:sg a=1↔pos a:=by
 rcases pI a with⟨h,e⟩|⟨h,e⟩|⟨h,e⟩
 exact⟨λ_=>h,λ_=>e⟩;exact⟨λg=>(by rw[e]at g;cases g),λg=>api h (ub g)⟩;exact⟨λg=>(by rw[e]at g;cases g),λg=>api h (λh=>pO g h)⟩
def oL{a:K}:sg a=0↔a=0:=by
 rcases pI a with⟨h,e⟩|⟨h,e⟩|⟨h,e⟩
 exact⟨λg=>(by rw[e]at g;cases g),λg=>api g (ub h)⟩;exact⟨λ_=>h,λ_=>e⟩;exact⟨λg=>(by rw[e]at g;cases g),λg=>by rw[g,tL]at h;exact api h lO⟩
def ZQ{a:K}:0<=sg a↔nn a:=by
 rcases pI a with⟨h,e⟩|⟨h,e⟩|⟨h,e⟩
 exact⟨λ_=>y1 h,λ_=>by rw[e];decide⟩;exact⟨λ_=>y2 h,λ_=>by rw[e];decide⟩;exact⟨λg=>(by rw[e]at g;exact api g zv),λg=>api h (λh=>ajc g h)⟩
end dH
open dH
structure Pr(K:Type)(D:K)where
 x:K
 y:K
namespace Pr
variable {K:Type} [dH K] {D:K}
omit [dH K]in
def ext'{a b:Pr K D}(h:a.x=b.x)(h':a.y=b.y):a=b:=by cases a;cases b;simp_all
instance:zY (Pr K D)where
 add a b:=⟨a.x+b.x,a.y+b.y⟩
 mul a b:=⟨a.x*b.x+a.y*b.y*D,a.x*b.y+a.y*b.x⟩
 neg a:=⟨-a.x,-a.y⟩
 sub a b:=⟨a.x-b.x,a.y-b.y⟩
 zero:=⟨0,0⟩
 one:=⟨1,0⟩
 fo a b c:=ext' (fo _ _ _) (fo _ _ _)
 kM a b:=ext' (kM _ _) (kM _ _)
 add_zero' a:=ext' (add_zero' _) (add_zero' _)
 rS a:=ext' (rS _) (rS _)
 oP a b c:=ext'
  (show(a.x*b.x+a.y*b.y*D)*c.x+(a.x*b.y+a.y*b.x)*c.y*D=a.x*(b.x*c.x+b.y*c.y*D)+a.y*(b.x*c.y+b.y*c.x)*D from rg [a.x,a.y,b.x,b.y,c.x,c.y,D])
  (show(a.x*b.x+a.y*b.y*D)*c.y+(a.x*b.y+a.y*b.x)*c.x=a.x*(b.x*c.y+b.y*c.x)+a.y*(b.x*c.x+b.y*c.y*D)from rg [a.x,a.y,b.x,b.y,c.x,c.y,D])
 fT a b:=ext' (show a.x*b.x+a.y*b.y*D=b.x*a.x+b.y*a.y*D from rg [a.x,a.y,b.x,b.y,D]) (show a.x*b.y+a.y*b.x=b.x*a.y+b.y*a.x from rg [a.x,a.y,b.x,b.y])
 pU a:=ext' (show a.x*1+a.y*0*D=a.x from rg [a.x,a.y,D]) (show a.x*0+a.y*1=a.y from rg [a.x,a.y])
 wU a b c:=ext' (show a.x*(b.x+c.x)+a.y*(b.y+c.y)*D=(a.x*b.x+a.y*b.y*D)+(a.x*c.x+a.y*c.y*D)from rg [a.x,a.y,b.x,b.y,c.x,c.y,D])
  (show a.x*(b.y+c.y)+a.y*(b.x+c.x)=(a.x*b.y+a.y*b.x)+(a.x*c.y+a.y*c.x)from rg [a.x,a.y,b.x,b.y,c.x,c.y])
 sub_def' a b:=ext' (sub_def' _ _) (sub_def' _ _)
def N(a:Pr K D):K:=a.x*a.x-a.y*a.y*D
def ana(a b:Pr K D):(a*b).N=a.N*b.N:=by show(a.x*b.x+a.y*b.y*D)*(a.x*b.x+a.y*b.y*D)-(a.x*b.y+a.y*b.x)*(a.x*b.y+a.y*b.x)*D=(a.x*a.x-a.y*a.y*D)*(b.x*b.x-b.y*b.y*D);exact rg [a.x,a.y,b.x,b.y,D]
def Odd(D:K):Prop:=nn D/\∀z:K,z*z≠D
def Odd.pos(h:Odd D):dH.pos D:=by
 obtain g|g:=h.1
 exact g;exact api (by rw[g,bB]) (h.2 0)
def akT(h:Odd D){a:Pr K D}(j:a.x≠0\/a.y≠0):a.N≠0:=by
 intro e;have d:a.x*a.x-a.y*a.y*D=0:=e;by_cases b:a.y=0
 ·rw[b]at d
  have:a.x*a.x=0:=by rw[<-d];exact rg [a.x,D]
  obtain g|g:=j
  ·exact g (qI this)
  ·exact g b
 ·obtain⟨c,i⟩:=inv a.y b
  refine h.2 (a.x*c) ?_;have l:a.x*a.x=a.y*a.y*D:=fJ.1 d;have k:a.x*c*(a.x*c)=(a.y*c)*(a.y*c)*D:=rg1 [a.x,a.y,c,D] (c*c) l;rw[k,i];exact rg [D]
def ad9(h:Odd D){a:Pr K D}(e:a.N=0):a=0:=by by_cases c:a.x=0;by_cases b:a.y=0;exact ext' c b;exact api e (akT h (y2 b));exact api e (akT h (y1 c))
def Up(a:Pr K D):Prop:=(dH.pos a.N/\dH.pos a.x)\/(dH.pos (-a.N)/\dH.pos a.y)
def Rs:Up (1:Pr K D):=y1 ⟨by
 show dH.pos ((1:K)*1-0*0*D);exact of_eq j_ (rg [D]),j_⟩
def up_mul(h:Odd D){a b:Pr K D}(n:Up a)(m:Up b):Up (a*b):=by
 have l:=h.pos;unfold Up at*;rw[ana];show(dH.pos (a.N*b.N)/\dH.pos (a.x*b.x+a.y*b.y*D))\/(dH.pos (-(a.N*b.N))/\dH.pos (a.x*b.y+a.y*b.x));have k:a.N=a.x*a.x-a.y*a.y*D:=rfl;have eb:b.N=b.x*b.x-b.y*b.y*D:=rfl;generalize a.N=A at*;generalize b.N=B at*;rcases n with⟨g,e⟩|⟨g,e⟩<;>rcases m with⟨d,c⟩|⟨d,c⟩
 refine y1 ⟨cQ g d,He ?_ (cQ e c)⟩;have j:=cQ (cQ e e) d;have i:=BS (BS (rN b.y) (y1 l)) (y1 g);refine of_eq (BL j i) ?_;rw[k,eb];exact rg [a.x,a.y,b.x,b.y,D];refine y2 ⟨FR g d,He ?_ (cQ e c)⟩;have j:=cQ g (cQ c c);have i:=BS (y1 d) (rN a.y);refine of_eq (BL j i) ?_;rw[k,eb];exact rg [a.x,a.y,b.x,b.y,D];refine y2 ⟨vf g d,?_⟩;rw[kM];refine He ?_ (cQ e c);have j:=cQ d (cQ e e);have i:=BS (y1 g) (rN b.y);refine of_eq (BL j i) ?_;rw[k,eb];exact rg [a.x,a.y,b.x,b.y,D];refine y1 ⟨vg g d,?_⟩;rw[kM];refine He ?_ (cQ (cQ e c) l);have j:=cQ g (cQ (cQ c c) l);have i:=BS (y1 d) (rN a.x);refine of_eq (BL j i) ?_;rw[k,eb];exact rg [a.x,a.y,b.x,b.y,D]
def aer(h:Odd D){a:Pr K D}(k:Up a):Up (a+1):=by
 have n:a.N=a.x*a.x-a.y*a.y*D:=rfl;have e:(a+1).N=a.N+(a.x+(a.x+1)):=by rw[n];show(a.x+1)*(a.x+1)-(a.y+0)*(a.y+0)*D=_;exact rg [a.x,a.y,D]
 have m:(a+1).x=a.x+1:=rfl;have l:(a+1).y=a.y:=add_zero' _;have j:(a+1).N≠0:=by
  refine akT h ?_;rw[m,l];rcases k with⟨_,g⟩|⟨_,g⟩
  exact y1 (ub (gB g j_));exact y2 (ub g)
 unfold Up at*;rw[e]at j⊢;rw[m,l];generalize a.N=A at*;rcases k with⟨d,c⟩|⟨d,c⟩
 exact y1 ⟨gB d (gB c (gB c j_)),gB c j_⟩;rcases Gm (A+(a.x+(a.x+1)))with g|g|g
 refine y1 ⟨g,?_⟩;rcases Gm (a.x+1)with b|b|b
 exact b
 
 exfalso;have:pos (1:K):=j_;have i:A+(a.x+(a.x+1))+(-A)+1=0:=by have:A+(a.x+(a.x+1))+(-A)+1=(a.x+1)+(a.x+1):=rg [A,a.x];rw[this,b,add_zero']
 exact ub (gB (gB g d) j_) i;exfalso;have i:A+(a.x+(a.x+1))+(-A)+(-(a.x+1))+(-(a.x+1))+1=0:=rg [A,a.x];exact ub (gB (gB (gB (gB g d) b) b) j_) i;exact api g j;exact y2 ⟨g,c⟩
def ahs(a:Pr K D):(-a).N=a.N:=by show -a.x* -a.x- -a.y* -a.y*D=a.x*a.x-a.y*a.y*D;exact rg [a.x,a.y,D]
def ag8(h:Odd D)(a:Pr K D):Up a\/a=0\/Up (-a):=by
 by_cases i:a=0;exact y2 (y1 i);have k:a.N≠0:=λe=>i (ad9 h e)
 have j:a.N=a.x*a.x-a.y*a.y*D:=rfl;have l:=h.pos;unfold Up;rw[ahs];obtain g|g|g:=Gm a.N
 obtain b|b|b:=Gm a.x
 exact y1 (y1 ⟨g,b⟩);exfalso;have c:=BS (rN a.y) (y1 l);have d:a.x*a.x-a.y*a.y*D+a.y*a.y*D=0:=by rw[b];exact rg [a.y,D]
 rw[j]at g;exact ub (BL g c) d;exact y2 (y2 (y1 ⟨g,b⟩));exact api g k;obtain b|b|b:=Gm a.y
 exact y1 (y2 ⟨g,b⟩);exfalso;have c:=rN a.x;have d: -(a.x*a.x-a.y*a.y*D)+a.x*a.x=0:=by rw[b];exact rg [a.x,D]
 rw[j]at g;exact ub (BL g c) d;exact y2 (y2 (y2 ⟨g,b⟩))
def y9:¬Up (0:Pr K D):=by rintro(⟨_,h⟩|⟨_,h⟩);exact lO (show dH.pos (0:K)from h);exact lO (show dH.pos (0:K)from h)
def aid{a:Pr K D}(h:Up a)(g:Up (-a)):False:=by
 unfold Up at h g;rw[ahs]at g;rcases h with⟨e,d⟩|⟨e,d⟩<;>rcases g with⟨c,b⟩|⟨c,b⟩
 exact pO d b;exact pO e c;exact pO c e;exact pO d b
def Vc(h:Odd D)(a:Pr K D)(i:a≠0):∃b:Pr K D,a*b=1:=by
 have d:a.N≠0:=λe=>i (ad9 h e)
 obtain⟨c,g⟩:=inv a.N d;have j:(a.x*a.x-a.y*a.y*D)*c=1:=g;refine⟨⟨a.x*c,-a.y*c⟩,ext' ?_ ?_⟩;show a.x*(a.x*c)+a.y*(-a.y*c)*D=1;rw[<-j];exact rg [a.x,a.y,c,D];show a.x*(-a.y*c)+a.y*(a.x*c)=0;exact rg [a.x,a.y,c]
def up_add(h:Odd D){a b:Pr K D}(m:Up a)(i:Up b):Up (a+b):=by
 have k:b≠0:=λe=>y9 (e▸i)
 obtain⟨c,d⟩:=Vc h b k;have l:Up c:=by
  obtain g|g|g:=ag8 h c
  ·exact g
  ·exfalso
   rw[g,bB]at d;exact y9 (D:=D) (d▸Rs)
  ·exfalso
   have:=up_mul h i g;have e:b* -c= -(1:Pr K D):=by rw[<-d];exact rg [b,c]
   rw[e]at this;exact aid Rs this
 have j:=up_mul h (aer h (up_mul h m l)) i;have e:(a*c+1)*b=a+b:=rg1 [a,b,c] a d;rw[e]at j;exact j
@[reducible] def fld(h:Odd D):dH (Pr K D)where
 pos:=Up
 gB:=up_add h
 cQ:=up_mul h
 Gm:=ag8 h
 lO:=y9
 j_:=Rs
 inv:=Vc h
end Pr
instance:dH cl where
 fo:=Rat.add_assoc
 kM:=Rat.add_comm
 add_zero':=asQ
 rS a:=by grind
 oP:=ar5
 fT:=Rat.mul_comm
 pU:=asI
 wU:=Rat.mul_add
 sub_def':=arM
 pos a:=0<a
 gB:=by intro a b h c;grind
 cQ:=by intro a b h c;exact Rat.mul_pos h c
 Gm a:=by grind
 lO:=by grind
 j_:=zv
 inv a h:=⟨a⁻¹,arN a h⟩
structure pD(K K':Type)[dH K][dH K']where
 φ:K->K'
 add:∀a b,φ (a+b)=φ a+φ b
 mul:∀a b,φ (a*b)=φ a*φ b
 pos:∀a,dH.pos a->dH.pos (φ a)
namespace pD
section
variable {K K':Type} [dH K] [dH K'] (f:pD K K')
def zero:f.φ 0=0:=by
 have:=f.add 0 0;rw[add_zero']at this;have e:f.φ 0+f.φ 0=f.φ 0+0:=by rw[add_zero',<-this]
 exact cancel e
def neg(a:K):f.φ (-a)= -f.φ a:=by have:=f.add a (-a);rw[oq,f.zero]at this;exact ug this.symm
def sub(a b:K):f.φ (a-b)=f.φ a-f.φ b:=by rw[sub_def',f.add,f.neg,<-sub_def']
def one:f.φ 1=1:=by
 have h:=f.mul 1 1;rw[pU]at h;have a:=ub (f.pos 1 j_);have e:f.φ 1*(f.φ 1-1)=0:=by have:f.φ 1*(f.φ 1-1)=f.φ 1*f.φ 1-f.φ 1:=rg [f.φ 1];rw[this,<-h,sub_def',oq]
 exact fJ.1 ((mul_eq_zero e).resolve_left a)
def nV(a:K):sg (f.φ a)=sg a:=by
 rcases pI a with⟨h,e⟩|⟨h,e⟩|⟨h,e⟩
 rw[e,sG (f.pos a h)];rw[h,f.zero,iU,iU];rw[e,yO (by rw[<-f.neg];exact f.pos _ h)]
end
def id(K:Type)[dH K]:pD K K:=⟨λa=>a,λ_ _=>rfl,λ_ _=>rfl,λ_ h=>h⟩
def comp{K K' c:Type}[dH K][dH K'][dH c](g:pD K' c)(f:pD K K'):pD K c:=
 ⟨λa=>g.φ (f.φ a),λa b=>by rw[f.add,g.add],λa b=>by rw[f.mul,g.mul],λa h=>g.pos _ (f.pos _ h)⟩
end pD
def akI(K:Type)[dH K](D:K)(k:nn D):∃(K':Type)(_:dH K')(f:pD K K')(s:K'),nn s/\s*s=f.φ D:=by
 by_cases h:∃z:K,z*z=D;obtain⟨z,j⟩:=h;by_cases c:nn z;exact⟨K,inferInstance,pD.id K,z,c,j⟩;refine⟨K,inferInstance,pD.id K,-z,?_,?_⟩;obtain g|g|g:=Gm z
 exact api (y1 g) c;exact api (y2 g) c;exact y1 g;show -z* -z=D;rw[<-j];exact rg [z];have d:Pr.Odd D:=⟨k,λz e=>h ⟨z,e⟩⟩;refine⟨Pr K D,Pr.fld d,@pD.mk K (Pr K D) _ (Pr.fld d) (λa=>⟨a,0⟩) (λa b=>?_) (λa b=>?_) (λa i=>?_),⟨0,1⟩,?_,?_⟩;exact Pr.ext' rfl (show(0:K)=0+0 from(add_zero' 0).symm);exact Pr.ext' (show a*b=a*b+0*0*D from rg [a,b,D]) (show(0:K)=a*0+0*b from rg [a,b]);refine y1 ⟨?_,i⟩;show pos (a*a-0*0*D);exact of_eq (cQ i i) (rg [a,D]);left;refine y2 ⟨?_,j_⟩;show pos (-((0:K)*0-1*1*D));exact of_eq d.pos (rg [D]);exact Pr.ext' (show(0:K)*0+1*1*D=D from rg [D]) (show(0:K)*1+1*0=0 from rg [(0:K)])
end fb
open Go Go.RowKit
inductive D where
 |any
 |lit (v:b3)
 |row (len:aw) (full:b5) (xs:ai D)
 |agg (xs:ai D)
 |aP (xs:ai D)
 |aJ (xs:ai D)
 |ptr (b off:aw)
 |aY (b off len cap:aw)
 |bG (b n size:aw)
 |fn (f:c7) (first wY:ai D)
 deriving Inhabited
inductive b9(w:bn)(X:aw->Prop):b3->D->Prop
 |any (v:b3):b9 w X v .any
 |lit (v:b3):b9 w X v (.lit v)
 |row (a:bF Addr) (len cap:aw) (full:b5) (us:ai b3) (xs:ai D)
   (hl:us.length=xs.length) (hlen:len<=cap) (zw:cap<=lj) (hf:full=bj->cap=len)
   (hm:∀i(h:i<us.length),∃a',a=a6 a'/\¬X a'.block/\w.cell? (a'.add i)=a6 us[i])
   (hr:∀i(h:i<us.length)(h':i<xs.length),b9 w X us[i] xs[i]):b9 w X (.slice a len cap) (.row len full xs)
 |aJ (a:Addr) (us:ai b3) (xs:ai D) (hl:us.length=xs.length)
   (hm:∀i(h:i<us.length),¬X a.block/\w.cell? (a.add i)=a6 us[i])
   (hr:∀i(h:i<us.length)(h':i<xs.length),b9 w X us[i] xs[i]):b9 w X (.pointer (a6 a)) (.aJ xs)
 |agg (us:ai b3) (xs:ai D) (hl:us.length=xs.length)
   (hr:∀i(h:i<us.length)(h':i<xs.length),b9 w X us[i] xs[i]):b9 w X (.agg us.toArray) (.agg xs)
 |aP (us:ai b3) (xs:ai D) (hl:us.length=xs.length)
   (hr:∀i(h:i<us.length)(h':i<xs.length),b9 w X us[i] xs[i]):b9 w X (.tuple us.toArray) (.aP xs)
 |fn (f:c7) (us dx:ai b3) (xs Eb:ai D) (hl:us.length=xs.length) (Cs:dx.length=Eb.length)
   (hr:∀i(h:i<us.length)(h':i<xs.length),b9 w X us[i] xs[i]) (tM:∀i(h:i<dx.length)(h':i<Eb.length),b9 w X dx[i] Eb[i]):
   b9 w X (.func (.func f) us.toArray dx.toArray) (.fn f xs Eb)
def tP:(2:aw)^43=8796093022208:=zv
def dS:(2:aw)^44=17592186044416:=zv
def dR:(2:aw)^45=35184372088832:=zv
def xe:(2:aw)^47=140737488355328:=zv
def Hp:(2:aw)^59=576460752303423488:=zv
def dF:(2:aw)^60=1152921504606846976:=zv
def Bv:(2:aw)^62=4611686018427387904:=zv
def b9.mono{w w':bn}{X X':aw->Prop}(h:∀a u,w.cell? a=a6 u->¬X a.block->w'.cell? a=a6 u/\¬X' a.block)
  {v:b3} {d:D} (r:b9 w X v d):b9 w' X' v d:=by
 induction r with
 |any v=>exact .any v
 |lit v=>exact .lit v
 |row a len cap full us xs e hlen q t hm _ b=>
  refine .row a len cap full us xs e hlen q t (λi m=>?_) b
  obtain⟨j,x,l,p⟩:=hm i m;have g:(j.add i).block=j.block:=by unfold Addr.add;split<;>rfl
  have:=h (j.add i) _ p (by rw[g];exact l)
  exact⟨j,x,by rw[g]at this;exact this.2,this.1⟩
 |aJ a us xs e hm _ b=>
  refine .aJ a us xs e (λi m=>?_) b
  obtain⟨l,p⟩:=hm i m;have g:(a.add i).block=a.block:=by unfold Addr.add;split<;>rfl
  have:=h (a.add i) _ p (by rw[g];exact l)
  exact⟨by rw[g]at this;exact this.2,this.1⟩
 |agg us xs e _ b=>exact .agg us xs e b
 |aP us xs e _ b=>exact .aP us xs e b
 |fn f us dx xs Eb e y _ _ b k=>exact .fn f us dx xs Eb e y b k
def aR(w:bn)(X:aw->Prop)(us:ai b3)(xs:ai D):Prop:=
 y6 us=y6 xs/\∀i(h:i<y6 us)(b:i<y6 xs),b9 w X us[i] xs[i]
def aR.nil{w:bn}{X:aw->Prop}:aR w X [] []:=⟨rfl,λi h=>api h zb⟩
def aR.cons{w:bn}{X:aw->Prop}{u:b3}{x:D}{us:ai b3}{xs:ai D}(h:b9 w X u x)(hs:aR w X us xs):aR w X (u::us) (x::xs):=by
 refine⟨by simp[hs.1],λi d b=>?_⟩;cases i with
 |zero=>exact h
 |succ i=>exact hs.2 i (by simpa using d) (by simpa using b)
def aR.head{w:bn}{X:aw->Prop}{u:b3}{x:D}{us:ai b3}{xs:ai D}(h:aR w X (u::us) (x::xs)):b9 w X u x:=h.2 0 zb zb
def aR.tail{w:bn}{X:aw->Prop}{u:b3}{x:D}{us:ai b3}{xs:ai D}(h:aR w X (u::us) (x::xs)):aR w X us xs:=
 ⟨by simpa using h.1,λi d b=>by have:=h.2 (i+1) (by simpa using d) (by simpa using b);simpa using this⟩
def aR.mono{w w':bn}{X X':aw->Prop}(h:∀a u,w.cell? a=a6 u->¬X a.block->w'.cell? a=a6 u/\¬X' a.block)
  {us:ai b3} {xs:ai D} (b:aR w X us xs):aR w' X' us xs:=⟨b.1,λi e d=>(b.2 i e d).mono h⟩
def aR.append{w:bn}{X:aw->Prop}{us dx:ai b3}{xs Eb:ai D}(h:aR w X us xs)(d:aR w X dx Eb):aR w X (us++dx) (xs++Eb):=by
 refine⟨by simp[h.1,d.1],λi g j=>?_⟩
 by_cases b:i<y6 us
 ·rw[aqW b,aqW (by rw[<-h.1];exact b)];exact h.2 i b (by rw[<-h.1];exact b)
 ·rw[aqR za,aqR (by rw[<-h.1];omega)]
  have e:i-y6 xs=i-y6 us:=by rw[h.1]
  have f:i-y6 us<y6 dx:=by simp at g;omega
  have:=d.2 (i-y6 us) f (by rw[<-d.1];exact f)
  simp only[e];exact this
def aR.drop{w:bn}{X:aw->Prop}{us:ai b3}{xs:ai D}(h:aR w X us xs)(n:aw):aR w X (us.drop n) (xs.drop n):=by refine⟨by simp[h.1],λi d b=>?_⟩;rw[arq,arq];exact h.2 _ (by simp at d;omega) (by simp at b;omega)
def aR.take{w:bn}{X:aw->Prop}{us:ai b3}{xs:ai D}(h:aR w X us xs)(n:aw):aR w X (us.take n) (xs.take n):=by refine⟨by simp[h.1],λi d b=>?_⟩;rw[ars,ars];exact h.2 _ (by simp at d;omega) (by simp at b;omega)
def LQ(Q:b3->D->Prop)(us:ai b3)(xs:ai D):Prop:=y6 us=y6 xs/\∀i(h:i<y6 us)(b:i<y6 xs),Q us[i] xs[i]
section
variable {Q Q':b3->D->Prop} {us dx:ai b3} {xs Eb:ai D}
def LQ.nil:LQ Q [] []:=⟨rfl,λi h=>api h zb⟩
def LQ.cons{u:b3}{x:D}(h:Q u x)(hs:LQ Q us xs):LQ Q (u::us) (x::xs):=by
 refine⟨by simp[hs.1],λi d b=>?_⟩;cases i with
 |zero=>exact h
 |succ i=>exact hs.2 i (by simpa using d) (by simpa using b)
def LQ.mono(h:LQ Q us xs)(d:∀u x,x∈xs->Q u x->Q' u x):LQ Q' us xs:=⟨h.1,λi e b=>d _ _ (apD b) (h.2 i e b)⟩
def LQ.append(h:LQ Q us xs)(d:LQ Q dx Eb):LQ Q (us++dx) (xs++Eb):=by
 refine⟨by simp[h.1,d.1],λi g j=>?_⟩
 by_cases b:i<y6 us
 ·rw[aqW b,aqW (by rw[<-h.1];exact b)];exact h.2 i b (by rw[<-h.1];exact b)
 ·rw[aqR za,aqR (by rw[<-h.1];omega)]
  have e:i-y6 xs=i-y6 us:=by rw[h.1]
  have f:i-y6 us<y6 dx:=by simp at g;omega
  have:=d.2 (i-y6 us) f (by rw[<-d.1];exact f)
  simp only[e];exact this
def LQ.drop(h:LQ Q us xs)(n:aw):LQ Q (us.drop n) (xs.drop n):=by refine⟨by simp[h.1],λi d b=>?_⟩;rw[arq,arq];exact h.2 _ (by simp at d;omega) (by simp at b;omega)
def LQ.take(h:LQ Q us xs)(n:aw):LQ Q (us.take n) (xs.take n):=by refine⟨by simp[h.1],λi d b=>?_⟩;rw[ars,ars];exact h.2 _ (by simp at d;omega) (by simp at b;omega)
def LQ.xn(h:LQ Q us xs):LQ Q (us.take (y6 xs)) xs:=by rw[<-h.1,aqM];exact h
def LQ.map{f:D->D}(h:LQ Q us xs)(d:∀u x,x∈xs->Q u x->Q' u (f x)):LQ Q' us (xs.map f):=
 ⟨by simp[h.1],λi g e=>by
  have b:i<y6 xs:=by simpa using e
  rw[ap2];exact d _ _ (apD b) (h.2 i g b)⟩
end
inductive aX(β:aw->aw)(w:bn)(X:aw->Prop):b3->D->Prop
 |p {v:b3} {d:D} (h:b9 w X v d):aX β w X v d
 |ptr (b off:aw):aX β w X (.pointer (a6 ⟨β b,off,bk⟩)) (.ptr b off)
 |aY (b off len cap:aw) (h1:len<=cap) (h2:cap<=lj):aX β w X (.slice (a6 ⟨β b,off,bk⟩) len cap) (.aY b off len cap)
 |bG (b n size cap:aw) (e:c5) (h1:n<=cap) (h2:cap<=lj) (h3:w.shape? (β b)=a6 (e,cap*size)):aX β w X (.slice (a6 ⟨β b,0,bk⟩) n cap) (.bG b n size)
def Ft(w w':bn):Prop:=∀k b,w.shape? k=a6 b->w'.shape? k=a6 b
def aX.mono{β:aw->aw}{w w':bn}{X X':aw->Prop}(h:∀a u,w.cell? a=a6 u->¬X a.block->w'.cell? a=a6 u/\¬X' a.block)(i:Ft w w')
  {v:b3} {d:D} (j:aX β w X v d):aX β w' X' v d:=by
 cases j with
 |p k=>exact .p (k.mono h)
 |ptr b off=>exact .ptr b off
 |aY b off len cap g f=>exact .aY b off len cap g f
 |bG b n size cap e g f l=>exact .bG b n size cap e g f (i _ _ l)
def D.ref:D->bF aw
 |.ptr b _=>a6 b
 |.aY b _ _ _=>a6 b
 |.bG b _ _=>a6 b
 |_=>bk
def D.refs:D->ai aw
 |.agg xs=>xs.filterMap D.ref
 |.aP xs=>xs.filterMap D.ref
 |.ptr b _=>[b]
 |.aY b _ _ _=>[b]
 |.bG b _ _=>[b]
 |_=>[]
def aX.pure{β:aw->aw}{w:bn}{X:aw->Prop}{v:b3}{d:D}(h:aX β w X v d)(b:d.ref=bk):b9 w X v d:=by
 cases h with
 |p h=>exact h
 |ptr=>simp[D.ref]at b
 |aY=>simp[D.ref]at b
 |bG=>simp[D.ref]at b
def aX.congr{β j:aw->aw}{w:bn}{X:aw->Prop}{v:b3}{d:D}(h:aX β w X v d)(f:∀b,d.ref=a6 b->j b=β b):aX j w X v d:=by
 cases h with
 |p h=>exact .p h
 |ptr b off=>rw[<-f b rfl];exact .ptr b off
 |aY b off len cap i g=>rw[<-f b rfl];exact .aY b off len cap i g
 |bG b n size cap e i g k=>rw[<-f b rfl];exact .bG b n size cap e i g (by rw[f b rfl];exact k)
inductive bU(β:aw->aw)(w:bn)(X:aw->Prop):b3->D->Prop
 |c {v:b3} {d:D} (h:aX β w X v d):bU β w X v d
 |agg (us:ai b3) (xs:ai D) (h:LQ (aX β w X) us xs):bU β w X (.agg us.toArray) (.agg xs)
 |aP (us:ai b3) (xs:ai D) (h:LQ (aX β w X) us xs):bU β w X (.tuple us.toArray) (.aP xs)
def pN{d:D}{b:aw}(h:d.ref=a6 b):b∈d.refs:=by cases d<;>simp[D.ref]at h<;>simp[D.refs,h]
def O8{d:D}{b:aw}(h:d.ref=a6 b):d.refs=[b]:=by cases d<;>simp[D.ref]at h<;>simp[D.refs,h]
def WH{d:D}(h:∀xs,d≠.agg xs)(b:∀xs,d≠.aP xs):d.refs=d.ref.toList:=by cases d<;>first|rfl|exact api rfl (h _)|exact api rfl (b _)
def fC{w:bn}{X:aw->Prop}{v:b3}{d:D}(b:b9 w X v d):d.ref=bk:=by cases b<;>rfl
def LQ.pure{β:aw->aw}{w:bn}{X:aw->Prop}{us:ai b3}{xs:ai D}(h:LQ (aX β w X) us xs)(e:∀d∈xs,d.ref=bk):aR w X us xs:=
 ⟨h.1,λi f b=>(h.2 i f b).pure (e _ (apD b))⟩
def aR.lq{β:aw->aw}{w:bn}{X:aw->Prop}{us:ai b3}{xs:ai D}(h:aR w X us xs):LQ (aX β w X) us xs:=⟨h.1,λi d b=>.p (h.2 i d b)⟩
def filterMap_nil{xs:ai D}(h:xs.filterMap D.ref=[]):∀d∈xs,d.ref=bk:=by
 intro d f;cases e:d.ref with
 |none=>rfl
 |some b=>
  have:b∈xs.filterMap D.ref:=apM.2 ⟨d,f,e⟩;rw[h]at this;cases this
def bU.pure{β:aw->aw}{w:bn}{X:aw->Prop}{v:b3}{d:D}(h:bU β w X v d)(e:d.refs=[]):b9 w X v d:=by
 cases h with
 |c h=>
  refine h.pure ?_;cases f:d.ref with
  |none=>rfl
  |some b=>rw[O8 f]at e;cases e
 |agg us xs h=>have:=h.pure (filterMap_nil e);exact .agg us xs this.1 this.2
 |aP us xs h=>have:=h.pure (filterMap_nil e);exact .aP us xs this.1 this.2
def bU.mono{β:aw->aw}{w w':bn}{X X':aw->Prop}(h:∀a u,w.cell? a=a6 u->¬X a.block->w'.cell? a=a6 u/\¬X' a.block)(b:Ft w w')
  {v:b3} {d:D} (g:bU β w X v d):bU β w' X' v d:=by
 cases g with
 |c i=>exact .c (i.mono h b)
 |agg us xs f=>exact .agg us xs (f.mono λu x _ e=>e.mono h b)
 |aP us xs f=>exact .aP us xs (f.mono λu x _ e=>e.mono h b)
def bU.congr{β j:aw->aw}{w:bn}{X:aw->Prop}{v:b3}{d:D}(h:bU β w X v d)(i:∀b∈d.refs,j b=β b):bU j w X v d:=by
 cases h with
 |c h=>exact .c (h.congr λb e=>i b (pN e))
 |agg us xs h=>exact .agg us xs (h.mono λu x f g=>g.congr λb e=>i b (apM.2 ⟨x,f,e⟩))
 |aP us xs h=>exact .aP us xs (h.mono λu x f g=>g.congr λb e=>i b (apM.2 ⟨x,f,e⟩))
def bU.cell{β:aw->aw}{w:bn}{X:aw->Prop}{v:b3}{d:D}(h:bU β w X v d)(e:∀xs,d≠.agg xs)(b:∀xs,d≠.aP xs):aX β w X v d:=by
 cases h with
 |c h=>exact h
 |agg us xs=>exact api rfl (e xs)
 |aP us xs=>exact api rfl (b xs)
structure as0 where
 tmp:aw->D
 blk:aw->bF (ai D)
 bu:aw->b5
structure Ctx where
 P:cp
 Good:bn->Prop
 F:aw->Prop
 w0:bn
 gh:ai (b3×D)
 gb:aw
 rd:bF aw
 dfs:ai Deferred
 nc:aw->bF Obj
 ns:aw
 kp:aw->bF Obj
 kx:aw->Prop
structure J1(c:Ctx)(w:bn):Prop where
 uX:Below c.w0.heap.size c.w0 w
 nc:∀k o,c.nc k=a6 o->(∀us e fr,o≠.cells us e fr)->w.heap[k]? =a6 o
 sz:c.ns<=w.heap.size
def J1.grow{c:Ctx}{w w':bn}(h:J1 c w)(b:Below w.heap.size w w'):J1 c w':=
 ⟨h.uX.trans (b.mono h.uX.size),λk o e d=>by have:=h.nc k o e d;rw[b.block k (aqi.1 this).1];exact this,apm h.sz b.size⟩
structure ou(c:Ctx)(s:as0)(w:bn)(β:aw->aw)(X:aw->Prop):Prop where
 obj:∀k o,c.kp k=a6 o->w.heap[k]? =a6 o
 x:∀k,c.kx k->X k
 lt:∀k,c.kx k->k<w.heap.size
 off:∀k,(c.kp k).isSome=bj\/c.kx k->∀b,(s.blk b).isSome=bj->β b≠k
def ou.none{c:Ctx}{s:as0}{w:bn}{β:aw->aw}{X:aw->Prop}(f:c.kp=λ_=>Option.none)(e:c.kx=λ_=>False):ou c s w β X:=by
 have d:∀k,c.kp k=Option.none:=λk=>by rw[f]
 have b:∀k,¬c.kx k:=λk h=>by rw[e]at h;exact h
 refine⟨λk o h=>?_,λk h=>(b k h).elim,λk h=>(b k h).elim,λk h=>?_⟩
 ·rw[d]at h;cases h
 ·obtain h|h:=h
  ·rw[d]at h;cases h
  ·exact(b k h).elim
def ou.grow{c:Ctx}{s:as0}{w w':bn}{β:aw->aw}{X:aw->Prop}(h:ou c s w β X)(d:Below w.heap.size w w'):ou c s w' β X:=
 ⟨λk o b=>by have:=h.obj k o b;rw[d.block k (aqi.1 this).1];exact this,h.x,λk b=>apV (h.lt k b) d.size,h.off⟩
def ou.sub{c:Ctx}{s s':as0}{w:bn}{β:aw->aw}{X:aw->Prop}(h:ou c s w β X)(hs:∀b,(s'.blk b).isSome=bj->(s.blk b).isSome=bj):ou c s' w β X:=
 ⟨h.obj,h.x,h.lt,λk d b e=>h.off k d b (hs b e)⟩
def ou.below{c:Ctx}{s:as0}{w:bn}{β:aw->aw}{X:aw->Prop}(h:ou c s w β X){k:aw}(b:(c.kp k).isSome=bj\/c.kx k):k<w.heap.size:=by
 obtain b|b:=b
 obtain⟨o,d⟩:=apn.1 b;exact(aqi.1 (h.obj k o d)).1;exact h.lt k b
structure df(c:Ctx)(n:aw)(s:as0)(a:Act)(w:bn)(β:aw->aw)(X:aw->Prop):Prop where
 defers:a.defers=c.dfs
 size:a.tmps.size=n
 tmp:∀t,bU β w X (a.tmps.getD t fg) (s.tmp t)
 nd:∀t b,b∈(s.tmp t).refs->(s.blk b).isSome=bj
 blk:∀b cs,s.blk b=a6 cs->c.w0.heap.size<=β b/\X (β b)/\∃us e,w.heap[β b]? =a6 (.cells us e (0,0))/\cs.length<=us.size/\LQ (aX β w X) (us.toList.take cs.length) cs
 qS:∀b cs,s.blk b=a6 cs->∀d∈cs,∀b',d.ref=a6 b'->s.bu b=bj/\(s.blk b').isSome=bj
 inj:∀b b',(s.blk b).isSome=bj->(s.blk b').isSome=bj->β b=β b'->b=b'
 F:∀k,c.F k->X k
 uZ:∀k,c.F k->k<c.w0.heap.size
 oH:∀k,X k->k<w.heap.size
 below:J1 c w
 gh:∀p∈c.gh,bU β w X p.1 p.2
 i_:∀p∈c.gh,∀b∈p.2.refs,b<c.gb/\(s.blk b).isSome=bj
 kp:ou c s w β X
def Rel(c:Ctx)(n:aw)(s:as0)(a:Act)(w:bn):Prop:=∃β X,df c n s a w β X
def aa(Good:bn->Prop):Prop:=∀w b,Below w.heap.size w b->Good w->Good b
def Spec(P:cp)(Good:bn->Prop)(f:c7)(args:ai D)(r:D):Prop:=
 ∀(w:bn)(F:aw->Prop)(vals:ai b3),Good w->aR w F vals args->(∀k,F k->k<w.heap.size)->
  vx P f vals.toArray w λe b=>∃v,e=.returned v/\b9 b F v r/\Below w.heap.size w b/\Good b
def Br(P:cp)(Good:bn->Prop)(f:c7)(args:ai D)(n:aw)(cs:ai D):Prop:=
 ∀(w:bn)(F:aw->Prop)(vals:ai b3),Good w->aR w F vals args->(∀k,F k->k<w.heap.size)->
  vx P f vals.toArray w λe b=>∃k us ty,e=.returned (.slice (a6 ⟨k,0,bk⟩) n n)/\n<=lj/\w.heap.size<=k/\b.heap[k]? =a6 (.cells us ty (0,0))/\y6 cs<=us.size/\
   aR b (λj=>F j\/j=k) (us.toList.take (y6 cs)) cs/\Below w.heap.size w b/\Good b
def iS(P:cp)(Good:bn->Prop)(f:c7)(args:ai D)(r:D):Prop:=
 ∀(w:bn)(vals:ai b3),Good w->aR w (λ_=>False) vals args->
  vx P f vals.toArray w λe b=>∃v,e=.returned v/\b9 b (λk=>k<w.heap.size) v r/\Below w.heap.size w b/\Good b
def Addr.block_add(a:Addr)(n:aw):(a.add n).block=a.block:=by unfold Addr.add;split<;>rfl
def Addr.add_add(a:Addr)(m n:aw):(a.add m).add n=a.add (m+n):=by unfold Addr.add;by_cases hm:m=0;subst hm;simp;by_cases b:n=0;subst b;simp[hm];simp[hm,b];omega
def Addr.jM(b o n:aw):(⟨b,o,bk⟩:Addr).add n=⟨b,o+n,bk⟩:=by unfold Addr.add;split<;>simp_all
def yd{w:bn}{a:Addr}{u:b3}(h:w.cell? a=a6 u):a.block<w.heap.size:=World.block_lt_of_cell? w a h
def iV{w w':bn}{X:aw->Prop}(d:Below w.heap.size w w'):
  ∀a u,w.cell? a=a6 u->¬X a.block->w'.cell? a=a6 u/\¬X a.block:=λa u h b=>by
 have:=d.cell (p:=a) (yd h);exact⟨by rw[this];exact h,b⟩
def yn{w w':bn}{X:aw->Prop}(e:Below w.heap.size w w'){k:aw}(f:w.heap.size<=k):
  ∀a u,w.cell? a=a6 u->¬X a.block->w'.cell? a=a6 u/\¬(X a.block\/a.block=k):=λa u h b=>by
 have g:=yd h;refine⟨(iV (X:=X) e a u h b).1,?_⟩;rintro(d|d);exact b d;omega
def df.mz{c:Ctx}{n:aw}{s:as0}{a:Act}{w:bn}{β:aw->aw}{X:aw->Prop}(h:df c n s a w β X)(b:aa c.Good)(d:c.Good c.w0):c.Good w:=b _ _ h.below.uX d
def cw{w:bn}{k:aw}{us:eY b3}{e:c5}{b:aw×aw}(h:w.heap[k]? =a6 (.cells us e b)):w.shape? k=a6 (e,us.size):=by simp[World.shape?,h]
def ju{w:bn}{k:aw}{e:c5}{m:aw}(h:w.shape? k=a6 (e,m)):∃us b,w.heap[k]? =a6 (.cells us e b)/\us.size=m:=by unfold World.shape? at h;split at h;rename_i us f b d;cases h;exact⟨us,b,d,rfl⟩;cases h
def mW{w w':bn}(f:Below w.heap.size w w'):Ft w w':=λk d h=>by obtain⟨e,m⟩:=d;obtain⟨us,g,b,rfl⟩:=ju h;have:=f.block k (aqi.1 b).1;rw[b]at this;exact cw this
def J7{w:bn}{g:aw}{us dx:eY b3}{e:c5}(hu:w.heap[g]? =a6 (.cells us e (0,0)))(hs:dx.size=us.size):Ft w (w.setRow g dx):=λk f h=>by obtain⟨j,m⟩:=f;obtain⟨l,i,d,rfl⟩:=ju h;by_cases b:k=g;subst b;rw[hu]at d;cases d;have:=setRow_heap w k us dx e (0,0) hu;rw[cw this,hs];have:=r9 w g k dx b;rw[d]at this;exact cw this
def df.grow{c:Ctx}{n:aw}{s:as0}{a:Act}{w w':bn}{β:aw->aw}{X:aw->Prop}(h:df c n s a w β X)
  (d:Below w.heap.size w w'):df c n s a w' β X where
 defers:=h.defers
 size:=h.size
 tmp:=λt=>(h.tmp t).mono (iV d) (mW d)
 nd:=h.nd
 blk:=λb cs g=>by obtain⟨v,r,us,e,f,q,m⟩:=h.blk b cs g;refine⟨v,r,us,e,?_,q,m.mono λu x _ i=>i.mono (iV d) (mW d)⟩;rw[d.block (β b) (aqi.1 f).1];exact f
 qS:=h.qS
 inj:=h.inj
 F:=h.F
 uZ:=h.uZ
 oH:=λk l=>apV (h.oH k l) d.size
 below:=h.below.grow d
 gh:=λp j=>(h.gh p j).mono (iV d) (mW d)
 i_:=h.i_
 kp:=h.kp.grow d
def vG{a:Act}{k:aw}{v:b3}(h:k<a.tmps.size):(a.put (a6 k) v).tmps.getD k fg=v:=by have:=Act.eval_put_same a k v h;simpa [Act.eval]using this
def MO{a:Act}{k:aw}{v:b3}(h:¬k<a.tmps.size):(a.put (a6 k) v)=a:=by cases a;simp[Act.put,Array.setIfInBounds,h]
def kX{a:Act}{k t:aw}{v:b3}(h:k≠t):(a.put (a6 k) v).tmps.getD t fg=a.tmps.getD t fg:=by have:=Act.eval_put_ne a k t v h;simpa [Act.eval]using this
def as0.put(s:as0)(n:aw)(dst:bF Tmp)(d:D):as0 where
 tmp:=λt=>if dst=a6 t/\t<n then d else s.tmp t
 blk:=s.blk
 bu:=s.bu
def df.put{c:Ctx}{n:aw}{s:as0}{a:Act}{w:bn}{β:aw->aw}{X:aw->Prop}(h:df c n s a w β X)
  {dst:bF Tmp} {v:b3} {d:D} (j:bU β w X v d) (m:∀b∈d.refs,(s.blk b).isSome=bj):
  df c n (s.put n dst d) (a.put dst v) w β X where
 defers:=by rw[Act.defers_put'];exact h.defers
 size:=by rw[Act.size_put];exact h.size
 tmp:=λt=>by
  show bU β w X _ (if dst=a6 t/\t<n then d else s.tmp t);cases dst with
  |none=>rw[ape zb];exact h.tmp t
  |some k=>
   by_cases g:k=t;subst g;by_cases e:k<n;rw[aph ⟨rfl,e⟩,vG (by rw[h.size];exact e)];exact j;rw[ape (by rintro⟨_,q⟩;exact e q),MO (by rw[h.size];exact e)];exact h.tmp k;rw[ape (by rintro⟨r,_⟩;exact g (ap0 r)),kX g];exact h.tmp t
 nd:=λt b l=>by have f:b∈(if dst=a6 t/\t<n then d else s.tmp t).refs:=l;by_cases i:dst=a6 t/\t<n;rw[aph i]at f;exact m b f;rw[ape i]at f;exact h.nd t b f
 blk:=h.blk
 qS:=h.qS
 inj:=h.inj
 F:=h.F
 uZ:=h.uZ
 oH:=h.oH
 below:=h.below
 gh:=h.gh
 i_:=h.i_
 kp:=h.kp.sub λ_ p=>p
def Rel.weaken{c:Ctx}{n:aw}{s s':as0}{a:Act}{w:bn}(h:Rel c n s a w)
  (x:∀t,s'.tmp t=.any\/s'.tmp t=s.tmp t) (z:∀b,s'.blk b=bk\/s'.blk b=s.blk b) (u:∀b,s.bu b=bj->s'.bu b=bj)
  (E:∀t b,b∈(s'.tmp t).refs->(s'.blk b).isSome=bj) (q:∀b cs,s'.blk b=a6 cs->s.bu b=bj->∀d∈cs,∀g,d.ref=a6 g->(s'.blk g).isSome=bj)
  (v:∀b<c.gb,s'.blk b=s.blk b):Rel c n s' a w:=by
 obtain⟨β,X,h⟩:=h;have back:∀b cs,s'.blk b=a6 cs->s.blk b=a6 cs:=λb cs f=>by
  obtain e|e:=z b
  rw[e]at f;cases f;rw[<-e];exact f
 refine⟨β,X,h.defers,h.size,λt=>?_,E,λb cs f=>h.blk b cs (back b cs f),λb cs f d r g e=>?_,λb g i k=>?_,h.F,h.uZ,h.oH,h.below,h.gh,λp y b j=>?_,h.kp.sub λb C=>by obtain⟨m,l⟩:=apn.1 C;rw[back b m l];rfl⟩
 obtain e|e:=x t
 rw[e];exact .c (.p (.any _));rw[e];exact h.tmp t;have:=(h.qS b cs (back b cs f) d r g e).1;exact⟨u b this,q b cs f this d r g e⟩;obtain⟨m,l⟩:=apn.1 i;obtain⟨B,A⟩:=apn.1 k;exact h.inj b g (by rw[back b m l];rfl) (by rw[back g B A];rfl);obtain⟨i,k⟩:=h.i_ p y b j;exact⟨i,by rw[v b i];exact k⟩
def as0.bO(s:as0)(b:aw)(cs:bF (ai D))(d:b5):as0 where
 tmp:=s.tmp
 blk:=λk=>if k=b then cs else s.blk k
 bu:=λk=>s.bu k||(d&&(k==b))
variable {d:b5}
def Nc{s:as0}{b:aw}{cs:bF (ai D)}{k:aw}(h:s.bu k=bj):(s.bO b cs d).bu k=bj:=by show(s.bu k||_)=bj;rw[h];rfl
def abf{s:as0}{b:aw}{cs:bF (ai D)}(h:(s.bu b||d)=bj):(s.bO b cs d).bu b=bj:=by show(s.bu b||(d&&(b==b)))=bj;simpa using h
def ou.add{c:Ctx}{s:as0}{w w':bn}{β:aw->aw}{X:aw->Prop}(h:ou c s w β X)(b:aw)(cs:ai D)(l:b5){g:aw}(m:w.heap.size<=g)(j:Below w.heap.size w w'):
  ou c (s.bO b (a6 cs) l) w' (λk=>if k=b then g else β k) (λk=>X k\/k=g):=
 ⟨(h.grow j).obj,λk d=>y1 (h.x k d),(h.grow j).lt,λk d f p=>by by_cases e:f=b;rw[aph e];have:=h.below d;omega;rw[ape e];have i:(if f=b then a6 cs else s.blk f).isSome=bj:=p;rw[ape e]at i;exact h.off k d f i⟩
def ou.freeze{c:Ctx}{s s':as0}{w:bn}{β:aw->aw}{X:aw->Prop}(h:ou c s w β X){b:aw}(f:(s.blk b).isSome=bj)(hs:∀b,(s'.blk b).isSome=bj->(s.blk b).isSome=bj):
  ou c s' w β (λk=>X k/\k≠β b):=
 ⟨h.obj,λk d=>⟨h.x k d,λe=>h.off k (y2 d) b f e.symm⟩,h.lt,λk d b f=>h.off k d b (hs b f)⟩
def df.new{c:Ctx}{n:aw}{s:as0}{a:Act}{w:bn}{β:aw->aw}{X:aw->Prop}(h:df c n s a w β X)
  (b:aw) (S:s.blk b=bk) (e:c5) (us:eY b3) (cs:ai D) (F:b5) (hle:y6 cs<=us.size) (U:LQ (aX β w X) (us.toList.take (y6 cs)) cs)
  (z:∀d∈cs,∀f,d.ref=a6 f->F=bj/\(s.blk f).isSome=bj):
  df c n (s.bO b (a6 cs) F) a (w.alloc (.cells us e)) (λk=>if k=b then w.heap.size else β k) (λk=>X k\/k=w.heap.size):=by
 have A:Below w.heap.size w (w.alloc (.cells us e)):=(Below.refl _ _).alloc (apc _) _;have C:=yn (X:=X) A (apc w.heap.size);have B:=mW A;have Ns:(w.alloc (.cells us e)).heap[w.heap.size]? =a6 (.cells us e (0,0)):=m3 w _;have lt:∀j,(s.blk j).isSome=bj->β j<w.heap.size:=λj V=>by
  obtain⟨cs',W⟩:=apn.1 V;exact h.oH _ (h.blk j cs' W).2.1
 have J:∀f,(s.blk f).isSome=bj->f≠b:=λf g e=>by rw[e,S]at g;simp at g
 have E:∀f,(s.blk f).isSome=bj->((s.bO b (a6 cs) F).blk f).isSome=bj:=λf g=>by
  show(if f=b then a6 cs else s.blk f).isSome=bj
  split
  ·rfl
  ·exact g
 refine⟨h.defers,h.size,λt=>?_,λt f T=>E f (h.nd t f T),λk cs' i=>?_,λk cs' i d O f R=>?_,λk y i l H=>?_,λk i=>y1 (h.F k i),h.uZ,λk i=>?_,h.below.grow A,λp G=>?_,λp G f g=>?_,h.kp.add b cs F (apc _) A⟩
 ·refine((h.tmp t).mono C B).congr λf g=>?_
  rw[ape (J f (h.nd t f g))]
 ·have l:(if k=b then a6 cs else s.blk k)=a6 cs':=i
  by_cases v:k=b
  ·rw[aph v]at l
   obtain rfl:=ap0 l;simp only[v,gn];exact⟨h.below.uX.size,y2 trivial,us,e,Ns,hle,U.mono λu x M N=>(N.mono C B).congr λf g=>ape (J f (z x M f g).2)⟩
  ·rw[ape v]at l
   obtain⟨q,m,dx,e',P,Z,Y⟩:=h.blk k cs' l;simp only[ks v];refine⟨q,y1 m,dx,e',?_,Z,Y.mono λu x M N=>(N.mono C B).congr λf g=>ape (J f (h.qS k cs' l x M f g).2)⟩
   rw[A.block (β k) (aqi.1 P).1];exact P
 ·have l:(if k=b then a6 cs else s.blk k)=a6 cs':=i
  by_cases v:k=b
  ·rw[aph v]at l
   obtain rfl:=ap0 l;subst v;obtain⟨L,K⟩:=z d O f R;exact⟨abf (by rw[L];simp),E f K⟩
  ·rw[ape v]at l
   obtain⟨L,K⟩:=h.qS k cs' l d O f R;exact⟨Nc L,E f K⟩
 ·have I:(if k=b then a6 cs else s.blk k).isSome=bj:=i
  have r:(if y=b then a6 cs else s.blk y).isSome=bj:=l
  by_cases q:k=b<;>by_cases m:y=b
  ·rw[q,m]
  ·rw[ape m]at r
   simp only[nT q,ks m]at H;have:=lt y r;omega
  ·rw[ape q]at I
   simp only[ks q,nT m]at H;have:=lt k I;omega
  ·rw[ape q]at I
   rw[ape m]at r;simp only[ks q,ks m]at H;exact h.inj k y I r H
 ·have hs:(w.alloc (.cells us e)).heap.size=w.heap.size+1:=zb
  obtain i|i:=i
  ·have:=h.oH k i;omega
  ·omega
 ·refine((h.gh p G).mono C B).congr λf g=>?_
  rw[ape (J f (h.i_ p G f g).2)]
 ·obtain⟨q,m⟩:=h.i_ p G f g
  exact⟨q,E f m⟩
def df.ahU{c:Ctx}{n:aw}{s:as0}{a:Act}{w w':bn}{β:aw->aw}{X:aw->Prop}(h:df c n s a w β X)(A:Below w.heap.size w w')
  (b:aw) (R:s.blk b=bk) {B:aw} {e:c5} {us:eY b3} {cs:ai D} (y:w.heap.size<=B) (hu:w'.heap[B]? =a6 (.cells us e (0,0))) (hle:y6 cs<=us.size)
  (K:aR w' (λk=>X k\/k=B) (us.toList.take (y6 cs)) cs):
  df c n (s.bO b (a6 cs) aj) a w' (λk=>if k=b then B else β k) (λk=>X k\/k=B):=by
 have I:=yn (X:=X) A y;have H:=mW A;have lt:∀j,(s.blk j).isSome=bj->β j<w.heap.size:=λj Y=>by
  obtain⟨cs',Z⟩:=apn.1 Y;exact h.oH _ (h.blk j cs' Z).2.1
 have L:∀f,(s.blk f).isSome=bj->f≠b:=λf m e=>by rw[e,R]at m;simp at m
 have J:∀f,(s.blk f).isSome=bj->((s.bO b (a6 cs) aj).blk f).isSome=bj:=λf m=>by
  show(if f=b then a6 cs else s.blk f).isSome=bj
  split
  ·rfl
  ·exact m
 refine⟨h.defers,h.size,λt=>?_,λt f V=>J f (h.nd t f V),λk cs' g=>?_,λk cs' g d O f M=>?_,λk C g l F=>?_,λk g=>y1 (h.F k g),h.uZ,λk g=>?_,h.below.grow A,λp E=>?_,λp E f m=>?_,h.kp.add b cs aj y A⟩
 ·refine((h.tmp t).mono I H).congr λf m=>?_
  rw[ape (L f (h.nd t f m))]
 ·have l:(if k=b then a6 cs else s.blk k)=a6 cs':=g
  by_cases z:k=b
  ·rw[aph z]at l
   obtain rfl:=ap0 l;simp only[z,gn];exact⟨apm h.below.uX.size y,y2 trivial,us,e,hu,hle,K.lq⟩
  ·rw[ape z]at l
   obtain⟨r,q,dx,e',P,h4,h5⟩:=h.blk k cs' l;simp only[ks z];refine⟨r,y1 q,dx,e',?_,h4,h5.mono λu x U W=>(W.mono I H).congr λf m=>ape (L f (h.qS k cs' l x U f m).2)⟩
   rw[A.block (β k) (aqi.1 P).1];exact P
 ·have l:(if k=b then a6 cs else s.blk k)=a6 cs':=g
  by_cases z:k=b
  ·rw[aph z]at l
   obtain rfl:=ap0 l;obtain⟨i,N,rfl⟩:=apF.1 O;have:=fC (K.2 i (by rw[K.1];exact N) N)
   rw[this]at M;cases M
  ·rw[ape z]at l
   obtain⟨T,S⟩:=h.qS k cs' l d O f M;exact⟨Nc T,J f S⟩
 ·have G:(if k=b then a6 cs else s.blk k).isSome=bj:=g
  have v:(if C=b then a6 cs else s.blk C).isSome=bj:=l
  by_cases r:k=b<;>by_cases q:C=b
  ·rw[r,q]
  ·rw[ape q]at v
   simp only[nT r,ks q]at F;have:=lt C v;omega
  ·rw[ape r]at G
   simp only[ks r,nT q]at F;have:=lt k G;omega
  ·rw[ape r]at G
   rw[ape q]at v;simp only[ks r,ks q]at F;exact h.inj k C G v F
 ·have hs:=(aqi.1 hu).1
  have:=A.size;obtain g|g:=g
  ·have:=h.oH k g;omega
  ·omega
 ·refine((h.gh p E).mono I H).congr λf m=>?_
  rw[ape (L f (h.i_ p E f m).2)]
 ·obtain⟨r,q⟩:=h.i_ p E f m
  exact⟨r,J f q⟩
def df.store{c:Ctx}{n:aw}{s:as0}{a:Act}{w:bn}{β:aw->aw}{X:aw->Prop}(h:df c n s a w β X)
  (b:aw) (cs cs':ai D) (z:b5) (B:s.blk b=a6 cs) (us dx:eY b3) (e:c5) (hu:w.heap[β b]? =a6 (.cells us e (0,0))) (F8:dx.size=us.size)
  (hle:y6 cs'<=dx.size) (U:LQ (aX β w X) (dx.toList.take (y6 cs')) cs') (I:∀d∈cs',∀f,d.ref=a6 f->(s.bu b||z)=bj/\(s.blk f).isSome=bj):
  df c n (s.bO b (a6 cs') z) a (w.setRow (β b) dx) β X:=by
 obtain⟨C,N,R,e0,h3,h4⟩:=h.blk b cs B;have v:∀a u,w.cell? a=a6 u->¬X a.block->(w.setRow (β b) dx).cell? a=a6 u/\¬X a.block:=λa u W K=>
  ⟨by rw[cell_setRow_other w (β b) dx a (λe=>K (by rw[e];exact N))];exact W,K⟩
 have r:=J7 hu F8;have AY:Below c.w0.heap.size w (w.setRow (β b) dx):=⟨rfl,rfl,rfl,by simp,λk g=>r9 w (β b) k dx za⟩;have y:∀f,(s.blk f).isSome=bj->((s.bO b (a6 cs') z).blk f).isSome=bj:=λf l=>by show(if f=b then a6 cs' else s.blk f).isSome=bj;split;rfl;exact l
 have E:∀f,((s.bO b (a6 cs') z).blk f).isSome=bj->(s.blk f).isSome=bj:=λf l=>by have O:(if f=b then a6 cs' else s.blk f).isSome=bj:=l;by_cases C:f=b;rw[C,B];rfl;rw[ape C]at O;exact O
 refine⟨h.defers,h.size,λt=>(h.tmp t).mono v r,λt f T=>y f (h.nd t f T),λk j g=>?_,λk j g d M f P=>?_,λk J g i V=>h.inj k J (E k g) (E J i) V,h.F,h.uZ,λk g=>by simpa using h.oH k g,
  ⟨h.below.uX.trans AY,λk o g L=>by have q:=h.below.nc k o g L;rw[r9 w (β b) k dx (λe=>by rw[e,hu]at q;cases q;exact L _ _ _ rfl)];exact q,by simpa using h.below.sz⟩,λp A=>(h.gh p A).mono v r,λp A f l=>⟨(h.i_ p A f l).1,y f (h.i_ p A f l).2⟩,
  ⟨λk o g=>by rw[r9 w (β b) k dx (λe=>h.kp.off k (y1 (by rw[g];rfl)) b (by rw[B];rfl) e.symm)];exact h.kp.obj k o g,h.kp.x,λk g=>by simpa using h.kp.lt k g,λk g f l=>h.kp.off k g f (E f l)⟩⟩
 have i:(if k=b then a6 cs' else s.blk k)=a6 j:=g;by_cases m:k=b;rw[aph m]at i;obtain rfl:=ap0 i;subst m;exact⟨C,N,dx,e,setRow_heap w (β k) us dx e (0,0) hu,hle,U.mono λu x _ H=>H.mono v r⟩;rw[ape m]at i;obtain⟨k1,k2,Z,Y,k3,k4,k5⟩:=h.blk k j i;have S:β k≠β b:=λe=>m (h.inj k b (by rw[i];rfl) (by rw[B];rfl) e)
 exact⟨k1,k2,Z,Y,by rw[r9 w (β b) (β k) dx S];exact k3,k4,k5.mono λu x _ H=>H.mono v r⟩;have i:(if k=b then a6 cs' else s.blk k)=a6 j:=g;by_cases m:k=b;rw[aph m]at i;obtain rfl:=ap0 i;subst m;obtain⟨G,F⟩:=I d M f P;exact⟨abf G,y f F⟩;rw[ape m]at i;obtain⟨G,F⟩:=h.qS k j i d M f P;exact⟨Nc G,y f F⟩
def D.clear(b:aw)(d:D):D:=if d.refs.contains b then .any else d
def yb{b f:aw}{d:D}(h:f∈(d.clear b).refs):f∈d.refs/\f≠b:=by unfold D.clear at h;split at h;simp[D.refs]at h;rename_i g;exact⟨h,λe=>g (by rw[<-e];simpa using h)⟩
def L4{b e:aw}{d:D}(h:(d.clear b).ref=a6 e):d.ref=a6 e/\e≠b:=by have f:=yb (pN h);refine⟨?_,f.2⟩;unfold D.clear at h;split at h;simp[D.ref]at h;exact h
def as0.clear(s:as0)(b:aw):as0 where
 tmp:=λt=>(s.tmp t).clear b
 blk:=λk=>if s.bu k then(s.blk k).map (m4 (D.clear b))else s.blk k
 bu:=s.bu
def q_{s:as0}{b k:aw}:((s.clear b).blk k).isSome=(s.blk k).isSome:=by show(if s.bu k then(s.blk k).map (m4 (D.clear b))else s.blk k).isSome=_;split<;>simp
def Ce{s:as0}{b k:aw}{cs:ai D}(h:(s.clear b).blk k=a6 cs):∃cs',s.blk k=a6 cs'/\y6 cs=y6 cs'/\((s.bu k=bj/\cs=cs'.map (D.clear b))\/(s.bu k=aj/\cs=cs')):=by
 have d:(if s.bu k then(s.blk k).map (m4 (D.clear b))else s.blk k)=a6 cs:=h;split at d;rename_i e;cases f:s.blk k with
 |none=>rw[f]at d;cases d
 |some cs'=>
  rw[f]at d;simp only[dm,zIq]at d;exact⟨cs',rfl,by rw[<-d];simp,y1 ⟨e,d.symm⟩⟩
 rename_i e;exact⟨cs,d,rfl,y2 ⟨by simpa using e,rfl⟩⟩
def df.clear{c:Ctx}{n:aw}{s:as0}{a:Act}{w:bn}{β:aw->aw}{X:aw->Prop}(h:df c n s a w β X)(b:aw):df c n (s.clear b) a w β X where
 defers:=h.defers
 size:=h.size
 tmp:=λt=>by show bU β w X _ ((s.tmp t).clear b);unfold D.clear;split;exact .c (.p (.any _));exact h.tmp t
 nd:=λt f y=>by rw[q_];exact h.nd t f (yb y).1
 blk:=λk cs g=>by
  obtain⟨cs',i,q,j⟩:=Ce g;obtain⟨k1,k2,us,e,k3,k4,k5⟩:=h.blk k cs' i;refine⟨k1,k2,us,e,k3,by omega,?_⟩;rw[q];rcases j with⟨_,rfl⟩|⟨_,rfl⟩
  refine k5.map λu x _ z=>?_
  unfold D.clear;split;exact .p (.any _);exact z;exact k5
 qS:=λk cs g d m f r=>by
  rw[q_];obtain⟨cs',i,q,j⟩:=Ce g;rcases j with⟨_,rfl⟩|⟨_,rfl⟩
  obtain⟨d0,C,rfl⟩:=apN.1 m;exact h.qS k cs' i d0 C f (L4 r).1;exact h.qS k _ i d m f r
 inj:=λk v g B=>h.inj k v (by rwa [q_]at g) (by rwa [q_]at B)
 F:=h.F
 uZ:=h.uZ
 oH:=h.oH
 below:=h.below
 gh:=h.gh
 i_:=λp A f l=>by rw[q_];exact h.i_ p A f l
 kp:=h.kp.sub λf l=>by rwa [q_]at l
def df.alZ{c:Ctx}{n:aw}{s:as0}{a:Act}{w:bn}{β:aw->aw}{X:aw->Prop}(h:df c n s a w β X)(b:aw)(O:c.gb<=b)
  (N:∀t,b∉(s.tmp t).refs) (z:∀k cs,s.blk k=a6 cs->∀d∈cs,d.ref≠a6 b) (e:c5) (us:eY b3) (cs:ai D) (hle:y6 cs<=us.size) (u:aR w X (us.toList.take (y6 cs)) cs):
  df c n (s.bO b (a6 cs) aj) a (w.alloc (.cells us e)) (λk=>if k=b then w.heap.size else β k) (λk=>X k\/k=w.heap.size):=by
 have L:df c n (s.bO b bk aj) a w β X:=by
  have back:∀k cs',(s.bO b bk aj).blk k=a6 cs'->k≠b/\s.blk k=a6 cs':=λk cs' j=>by have l:(if k=b then bk else s.blk k)=a6 cs':=j;split at l;cases l;rename_i g;exact⟨g,l⟩
  refine⟨h.defers,h.size,h.tmp,λt f E=>?_,λk cs' j=>h.blk k cs' (back k cs' j).2,λk cs' j d q f m=>?_,λk C j l J=>?_,h.F,h.uZ,h.oH,h.below,h.gh,λp I f A=>?_,h.kp.sub λf A=>by obtain⟨y,x⟩:=apn.1 A;rw[(back f y x).2];rfl⟩
  show(if f=b then bk else s.blk f).isSome=bj;rw[ape (λe=>N t (by rw[<-e];exact E))];exact h.nd t f E;obtain⟨P,B⟩:=back k cs' j;obtain⟨H,G⟩:=h.qS k cs' B d q f m;refine⟨Nc H,?_⟩;show(if f=b then bk else s.blk f).isSome=bj;rw[ape (λe=>z k cs' B d q (by rw[<-e];exact m))];exact G;obtain⟨y,x⟩:=apn.1 j;obtain⟨M,v⟩:=apn.1 l;exact h.inj k C (by rw[(back k y x).2];rfl) (by rw[(back C M v).2];rfl) J;obtain⟨r,K⟩:=h.i_ p I f A;refine⟨r,?_⟩;show(if f=b then bk else s.blk f).isSome=bj;rw[ape za];exact K
 have r:=L.new b (by simp[as0.bO]) e us cs aj hle u.lq (λd q f m=>by obtain⟨i,F,rfl⟩:=apF.1 q;have:=fC (u.2 i (by rw[u.1];exact F) F);rw[this]at m;cases m)
 have v:(s.bO b bk aj).bO b (a6 cs) aj=s.bO b (a6 cs) aj:=by
  simp only[as0.bO];congr 1
  funext k
  split<;>rfl
  funext k;simp
 rw[v]at r;exact r
def D.dD(b:aw)(cs:ai D):D->D
 |.ptr e off=>if e==b then .aJ (cs.drop off)else .ptr e off
 |.aY e off len cap=>if e==b then .row len aj ((cs.drop off).take len)else .aY e off len cap
 |.bG e n size=>if e==b then .row n aj (cs.take (n*size))else .bG e n size
 |d=>d
def D.BD(b:aw)(cs:ai D):D->D
 |.agg xs=>.agg (xs.map (D.dD b cs))
 |.aP xs=>.aP (xs.map (D.dD b cs))
 |d=>d.dD b cs
def as0.freeze(s:as0)(b:aw)(cs:ai D):as0 where
 tmp:=λt=>(s.tmp t).BD b cs
 blk:=λk=>if k=b then bk else if s.bu k then(s.blk k).map (m4 (D.dD b cs))else s.blk k
 bu:=s.bu
def mF{β:aw->aw}{w:bn}{X:aw->Prop}{b:aw}{cs:ai D}{us:eY b3}{e:c5}(hu:w.heap[β b]? =a6 (.cells us e (0,0)))
  (E:aR w X (us.toList.take (y6 cs)) cs) {v:b3} {d:D} (C:aX β w X v d):aX β w (λk=>X k/\k≠β b) v (d.dD b cs):=by
 have B:∀a u,w.cell? a=a6 u->¬X a.block->w.cell? a=a6 u/\¬(X a.block/\a.block≠β b):=λa u h q=>⟨h,λj=>q j.1⟩
 have y:=E.mono (X':=λk=>X k/\k≠β b) B
 have cells:∀f m i(h:i<y6 ((us.toList.take (y6 cs)).drop f|>.take m)),w.cell? ((⟨β b,f,bk⟩:Addr).add i)=a6 (((us.toList.take (y6 cs)).drop f|>.take m)[i]):=by
  intro f m i r;rw[Addr.jM,l0 w _ _ us e (0,0) hu];simp at r⊢
 cases C with
 |p z=>
  have:d.dD b cs=d:=by cases z<;>rfl
  rw[this];exact .p (z.mono B)
 |ptr g f=>
  by_cases l:g=b
  ·subst l
   simp only[D.dD,gp,gn];have j:=y.drop f;refine .p (.aJ _ _ _ j.1 (λi r=>⟨λq=>q.2 rfl,?_⟩) j.2)
   have:=cells f ((us.toList.take (y6 cs)).drop f).length i (by rw[aqM];exact r)
   simpa using this
  ·have:(D.ptr g f).dD b cs=.ptr g f:=by simp[D.dD,l]
   rw[this];exact .ptr g f
 |aY g f len cap t j=>
  by_cases l:g=b
  ·subst l
   simp only[D.dD,gp,gn];have x:=(y.drop f).take len;exact .p (.row _ _ _ _ _ _ x.1 t j (λh=>by cases h) (λi r=>⟨_,rfl,λq=>q.2 rfl,cells f len i r⟩) x.2)
  ·have:(D.aY g f len cap).dD b cs=.aY g f len cap:=by simp[D.dD,l]
   rw[this];exact .aY g f len cap t j
 |bG g n size cap F t j x=>
  by_cases l:g=b
  ·subst l
   simp only[D.dD,gp,gn];have A:=(y.drop 0).take (n*size);refine .p (.row _ _ _ _ _ _ A.1 t j (λh=>by cases h) (λi r=>⟨_,rfl,λq=>q.2 rfl,cells 0 (n*size) i r⟩) A.2)
  ·have:(D.bG g n size).dD b cs=.bG g n size:=by simp[D.dD,l]
   rw[this];exact .bG g n size cap F t j x
def ZA{b:aw}{cs:ai D}{d:D}(h:d.ref=bk):d.dD b cs=d:=by cases d<;>simp[D.ref]at h<;>rfl
def KT{b:aw}{cs xs:ai D}(h:∀d∈xs,d.ref=bk):xs.map (D.dD b cs)=xs:=by rw[apz λd e=>ZA (h d e)];exact List.map_id' xs
def KS{β:aw->aw}{w:bn}{X:aw->Prop}{b:aw}{cs:ai D}{us:eY b3}{e:c5}(hu:w.heap[β b]? =a6 (.cells us e (0,0)))
  (f:aR w X (us.toList.take (y6 cs)) cs) {v:b3} {d:D} (B:bU β w X v d):bU β w (λk=>X k/\k≠β b) v (d.BD b cs):=by
 cases B with
 |c h=>
  cases h with
  |p y=>
   have z:bU β w (λk=>X k/\k≠β b) v d:=.c (.p (y.mono λa u h A=>⟨h,λj=>A j.1⟩));have:d.BD b cs=d:=by
    cases y with
    |agg us xs q f=>simp only[D.BD];rw[KT λd r=>by obtain⟨i,g,rfl⟩:=apF.1 r;exact fC (f i (by rw[q];exact g) g)]
    |aP us xs q f=>simp only[D.BD];rw[KT λd r=>by obtain⟨i,g,rfl⟩:=apF.1 r;exact fC (f i (by rw[q];exact g) g)]
    |_=>rfl
   rw[this];exact z
  |ptr l off=>exact .c (mF hu f (.ptr l off))
  |aY l off len cap t j=>exact .c (mF hu f (.aY l off len cap t j))
  |bG l n size cap E t j C=>exact .c (mF hu f (.bG l n size cap E t j C))
 |agg us xs h=>exact .agg us _ (h.map λu x _ m=>mF hu f m)
 |aP us xs h=>exact .aP us _ (h.map λu x _ m=>mF hu f m)
def En{d:D}{b g:aw}{cs:ai D}(h:(d.dD b cs).ref=a6 g):d.ref=a6 g/\g≠b:=by
 cases d<;>simp only[D.dD]at h
 case ptr f off=>
  by_cases e:f=b;subst e;simp[D.ref]at h;simp[e,D.ref]at h;subst h;exact⟨rfl,e⟩
 case aY f off len cap=>
  by_cases e:f=b;subst e;simp[D.ref]at h;simp[e,D.ref]at h;subst h;exact⟨rfl,e⟩
 case bG f n size=>
  by_cases e:f=b;subst e;simp[D.ref]at h;simp[e,D.ref]at h;subst h;exact⟨rfl,e⟩
 all_goals (exfalso;revert h;simp[D.ref])
def Wb{d:D}{b f:aw}{cs:ai D}(h:f∈(d.BD b cs).refs):f∈d.refs/\f≠b:=by
 have key:∀xs:ai D,f∈(xs.map (D.dD b cs)).filterMap D.ref->f∈xs.filterMap D.ref/\f≠b:=by intro xs i;obtain⟨d1,l,e⟩:=apM.1 i;obtain⟨d0,q,rfl⟩:=apN.1 l;obtain⟨k,j⟩:=En e;exact⟨apM.2 ⟨d0,q,k⟩,j⟩
 have one:∀d0:D,(∀xs,d0.dD b cs≠.agg xs)->(∀xs,d0.dD b cs≠.aP xs)->f∈(d0.dD b cs).refs->f∈d0.refs/\f≠b:=by intro d0 p m i;rw[WH p m,Option.mem_toList]at i;obtain⟨k,j⟩:=En i;exact⟨pN k,j⟩
 cases d with
 |agg xs=>exact key xs h
 |aP xs=>exact key xs h
 |ptr g off=>exact one (.ptr g off) (λxs=>by simp only[D.dD];split<;>simp) (λxs=>by simp only[D.dD];split<;>simp) h
 |aY g off len cap=>exact one (.aY g off len cap) (λxs=>by simp only[D.dD];split<;>simp) (λxs=>by simp only[D.dD];split<;>simp) h
 |bG g n size=>exact one (.bG g n size) (λxs=>by simp only[D.dD];split<;>simp) (λxs=>by simp only[D.dD];split<;>simp) h
 |any=>simp[D.BD,D.dD,D.refs]at h
 |lit v=>simp[D.BD,D.dD,D.refs]at h
 |row=>simp[D.BD,D.dD,D.refs]at h
 |aJ=>simp[D.BD,D.dD,D.refs]at h
 |fn=>simp[D.BD,D.dD,D.refs]at h
def rZ{s:as0}{b:aw}{cs:ai D}{k:aw}{cs':ai D}(h:(s.freeze b cs).blk k=a6 cs'):
  k≠b/\∃e,s.blk k=a6 e/\y6 cs'=y6 e/\((s.bu k=bj/\cs'=e.map (D.dD b cs))\/(s.bu k=aj/\cs'=e)):=by
 have d:(if k=b then bk else if s.bu k then(s.blk k).map (m4 (D.dD b cs))else s.blk k)=a6 cs':=h;split at d;cases d;rename_i i;refine⟨i,?_⟩;split at d;rename_i f;cases g:s.blk k with
 |none=>rw[g]at d;cases d
 |some e=>
  rw[g]at d;simp only[dm,zIq]at d;exact⟨e,rfl,by rw[<-d];simp,y1 ⟨f,d.symm⟩⟩
 rename_i f;exact⟨cs',d,rfl,y2 ⟨by simpa using f,rfl⟩⟩
def zy{s:as0}{b:aw}{cs:ai D}{k:aw}(h:k≠b):((s.freeze b cs).blk k).isSome=(s.blk k).isSome:=by show(if k=b then bk else if s.bu k then(s.blk k).map (m4 (D.dD b cs))else s.blk k).isSome=_;rw[ape h];split<;>simp
def df.freeze{c:Ctx}{n:aw}{s:as0}{a:Act}{w:bn}{β:aw->aw}{X:aw->Prop}(h:df c n s a w β X){b:aw}{cs:ai D}(F:s.blk b=a6 cs)(V:∀d∈cs,d.ref=bk)(qj:c.gb<=b):
  df c n (s.freeze b cs) a w β (λk=>X k/\k≠β b):=by
 obtain⟨h1,N,us,e,I,_,G⟩:=h.blk b cs F;have H:=G.pure V;have Qb:∀a u,w.cell? a=a6 u->¬X a.block->w.cell? a=a6 u/\¬(X a.block/\a.block≠β b):=λa u h v=>⟨h,λN=>v N.1⟩
 refine⟨h.defers,h.size,λt=>KS I H (h.tmp t),λt j Y=>?_,λk cs' i=>?_,λk cs' i d f j R=>?_,λk W i fX he=>?_,λk i=>⟨h.F k i,λe=>by have:=h.uZ k i;omega⟩,h.uZ,λk i=>h.oH k i.1,h.below,λp y=>?_,λp y j K=>?_,h.kp.freeze (by rw[F];rfl) λj K=>by
   obtain⟨c1,J⟩:=apn.1 K;obtain⟨_,_,l,_⟩:=rZ J;rw[l];rfl⟩
 ·obtain⟨r,m⟩:=Wb Y
  rw[zy m];exact h.nd t j r
 ·obtain⟨P,B,q0,L,A⟩:=rZ i
  obtain⟨r,m,dx,e',U,q4,M⟩:=h.blk k B q0;refine⟨r,⟨m,λe=>P (h.inj k b (by rw[q0];rfl) (by rw[F];rfl) e)⟩,dx,e',U,by omega,?_⟩
  rw[L];rcases A with⟨_,rfl⟩|⟨qn,rfl⟩
  ·exact M.map λu x _ E=>mF I H E
  ·refine M.mono λu x v E=>?_
   have C:x.ref=bk:=by
    cases Z:x.ref with
    |none=>rfl
    |some j=>have:=(h.qS k cs' q0 x v j Z).1;rw[qn]at this;cases this
   exact .p ((E.pure C).mono Qb)
 ·obtain⟨P,B,q0,L,A⟩:=rZ i
  rcases A with⟨_,rfl⟩|⟨qn,rfl⟩
  ·obtain⟨d0,Gb,rfl⟩:=apN.1 f
   obtain⟨l,z⟩:=En R;obtain⟨T,S⟩:=h.qS k B q0 d0 Gb j l;exact⟨T,by rw[zy z];exact S⟩
  ·have:=(h.qS k cs' q0 d f j R).1
   rw[qn]at this;cases this
 ·obtain⟨c1,J⟩:=apn.1 i
  obtain⟨c2,e2⟩:=apn.1 fX;obtain⟨_,_,l,_⟩:=rZ J;obtain⟨_,_,z,_⟩:=rZ e2;exact h.inj k W (by rw[l];rfl) (by rw[z];rfl) he
 ·have g:b∉p.2.refs:=λe=>by have:=(h.i_ p y b e).1;omega
  have:p.2.BD b cs=p.2:=by
   have one:∀d:D,d.ref≠a6 b->d.dD b cs=d:=by
    intro d f;cases d<;>simp only[D.ref,ne_eq,zIq]at f<;>simp[D.dD,f]
   have many:∀xs:ai D,b∉xs.filterMap D.ref->xs.map (D.dD b cs)=xs:=λxs v=>by
    rw[apz λd f=>one d λe=>v (apM.2 ⟨d,f,e⟩)];exact List.map_id' xs
   cases f:p.2 with
   |agg xs=>rw[f]at g;simp only[D.BD];rw[many xs g]
   |aP xs=>rw[f]at g;simp only[D.BD];rw[many xs g]
   |ptr O off=>rw[f]at g;exact one _ λe=>g (pN e)
   |aY O off len cap=>rw[f]at g;exact one _ λe=>g (pN e)
   |bG O n size=>rw[f]at g;exact one _ λe=>g (pN e)
   |_=>rfl
  have q:=KS I H (h.gh p y)
  rwa [this]at q
 ·obtain⟨r,m⟩:=h.i_ p y j K
  refine⟨r,?_⟩;rw[zy za];exact m
def fK{α:Type}(P:cp):Sem α->bF α
 |.pure a=>a6 a
 |.program k=>fK P (k P)
 |.mark _ k=>fK P k
 |.load .. |.store .. |.new .. |.shape .. |.freeze .. |.frozen .. |.getObj .. |.setObj .. |.choose .. |.sys .. |.halt .. =>bk
def kY{α:Type}{P:cp}{m:Sem α}{a:α}(h:fK P m=a6 a)(w:bn):m.run P w=.ok a w:=by
 induction m with
 |pure b=>simp only[fK,zIq]at h;subst h;rfl
 |program k d=>simp only[fK]at h;simp only[Sem.run];exact d P h
 |mark m k d=>simp only[fK]at h;simp only[Sem.run];exact d h
 |load|store|new|shape|freeze|frozen|getObj|setObj|choose|sys|halt=>simp[fK]at h
def D.uf:b3->D
 |.slice bk 0 0=>.row 0 aj []
 |v=>.lit v
def D.abc:b3->D
 |.agg cs=>.agg (cs.toList.map D.uf)
 |.slice bk 0 0=>.row 0 bj []
 |v=>.lit v
def Db(w:bn)(X:aw->Prop)(f:b5):b9 w X (.slice bk 0 0) (.row 0 f []):=
 .row bk 0 0 f [] [] rfl (apc 0) (by unfold lj;omega) (λ_=>rfl) (λi h=>api h zb) (λi h=>api h zb)
def D.Iw(w:bn)(X:aw->Prop)(v:b3):b9 w X v (D.uf v):=by unfold D.uf;split;exact Db w X aj;exact .lit _
def D.tk(b:b5):b3->D
 |.slice bk 0 0=>.row 0 b []
 |v=>.lit v
def D.Pu(b:b5)(w:bn)(X:aw->Prop)(v:b3):b9 w X v (D.tk b v):=by unfold D.tk;split;exact Db w X b;exact .lit _
def xz(b:b5)(w:bn)(X:aw->Prop)(l:ai b3):aR w X l (l.map (D.tk b)):=
 ⟨by simp,λi e d=>by rw[ap2];exact D.Pu b w X _⟩
def o7(w:bn)(X:aw->Prop)(l:ai b3):aR w X l (l.map D.uf):=
 ⟨by simp,λi d b=>by rw[ap2];exact D.Iw w X _⟩
def b9.Iv{w:bn}{X:aw->Prop}{us:ai b3}{xs:ai D}(h:aR w X us xs):b9 w X (.agg us.toArray) (.agg xs):=.agg us xs h.1 h.2
def D.Lm(w:bn)(X:aw->Prop)(v:b3):b9 w X v (D.abc v):=by unfold D.abc;split;rename_i cs;have:=b9.Iv (o7 w X cs.toList);simpa using this;exact Db w X bj;exact .lit _
def D.H8:D->D
 |.row n _ xs=>.row n aj xs
 |d=>d
def wh{w:bn}{X:aw->Prop}{v:b3}{d:D}(h:b9 w X v d):b9 w X v d.H8:=by
 cases h with
 |row a len cap full us xs e hlen g k hm b=>exact .row a len cap aj us xs e hlen g (λh=>by cases h) hm b
 |any v=>exact .any v
 |lit v=>exact .lit v
 |aJ a us xs e hm b=>exact .aJ a us xs e hm b
 |agg us xs e b=>exact .agg us xs e b
 |aP us xs e b=>exact .aP us xs e b
 |fn f us dx xs Eb e j b i=>exact .fn f us dx xs Eb e j b i
def D.T8:D->bF b3
 |.lit v=>a6 v
 |_=>bk
def D.oJ:ai D->bF (ai b3)
 |[]=>a6 []
 |x::xs=>match x.T8,D.oJ xs with
  |some v,a6 vs=>a6 (v::vs)
  |_,_=>bk
def D.b_:D->bF b3
 |.lit v=>a6 v
 |.agg xs=>(D.oJ xs).map λvs=>.agg vs.toArray
 |_=>bk
def KR{w:bn}{X:aw->Prop}:∀{us:ai b3}{xs:ai D}{vs:ai b3},aR w X us xs->D.oJ xs=a6 vs->us=vs
 |us,[],vs,h,e=>by simp only[D.oJ,zIq]at e;rw[<-e];exact ap8 (by simpa using h.1)
 |us,x::xs,vs,h,e=>by
  cases us with
  |nil=>have:=h.1;simp at this
  |cons u us=>
   simp only[D.oJ]at e;split at e;rename_i v d b i;simp only[zIq]at e;subst e;have g:=h.head;have f:=KR h.tail i;cases x<;>simp only[D.T8,zIq,reduceCtorEq]at b;subst b;cases g;rw[f];cases e
def tX{w:bn}{X:aw->Prop}{u v:b3}{d:D}(h:b9 w X u d)(e:d.b_=a6 v):u=v:=by
 cases d<;>simp only[D.b_,zIq,reduceCtorEq]at e
 case lit=>subst e;cases h;rfl
 case agg xs=>
  cases b:D.oJ xs with
  |none=>rw[b]at e;cases e
  |some i=>
   rw[b]at e;simp only[dm,zIq]at e;subst e;cases h with
   |agg us _ g f=>rw[KR ⟨g,f⟩ b]
def HB:∀{xs:ai D}{vs:ai b3},D.oJ xs=a6 vs->xs.filterMap D.ref=[]
 |[],_,_=>rfl
 |x::xs,vs,e=>by
  simp only[D.oJ]at e;split at e
  ·rename_i v b g f
   have d:x.ref=bk:=by cases x<;>simp[D.T8]at g<;>rfl
   rw[asD,d];exact HB f
  ·cases e
def Rx{d:D}{v:b3}(e:d.b_=a6 v):d.refs=[]:=by
 cases d<;>simp[D.b_,D.refs]at e⊢
 case agg xs=>
  obtain⟨b,h,_⟩:=e;have:=HB h;rw[ar9]at this;exact this
def D.cells:D->bF (ai D)
 |.agg xs=>a6 xs
 |.lit v=>match v with
  |.agg _|.tuple _=>bk
  |v=>a6 [.lit v]
 |.row n _ xs=>a6 [.row n aj xs]
 |.aJ xs=>a6 [.aJ xs]
 |.ptr b off=>a6 [.ptr b off]
 |.aY b off len cap=>a6 [.aY b off len cap]
 |.bG b n size=>a6 [.bG b n size]
 |.fn f xs d=>a6 [.fn f xs d]
 |_=>bk
def Yk{w:bn}{X:aw->Prop}{v:b3}{d:D}{xs:ai D}(h:b9 w X v d)(e:d.cells=a6 xs):aR w X v.cells.toList xs:=by
 cases h with
 |any=>simp[D.cells]at e
 |lit v=>
  cases v<;>simp only[D.cells,zIq,reduceCtorEq]at e<;>subst e<;>exact aR.cons (.lit _) aR.nil
 |row a len cap full us i g hlen k p hm b=>
  simp only[D.cells,zIq]at e;subst e;exact aR.cons (.row a len cap aj us i g hlen k (λh=>by cases h) hm b) aR.nil
 |aJ a us i g hm b=>
  simp only[D.cells,zIq]at e;subst e;exact aR.cons (.aJ a us i g hm b) aR.nil
 |agg us i g b=>
  simp only[D.cells,zIq]at e;subst e;have e:(Value.agg us.toArray).cells.toList=us:=by simp[Value.cells]
  rw[e];exact⟨g,b⟩
 |aP=>simp[D.cells]at e
 |fn f us dx i j g m b l=>
  simp only[D.cells,zIq]at e;subst e;exact aR.cons (.fn f us dx i j g m b l) aR.nil
def Tx{β:aw->aw}{w:bn}{X:aw->Prop}{v:b3}{d:D}{xs:ai D}(h:bU β w X v d)(e:d.cells=a6 xs):LQ (aX β w X) v.cells.toList xs:=by
 cases h with
 |c h=>cases h with
  |p h=>exact(Yk h e).lq
  |ptr b off=>simp only[D.cells,zIq]at e;subst e;exact LQ.cons (.ptr b off) LQ.nil
  |aY b off len cap g f=>simp only[D.cells,zIq]at e;subst e;exact LQ.cons (.aY b off len cap g f) LQ.nil
  |bG b n size cap t g f i=>simp only[D.cells,zIq]at e;subst e;exact LQ.cons (.bG b n size cap t g f i) LQ.nil
 |agg us j h=>
  simp only[D.cells,zIq]at e;subst e;have e:(Value.agg us.toArray).cells.toList=us:=by simp[Value.cells]
  rw[e];exact h
 |aP=>simp[D.cells]at e
def Ty{d:D}{xs:ai D}(e:d.cells=a6 xs):∀x∈xs,∀b,x.ref=a6 b->b∈d.refs:=by
 intro x f b g;cases d<;>simp only[D.cells,zIq,reduceCtorEq]at e
 case agg i=>subst e;exact apM.2 ⟨x,f,g⟩
 case lit v=>cases v<;>simp only[zIq,reduceCtorEq]at e<;>subst e<;>simp only[dc]at f<;>subst f<;>simp[D.ref]at g
 all_goals (subst e;simp only[dc]at f;subst f;simp[D.ref]at g;try simp[D.refs,g])
def dX(xs:ai D):b5:=xs.any λd=>d.ref.isSome
def je{xs:ai D}(h:dX xs=aj):∀d∈xs,d.ref=bk:=by
 intro d f;unfold dX at h;rw[arS]at h;have:=h d f;cases e:d.ref with
 |none=>rfl
 |some b=>rw[e]at this;simp at this
def yh{xs:ai D}{d:D}{b:aw}(h:d∈xs)(e:d.ref=a6 b):dX xs=bj:=arj.2 ⟨d,h,by rw[e];rfl⟩
def D.bV:D->b5
 |.lit v=>match v with
  |.agg _|.tuple _=>aj
  |_=>bj
 |.row .. |.aJ .. |.ptr .. |.aY .. |.bG .. |.fn .. =>bj
 |_=>aj
def Cf{β:aw->aw}{w:bn}{X:aw->Prop}{v:b3}{d:D}(h:aX β w X v d)(e:d.bV=bj):v.oneCell'=bj:=by
 cases h with
 |p h=>cases h with
  |any=>simp[D.bV]at e
  |lit v=>cases v<;>simp[D.bV,Value.oneCell']at e⊢
  |row=>rfl
  |aJ=>rfl
  |agg=>simp[D.bV]at e
  |aP=>simp[D.bV]at e
  |fn=>rfl
 |ptr=>rfl
 |aY=>rfl
 |bG=>rfl
def cu(P:cp)(t:c5):bF aw:=(P.info? t).map (·.size)
def By(P:cp)(t:c5):bF b3:=(P.info? t).bind (·.zero)
def tU(P:cp)(t:c5):bF b5:=(P.underlying t).map λ|.struct _|.array _ _=>bj|_=>aj
def pH(P:cp)(t:c5):bF (ai D):=(By P t).map λz=>z.cells.toList.map D.uf
def CC(P:cp)(t:c5):bF (ai D):=(By P t).map λz=>z.cells.toList.map (D.tk bj)
def xk(P:cp)(s:c5)(f:aw):bF (aw×c5):=
 match P.underlying s with
 |some (.struct fields)=>(fields[f]?).map λf=>(f.offset,f.type)
 |_=>bk
def dp(P:cp)(t:c5):bF (bF aw×c5):=
 match P.underlying t with
 |some (.slice e)=>a6 (bk,e)
 |some (.array n e)=>a6 (a6 n,e)
 |_=>bk
def KN(P:cp)(t:c5):b5:=match P.underlying t with|some .string=>bj|_=>aj
def D.str:D->bF cB
 |.lit v=>match v with
  |.string s=>a6 s
  |_=>bk
 |_=>bk
inductive JT where
 |no
 |want (p:Prop) (b:b5) (h:b=bj->p)
def JT.ok:JT->Prop
 |.no=>True
 |.want p _ _=>p
def pq(p:Prop)[vp p]:JT:=.want p (decide p) hJ
@[simp] theorem dJ(p:Prop)[vp p]:(pq p).ok=p:=rfl
inductive Eff where
 |val (d:D)
 |new (b:aw) (cs:ai D) (d:D) (nf:b5)
 |store (b off:aw) (ds:ai D) (d:D) (nf:b5)
 |grow (b:aw) (cs:ai D) (d:D)
 |call (f:c7) (args:ai D)
def Jd(place:aw->bF (aw×aw)):ai D->ai (aw×D)->bF (ai D)
 |cs,[]=>a6 cs
 |cs,(i,d)::rest=>
  match place i,d.cells with
  |some (off,size),a6 ds=>if y6 ds==size&&hM (off+size) (y6 cs) then Jd place (cs.take off++(ds++cs.drop (off+size))) rest else bk
  |_,_=>bk
def TC(P:cp)(t:c5)(parts:ai (aw×D))(b:b5):bF (ai D):=
 match P.info? t,P.underlying t with
 |some it,a6 (.array _ e)=>
  match it.zero,P.info? e with
  |some z,a6 d=>Jd (λi=>a6 (i*d.size,d.size)) (z.cells.toList.map (D.tk b)) parts
  |_,_=>bk
 |some it,a6 (.struct fields)=>
  match it.zero,fields.toList.mapM (λf=>(P.info? f.type).map λi=>(f.offset,i.size))with
  |some z,a6 places=>Jd (places.toArray[·]?) (z.cells.toList.map (D.tk b)) parts
  |_,_=>bk
 |_,_=>bk
def CU(b:ai D)(n:aw):ai D:=(ch n).map λi=>y7 b (i%y6 b) .any
def zO(P:cp)(t:c5)(len:aw)(parts:ai (aw×D)):bF (ai D):=
 match P.underlying t with
 |some (.slice e)=>match cu P e,pH P e with
  |some n,a6 b=>if hM (len*n) (2^24)&&y6 b==n&&c3 0 n then Jd (λi=>a6 (i*n,n)) (CU b (len*n)) parts else bk
  |_,_=>bk
 |_=>bk
def Cg(P:cp)(v:D):bF (c7×ai D×ai D):=
 match v with
 |.lit (.func (.func f) first captured)=>match P.funcs[f]?with
  |some fn=>if(first.size==0&&captured.size==0)&&(fn.body.isSome&& !(fn.name== "runtime.NumGoroutine"))then a6 (f,[],[])else bk
  |none=>bk
 |.fn f first b=>match P.funcs[f]?with
  |some fn=>if fn.body.isSome&& !(fn.name== "runtime.NumGoroutine")then a6 (f,first,b)else bk
  |none=>bk
 |_=>bk
def D.Uk:D->b5
 |.row _ _ (_::_)=>bj
 |.aY _ _ _ _=>bj
 |.bG _ _ _=>bj
 |.lit (.slice (a6 _) _ _)=>bj
 |_=>aj
def D.UN:D->b5
 |.lit (.slice bk _ _)=>bj
 |_=>aj
def as0.ev(s:as0):c6->D
 |.tmp t=>s.tmp t
 |.const v=>D.abc v
 |.global g=>.lit (.pointer (a6 ⟨g,0,bk⟩))
 |.func f=>.lit (.func (.func f) #[] #[])
def NM(P:cp)(o:e9)(ρ:c6->D)(blk:aw->bF (ai D))(bu:aw->b5)(nb:aw)(ro:b5)(gb:aw)(H:b5):bF (Eff×JT):=
  match o.op with
  |.move x|.assign x=>a6 (.val (ρ x),.no)
  |.pick c a b=>match ρ c with
    |.lit (.bool bj)=>a6 (.val (ρ a),.no)
    |.lit (.bool aj)=>a6 (.val (ρ b),.no)
    |_=>bk
  |.alloc elem=>match H with
   |true=>match CC P elem with
    |some j=>a6 (.new nb j (.ptr nb 0) aj,.no)
    |none=>bk
   |false=>match pH P elem with
    |some j=>if ro then a6 (.val (.aJ j),.no)else a6 (.new nb j (.ptr nb 0) aj,.no)
    |none=>bk
  |.box _ x=>match(ρ x).cells with
    |some cs=>if ro&& !dX cs then a6 (.val (.aJ cs),.no)else a6 (.new nb cs (.ptr nb 0) (dX cs),.no)
    |none=>bk
  |.build t parts=>match TC P t (parts.toList.map λp=>(p.1,ρ p.2)) ro with
    |some cs=>a6 (.val (.agg cs),.no)
    |none=>bk
  |.buildSlice t len parts=>match zO P t len (parts.toList.map λp=>(p.1,ρ p.2))with
    |some cs=>if dX cs then bk else if ro then a6 (.new nb cs (.aY nb 0 len len) aj,.no)else a6 (.val (.row len bj cs),.no)
    |none=>bk
  |.load t addr=>match cu P t,tU P t with
    |some sz,a6 B=>match ρ addr with
      |.aJ cs=>a6 (.val (if B then .agg (cs.take sz)else cs.headD .any),pq (0<sz/\sz<=y6 cs))
      |.ptr b off=>match blk b with
        |some cs=>a6 (.val (if B then .agg ((cs.drop off).take sz)else(cs.drop off).headD .any),pq (0<sz/\off+sz<=y6 cs))
        |none=>bk
      |_=>bk
    |_,_=>bk
  |.store t addr x=>match ρ addr,(ρ x).cells,cu P t with
    |.ptr b off,a6 A,a6 sz=>match blk b with
      |some cs=>if y6 A==sz&&A.all D.bV then a6 (.store b off A (.lit fg) (dX A),pq (off+sz<=y6 cs))else bk
      |none=>bk
    |_,_,_=>bk
  |.binOp op u x y _=>match(ρ x).b_,(ρ y).b_ with
    |some (.int k a),a6 (.int F b)=>match op with
      |.quo=>if k=F then a6 (.val (.lit (.int k (k.wrap (a.tdiv b)))),pq (b≠0))else bk
      |.rem=>if k=F then a6 (.val (.lit (.int k (a.tmod b))),pq (b≠0))else bk
      |.shl=>a6 (.val (.lit (.int k (k.wrap (a*2^min b.toNat k.bits)))),pq (0<=b))
      |.shr=>a6 (.val (.lit (.int k (a.fdiv (2^min b.toNat k.bits)))),pq (0<=b))
      |op=>match fK P (do eqGuard op u x y (.int k a) (.int F b);binOp op u (.int k a) (.int F b))with
        |some v=>a6 (.val (.lit v),.no)
        |none=>bk
    |some (.string a),a6 (.string b)=>match op with
      |.add=>a6 (.val (.lit (.string (a++b))),pq (((a.size+b.size:aw):cA)<=IntKind.i64.max))
      |op=>match fK P (do eqGuard op u x y (.string a) (.string b);binOp op u (.string a) (.string b))with
        |some v=>a6 (.val (.lit v),.no)
        |none=>bk
    |some a,a6 b=>match fK P (do eqGuard op u x y a b;binOp op u a b)with
      |some v=>a6 (.val (.lit v),.no)
      |none=>bk
    |_,_=>match dp P u,y with
      |some (bk,_),.const (.slice bk 0 0)=>match op,(ρ x).Uk with
        |.eql,bj=>a6 (.val (.lit (.bool aj)),.no)
        |.neq,bj=>a6 (.val (.lit (.bool bj)),.no)
        |_,_=>match op,(ρ x).UN with
          |.eql,bj=>a6 (.val (.lit (.bool bj)),.no)
          |.neq,bj=>a6 (.val (.lit (.bool aj)),.no)
          |_,_=>bk
      |_,_=>bk
  |.nilCheck x=>match ρ x with
    |.ptr b off=>a6 (.val (.ptr b off),.no)
    |.aJ cs=>a6 (.val (.aJ cs),.no)
    |_=>bk
  |.makeFunc fn first E=>match fn with
    |.func f=>if(first.toList.map ρ).all (λd=>d.refs.isEmpty)&&(E.toList.map ρ).all (λd=>d.refs.isEmpty)then a6 (.val (.fn f (first.toList.map ρ) (E.toList.map ρ)),.no)else bk
    |_=>bk
  |.unOp op _ x=>match(ρ x).b_ with
    |some a=>match fK P (Op.unary op a)with
      |some v=>a6 (.val (.lit v),.no)
      |none=>bk
    |none=>bk
  |.convert src dst x=>match(ρ x).b_ with
    |some a=>match fK P (convert src dst a)with
      |some v=>a6 (.val (.lit v),.no)
      |none=>bk
    |none=>bk
  |.makeInterface t x=>match(ρ x).b_ with
    |some a=>match fK P (Instr.makeInterface t a)with
      |some v=>a6 (.val (.lit v),.no)
      |none=>bk
    |none=>bk
  |.typeAssert x t asserted ok=>match(ρ x).b_ with
    |some a=>match fK P (Instr.typeAssert a t asserted ok)with
      |some (.tuple C)=>a6 (.val (.aP (C.toList.map D.uf)),.no)
      |some v=>a6 (.val (D.uf v),.no)
      |none=>bk
    |none=>bk
  |.fieldAddr s x f=>match xk P s f with
    |some (off,t)=>match cu P t with
      |some sz=>if c3 0 sz then
          match ρ x with
          |.ptr b o=>a6 (.val (.ptr b (o+off)),.no)
          |.aJ cs=>a6 (.val (.aJ (cs.drop off)),.no)
          |_=>bk
        else bk
      |none=>bk
    |none=>bk
  |.field s x f=>match xk P s f,ρ x with
    |some (off,t),.agg cs=>match cu P t,tU P t with
      |some sz,a6 B=>a6 (.val (if B then .agg ((cs.drop off).take sz)else(cs.drop off).headD .any),pq (off<y6 cs))
      |_,_=>bk
    |_,_=>bk
  |.indexAddr t x G=>match dp P t,(ρ G).b_ with
    |some (bk,e),a6 (.int _ i)=>match cu P e with
      |some sz=>match ρ x with
        |.row len _ cs=>a6 (.val (.aJ (cs.drop (i.toNat*sz))),pq ((0<=i/\i<len)/\i.toNat*sz<y6 cs))
        |.aY b off len _=>a6 (.val (.ptr b (off+i.toNat*sz)),pq (0<=i/\i<len))
        |.bG b len _=>a6 (.val (.ptr b (i.toNat*sz)),pq (0<=i/\i<len))
        |_=>bk
      |none=>bk
    |some (a6 n,e),a6 (.int _ i)=>match cu P e with
      |some sz=>match ρ x with
        |.aJ cs=>a6 (.val (.aJ (cs.drop (i.toNat*sz))),pq (0<=i/\i<n))
        |.ptr b off=>a6 (.val (.ptr b (off+i.toNat*sz)),pq (0<=i/\i<n))
        |_=>bk
      |none=>bk
    |_,_=>bk
  |.index t x G=>match(ρ G).b_ with
    |some (.int _ i)=>match dp P t,ρ x with
      |some (a6 n,e),.agg cs=>match cu P e,tU P e with
        |some sz,a6 B=>a6 (.val (if B then .agg ((cs.drop (i.toNat*sz)).take sz)else(cs.drop (i.toNat*sz)).headD .any),pq ((0<=i/\i<n)/\i.toNat*sz<y6 cs))
        |_,_=>bk
      |none,d=>match KN P t,d.str with
        |true,a6 s=>a6 (.val (.lit (.int .u8 ((s[i.toNat]?).getD 0).toNat)),pq (0<=i/\i.toNat<s.size))
        |_,_=>bk
      |_,_=>bk
    |_=>bk
  |.extract x i=>match ρ x with
    |.aP A=>match A[i]?with
      |some d=>a6 (.val d,.no)
      |none=>bk
    |_=>bk
  |.slice t x lo r bk=>match dp P t with
    |some (bk,e)=>match cu P e,ρ x,(match lo with|some l=>(ρ l).b_|none=>a6 (.int .i64 0))with
      |some sz,.row len full cs,a6 (.int _ l)=>match(match r with|some h=>(ρ h).b_|none=>a6 (.int .i64 len))with
        |some (.int _ h)=>a6 (.val (.row (h.toNat-l.toNat) (full&&r.isNone) ((cs.drop (l.toNat*sz)).take ((h.toNat-l.toNat)*sz))),pq (0<=l/\l<=h/\h<=len))
        |_=>bk
      |some sz,.aY b off len cap,a6 (.int _ l)=>match(match r with|some h=>(ρ h).b_|none=>a6 (.int .i64 len))with
        |some (.int _ h)=>a6 (.val (.aY b (off+l.toNat*sz) (h.toNat-l.toNat) (cap-l.toNat)),pq (0<=l/\l<=h/\h<=len/\l<cap))
        |_=>bk
      |some _,.bG b len size,a6 (.int _ l)=>match(match r with|some h=>(ρ h).b_|none=>a6 (.int .i64 len))with
        |some (.int _ h)=>if l==0 then a6 (.val (.bG b h.toNat size),pq (0<=h/\h<=len))else bk
        |_=>bk
      |_,_,_=>bk
    |some (a6 n,e)=>match cu P e,ρ x,(match lo with|some l=>(ρ l).b_|none=>a6 (.int .i64 0))with
      |some sz,.aJ cs,a6 (.int _ l)=>match(match r with|some h=>(ρ h).b_|none=>a6 (.int .i64 n))with
        |some (.int _ h)=>a6 (.val (.row (h.toNat-l.toNat) r.isNone ((cs.drop (l.toNat*sz)).take ((h.toNat-l.toNat)*sz))),pq (0<=l/\l<=h/\h<=n/\n*sz<=y6 cs/\n<=lj))
        |_=>bk
      |_,_,_=>bk
    |none=>match KN P t,(ρ x).str,(match lo with|some l=>(ρ l).b_|none=>bk),(match r with|some h=>(ρ h).b_|none=>bk)with
      |true,a6 s,a6 (.int _ l),a6 (.int _ h)=>a6 (.val (.lit (.string (s.extract l.toNat h.toNat))),pq (0<=l/\l<=h/\h<=s.size))
      |_,_,_,_=>bk
  |.makeSlice t l c=>match dp P t,(ρ l).b_,(ρ c).b_ with
    |some (bk,e),a6 (.int .i64 len),a6 (.int .i64 cap)=>match pH P e,cu P e,P.info? e with
      |some [z],a6 1,a6 i=>a6 (.new nb (cd len.toNat z) (.aY nb 0 len.toNat len.toNat) aj,pq (len=cap/\0<=len/\len*i.bytes<=2^47/\len<=2^62))
      |some j,a6 n,a6 i=>if y6 j==n&&c3 0 n then a6 (.new nb ((cd len.toNat j).flatten) (.bG nb len.toNat n) aj,pq (len=cap/\0<=len/\len*i.bytes<=2^47/\len<=2^62))else bk
      |_,_,_=>bk
    |_,_,_=>bk
  |.call c=>match c.callee with
    |.value f=>match Cg P (ρ f)with
      |some (f,first,E)=>a6 (.call f (first++(c.args.toList.map ρ++E)),.no)
      |none=>bk
    |.builtin .copy=>match c.args.toList.map ρ,c.argTypes.toList with
      |[.aY b off len _,.row m _ xs],[t,q]=>match dp P t,blk b with
        |some (bk,e),a6 cs=>match cu P e with
          |some sz=>if t==q then a6 (.store b off (xs.take (fe m len*sz)) (.lit (.int .i64 (zNq (fe m len)))) aj,pq (xs.all D.bV=bj/\y6 xs=m*sz/\off+fe m len*sz<=y6 cs))else bk
          |none=>bk
        |_,_=>bk
      |[.bG b len _,.row m _ xs],[t,q]=>match dp P t,blk b with
        |some (bk,e),a6 cs=>match cu P e with
          |some sz=>if t==q then a6 (.store b 0 (xs.take (fe m len*sz)) (.lit (.int .i64 (zNq (fe m len)))) aj,pq (xs.all D.bV=bj/\y6 xs=m*sz/\0+fe m len*sz<=y6 cs))else bk
          |none=>bk
        |_,_=>bk
      |_,_=>bk
    |.builtin .len=>match c.args.toList.map ρ with
      |[.row len _ _]=>match c.argTypes.toList with
        |[t]=>match dp P t with
          |some (bk,_)=>a6 (.val (.lit (.int .i64 len)),.no)
          |_=>bk
        |_=>bk
      |[.aY _ _ len _]=>match c.argTypes.toList with
        |[t]=>match dp P t with
          |some (bk,_)=>a6 (.val (.lit (.int .i64 len)),.no)
          |_=>bk
        |_=>bk
      |[.bG _ len _]=>match c.argTypes.toList with
        |[t]=>match dp P t with
          |some (bk,_)=>a6 (.val (.lit (.int .i64 len)),.no)
          |_=>bk
        |_=>bk
      |[d]=>match d.b_ with
        |some v=>match fK P (sl c.argTypes o.type #[v])with
          |some v=>a6 (.val (.lit v),.no)
          |none=>bk
        |none=>bk
      |_=>bk
    |.builtin .max=>match D.oJ (c.args.toList.map ρ)with
      |some C=>match fK P (Builtin.max_ c.argTypes o.type C.toArray)with
        |some v=>a6 (.val (.lit v),.no)
        |none=>bk
      |none=>bk
    |.builtin .min=>match D.oJ (c.args.toList.map ρ)with
      |some C=>match fK P (Builtin.min_ c.argTypes o.type C.toArray)with
        |some v=>a6 (.val (.lit v),.no)
        |none=>bk
      |none=>bk
    |.builtin .append=>match c.args.toList.map ρ,c.argTypes.toList with
      |[x,.row m _ g],[t,q]=>match dp P t with
        |some (bk,e)=>match P.info? e with
          |some i=>if t==q&&i.zero.any (λz=>z.cells.size==i.size)&&c3 0 i.size then match x with
              |.row n bj xs=>if ro then a6 (.val (.row (n+m) aj (xs++g)),pq (y6 xs=n*i.size/\y6 g=m*i.size/\n+m<=2^62/\(n+m)*i.bytes<=2^47))
                  else a6 (.new nb (xs++g) (.bG nb (n+m) i.size) aj,pq (0<m/\y6 xs=n*i.size/\y6 g=m*i.size/\n+m<=2^62/\(n+m)*i.bytes<=2^47))
              |.bG b n sz=>match blk b with
                |some cs=>if sz==i.size&&(hM gb b&& !bu b)then a6 (.grow b (cs++g) (.bG b (n+m) sz),pq (g.all D.bV=bj/\0<m/\y6 cs=n*i.size/\y6 g=m*i.size/\n+m<=2^62/\(n+m)*i.bytes<=2^47))else bk
                |none=>bk
              |.aY b off n cap=>match blk b with
                |some cs=>a6 (if ro then .val (.row (n+m) aj ((cs.drop off).take (n*i.size)++g))else .new nb ((cs.drop off).take (n*i.size)++g) (.bG nb (n+m) i.size) aj,pq (dX cs=aj/\0<m/\n=cap/\off+n*i.size<=y6 cs/\y6 g=m*i.size/\n+m<=2^62/\(n+m)*i.bytes<=2^47))
                |none=>bk
              |_=>bk
            else bk
          |none=>bk
        |_=>bk
      |[x,.lit v],[t,q]=>match v,x with
        |.slice _ 0 _,.row n bj xs=>match dp P t with
          |some (bk,e)=>match P.info? e with
            |some _=>if t==q then a6 (.val (.row n bj xs),.no)else bk
            |none=>bk
          |_=>bk
        |_,_=>bk
      |_,_=>bk
    |_=>bk
  |_=>bk
variable {c:Ctx} {n:aw} {s:as0} {a:Act} {w:bn} {β:aw->aw} {X:aw->Prop}
def cL(h:df c n s a w β X)(x:c6):bU β w X (a.eval x) (s.ev x):=by
 cases x with
 |tmp t=>exact h.tmp t
 |const v=>exact .c (.p (D.Lm w X v))
 |global g=>exact .c (.p (.lit _))
 |func f=>exact .c (.p (.lit _))
def Pv(b:b5)(v:b3):(D.tk b v).ref=bk:=by unfold D.tk;split<;>rfl
def Sw(v:b3):(D.uf v).ref=bk:=by unfold D.uf;split<;>rfl
def eV{v:b3}{d:D}(j:b9 w X v d):d.refs=[]:=by
 cases j with
 |agg us xs f e=>
  refine ar9.2 λd g=>?_
  obtain⟨i,b,rfl⟩:=apF.1 g;exact fC (e i (by rw[f];exact b) b)
 |aP us xs f e=>
  refine ar9.2 λd g=>?_
  obtain⟨i,b,rfl⟩:=apF.1 g;exact fC (e i (by rw[f];exact b) b)
 |_=>rfl
def K7{v:b3}{d:D}(f:aX β w X v d){b:aw}(e:b∈d.refs):d.ref=a6 b:=by
 cases f with
 |p h=>rw[eV h]at e;cases e
 |ptr=>simp[D.refs]at e;simp[D.ref,e]
 |aY=>simp[D.refs]at e;simp[D.ref,e]
 |bG=>simp[D.refs]at e;simp[D.ref,e]
def s9(h:df c n s a w β X)(x:c6)(b:aw)(d:b∈(s.ev x).refs):(s.blk b).isSome=bj:=by
 cases x with
 |tmp t=>exact h.nd t b d
 |const v=>simp only[as0.ev]at d;rw[eV (D.Lm w X v)]at d;cases d
 |global g=>simp[as0.ev,D.refs]at d
 |func f=>simp[as0.ev,D.refs]at d
def bY(h:df c n s a w β X){x:c6}{v:b3}(e:(s.ev x).b_=a6 v):a.eval x=v:=
 tX ((cL h x).pure (Rx e)) e
def Jf(h:df c n s a w β X){x:c6}{xs:ai D}(e:(s.ev x).cells=a6 xs):LQ (aX β w X) (a.eval x).cells.toList xs:=
 Tx (cL h x) e
def zE(h:df c n s a w β X){x:c6}{xs:ai D}(e:(s.ev x).cells=a6 xs):∀d∈xs,∀b,d.ref=a6 b->(s.blk b).isSome=bj:=
 λd f b g=>s9 h x b (Ty e d f b g)
def aR.xn{us:ai b3}{cs:ai D}(h:aR w X us cs):aR w X (us.take (y6 cs)) cs:=by rw[<-h.1,aqM];exact h
def yN{α:Type}(l vs:ai α)(off k:aw)(h:off+y6 vs<=k)(g:k<=y6 l):
  (l.take off++vs++l.drop (off+y6 vs)).take k=(l.take k).take off++(vs++(l.take k).drop (off+y6 vs)):=by
 apply asL;intro i;simp only[gi,rB,lf,o4,j3];by_cases b:i<off;simp[b,show i<k by omega,show off<=y6 l by omega,show i<off+y6 vs by omega];intro f;omega;by_cases e:i<off+y6 vs;simp[b,show i<k by omega,show min off (y6 l)=off by omega,show min off (min k (y6 l))=off by omega,e,show i-off<y6 vs by omega];by_cases d:i<k;simp[b,d,show min off (y6 l)=off by omega,show min off (min k (y6 l))=off by omega,e,show¬i-off<y6 vs by omega];rw[aph za];congr 1;omega;simp[d,show¬i<min off (min k (y6 l)) by omega,show¬i-min off (min k (y6 l))<y6 vs by omega];intro f;omega
def bg(c:Ctx)(n:aw)(s:as0)(a:Act)(w:bn)(β:aw->aw)(X:aw->Prop)(nb:aw)(o:e9):Eff->Prop
 |.val d=>∃v w',(execOp a.eval o).run c.P w=.ok (.value v) w'/\Below w.heap.size w w'/\bU β w' X v d/\∀b∈d.refs,(s.blk b).isSome=bj
 |.new b cs d l=>b=nb/\∃k us e v,(execOp a.eval o).run c.P w=.ok (.value v) (k.alloc (.cells us e))/\Below w.heap.size w k/\k.heap.size=w.heap.size/\
   y6 cs<=us.size/\LQ (aX β w X) (us.toList.take (y6 cs)) cs/\(∀d'∈cs,∀j,d'.ref=a6 j->l=bj/\(s.blk j).isSome=bj)/\d.refs=[b]/\
   ∀g w' X',g b=w.heap.size->w'.shape? w.heap.size=a6 (e,us.size)->aX g w' X' v d
 |.store b off ds d l=>∃cs us dx e v,d=.lit v/\s.blk b=a6 cs/\w.heap[β b]? =a6 (.cells us e (0,0))/\
   (((execOp a.eval o).run c.P w=.ok .skip (w.setRow (β b) dx)/\v=fg)\/(execOp a.eval o).run c.P w=.ok (.value v) (w.setRow (β b) dx))/\dx.size=us.size/\
   off+y6 ds<=y6 cs/\y6 cs<=us.size/\LQ (aX β w X) (dx.toList.take (y6 cs)) (cs.take off++(ds++cs.drop (off+y6 ds)))/\∀d'∈ds,∀j,d'.ref=a6 j->l=bj/\(s.blk j).isSome=bj
 |.grow b cs d=>∃v w' g X',(execOp a.eval o).run c.P w=.ok (.value v) w'/\df c n ((s.clear b).bO b (a6 cs) aj) a w' g X'/\aX g w' X' v d/\d.refs=[b]
 |.call f args=>∃vals:ai b3,(execOp a.eval o).run c.P w=.ok (.enter f vals.toArray) w/\y6 vals=y6 args/\(∀i(h:i<y6 vals)(m:i<y6 args),bU β w X vals[i] args[i])/\
   ∀d∈args,∀b∈d.refs,(s.blk b).isSome=bj
def bg.K3{nb:aw}{o:e9}{v:b3}{d:D}(g:(execOp a.eval o).run c.P w=.ok (.value v) w)(e:bU β w X v d)
  (f:∀b∈d.refs,(s.blk b).isSome=bj):bg c n s a w β X nb o (.val d):=⟨v,w,g,Below.refl _ _,e,f⟩
def bg.mk{nb:aw}{o:e9}{v:b3}{d:D}{w':bn}(i:(execOp a.eval o).run c.P w=.ok (.value v) w')(e:Below w.heap.size w w')(f:aX β w' X v d)
  (g:∀b,d.ref=a6 b->(s.blk b).isSome=bj):bg c n s a w β X nb o (.val d):=⟨v,w',i,e,.c f,λb e=>g b (K7 f e)⟩
def bg.same{nb:aw}{o:e9}{v:b3}{d:D}(g:(execOp a.eval o).run c.P w=.ok (.value v) w)(e:aX β w X v d)
  (f:∀b,d.ref=a6 b->(s.blk b).isSome=bj):bg c n s a w β X nb o (.val d):=bg.mk g (Below.refl _ _) e f
def bg.lit{nb:aw}{o:e9}{v:b3}(e:(execOp a.eval o).run c.P w=.ok (.value v) w):bg c n s a w β X nb o (.val (.lit v)):=
 bg.same e (.p (.lit v)) (λb d=>by simp[D.ref]at d)
def VU(w:bn)(X:aw->Prop){P:cp}{t:c5}{d:ai D}(e:pH P t=a6 d):∃z,(zeroValue t).run P w=.ok z w/\aR w X z.cells.toList d/\y6 d=z.cells.size:=by
 unfold pH By at e;cases b:P.info? t with
 |none=>simp[b]at e
 |some i=>
  cases f:i.zero with
  |none=>simp[b,f]at e
  |some z=>
   simp[b,f]at e;subst e;exact⟨z,by simp[zeroValue,typeInfo,b,f],o7 w X _,by simp⟩
def Rn(w:bn)(X:aw->Prop){P:cp}{t:c5}{d:ai D}(e:CC P t=a6 d):∃z,(zeroValue t).run P w=.ok z w/\aR w X z.cells.toList d/\y6 d=z.cells.size:=by
 unfold CC By at e;cases b:P.info? t with
 |none=>simp[b]at e
 |some i=>
  cases f:i.zero with
  |none=>simp[b,f]at e
  |some z=>
   simp[b,f]at e;subst e;exact⟨z,by simp[zeroValue,typeInfo,b,f],xz bj w X _,by simp⟩
def qM{v:b3}{xs:ai D}(b:b9 w X v (.aJ xs)):∃ad us,v=.pointer (a6 ad)/\aR w X us xs/\∀i(h:i<y6 us),¬X ad.block/\w.cell? (ad.add i)=a6 us[i]:=by
 cases b with
 |aJ ad us _ e hm d=>exact⟨ad,us,rfl,⟨e,d⟩,hm⟩
def Ah{v:b3}{b off:aw}(d:bU β w X v (.ptr b off)):v=.pointer (a6 ⟨β b,off,bk⟩):=by
 cases d with
 |c d=>cases d with
  |p e=>cases e
  |ptr=>rfl
def Ad{v:b3}{b off len d:aw}(e:bU β w X v (.aY b off len d)):v=.slice (a6 ⟨β b,off,bk⟩) len d/\len<=d/\d<=lj:=by
 cases e with
 |c e=>cases e with
  |p f=>cases f
  |aY _ _ _ _ i g=>exact⟨rfl,i,g⟩
variable {m:Addr}
def Lx{Q:b3->D->Prop}{t:c5}{sz:aw}{us:ai b3}{xs:ai D}(hs:cu c.P t=a6 sz)(b:tU c.P t=a6 d)
  (e:LQ Q us xs) (ad:∀i(h:i<y6 us),w.cell? (m.add i)=a6 us[i]) (A:0<sz) (hle:sz<=y6 xs):
  ∃v,(loadVar t m).run c.P w=.ok v w/\((d=bj/\∃dx,v=.agg dx.toArray/\LQ Q dx (xs.take sz))\/(d=aj/\Q v (xs.headD .any))):=by
 unfold cu at hs;unfold tU at b;cases k:c.P.info? t with
 |none=>rw[k]at hs;cases hs
 |some i=>
  rw[k]at hs;simp only[dm,zIq]at hs;subst hs;cases hu:c.P.underlying t with
  |none=>rw[hu]at b;cases b
  |some f=>
   rw[hu]at b;simp only[dm,zIq]at b;have p:(isAgg t).run c.P w=.ok d w:=by
    rw[<-b];cases f<;>simp[isAgg,db hu]
   cases d with
   |true=>
    have q:i.size=y6 (us.take i.size):=by have:=e.1;simp;omega
    have r:(loadCells m i.size).run c.P w=.ok (us.take i.size).toArray w:=by
     have:=run_loadCells_list (P:=c.P) w m (us.take i.size) (λj v g=>by
      rw[aq8]at g;split at g
      ·obtain⟨z,y⟩:=aqS.1 g
       rw[ad j z,y]
      ·cases g)
     rw[<-q]at this;exact this
    refine⟨.agg (us.take i.size).toArray,?_,y1 ⟨rfl,_,rfl,e.take i.size⟩⟩;simp[loadVar,p,Go.sizeOf,typeInfo,k,r]
   |false=>
    cases us with
    |nil=>have:=e.1;simp at this;omega
    |cons u us=>
     cases xs with
     |nil=>have:=e.1;simp at this
     |cons x xs=>
      refine⟨u,?_,y2 ⟨rfl,e.2 0 zb zb⟩⟩
      have:=ad 0 zb
      have l:m.add 0=m:=by unfold Addr.add;simp
      rw[l]at this;simp[loadVar,p,this]
def PL{t:c5}{sz:aw}{us:ai b3}{xs:ai D}(hs:cu c.P t=a6 sz)(g:tU c.P t=a6 d)
  (f:aR w X us xs) (e:∀i(h:i<y6 us),w.cell? (m.add i)=a6 us[i]) (l:0<sz) (hle:sz<=y6 xs):
  ∃v,(loadVar t m).run c.P w=.ok v w/\b9 w X v (if d then .agg (xs.take sz)else xs.headD .any):=by
 obtain⟨v,k,j⟩:=Lx hs g (Q:=b9 w X) f e l hle;refine⟨v,k,?_⟩;rcases j with⟨rfl,dx,rfl,b⟩|⟨rfl,b⟩
 exact b9.Iv b;exact b
def Lv{t:c5}{sz:aw}{us:ai b3}{xs:ai D}(hs:cu c.P t=a6 sz)(g:tU c.P t=a6 d)
  (f:LQ (aX β w X) us xs) (e:∀i(h:i<y6 us),w.cell? (m.add i)=a6 us[i]) (l:0<sz) (hle:sz<=y6 xs):
  ∃v,(loadVar t m).run c.P w=.ok v w/\bU β w X v (if d then .agg (xs.take sz)else xs.headD .any):=by
 obtain⟨v,k,j⟩:=Lx hs g f e l hle;refine⟨v,k,?_⟩;rcases j with⟨rfl,dx,rfl,b⟩|⟨rfl,b⟩
 exact .agg _ _ b;exact .c b
def Aj{xs:ai D}{off sz:aw}{p:aw->Prop}(g:off<y6 xs)(j:∀i∈xs,∀b,i.ref=a6 b->p b)(k:d=aj->∀i∈xs,∀b∈i.refs,i.ref=a6 b):
  ∀b∈(if d then D.agg ((xs.drop off).take sz)else(xs.drop off).headD .any).refs,p b:=by
 intro b f;cases d with
 |true=>
  obtain⟨i,l,e⟩:=apM.1 (show b∈((xs.drop off).take sz).filterMap D.ref from f)
  exact j i (asr (aq' l)) b e
 |false=>
  simp only[cy,jv]at f;have e:(xs.drop off).headD .any=xs[off]:=by rw[aqr g];rfl
  rw[e]at f;exact j _ (apD g) b (k rfl _ (apD g) b f)
def AO{us:ai b3}{xs:ai D}(h:LQ (aX β w X) us xs):∀d∈xs,∀b∈d.refs,d.ref=a6 b:=by intro d f b g;obtain⟨i,e,rfl⟩:=apF.1 f;exact K7 (h.2 i (by rw[h.1];exact e) e) g
section ops
variable {c:Ctx} {n:aw} {s:as0} {a:Act} {w:bn} {β:aw->aw} {X:aw->Prop} (h:df c n s a w β X) {o:e9} {nb:aw}
include h
def UH{x:c6}(b:o.op=.move x\/o.op=.assign x):bg c n s a w β X nb o (.val (s.ev x)):=by refine .K3 (v:=a.eval x) ?_ (cL h x) (s9 h x);obtain b|b:=b<;>simp[execOp,b]
variable {b:c6}
def UG{x y:c6}(d:o.op=.pick b x y)(k:b5)(e:s.ev b=.lit (.bool k)):bg c n s a w β X nb o (.val (if k then s.ev x else s.ev y)):=by have f:a.eval b=.bool k:=bY h (by rw[e];rfl);refine .K3 (v:=if k then a.eval x else a.eval y) ?_ (by cases k<;>first|exact cL h y|exact cL h x) (by cases k<;>first|exact s9 h y|exact s9 h x);simp[execOp,d,f,asBool]
omit h in
def ic{us:ai b3}{cs:ai D}(b:aR w X us cs):∀d∈cs,d.ref=bk:=λd f=>by obtain⟨i,e,rfl⟩:=apF.1 f;exact fC (b.2 i (by rw[b.1];exact e) e)
def Lq(us:eY b3)(e:c5){cs:ai D}(f:aR w X us.toList cs):
  b9 (w.alloc (.cells us e)) X (.pointer (a6 ⟨w.heap.size,0,bk⟩)) (.aJ cs):=by
 have g:Below w.heap.size w (w.alloc (.cells us e)):=(Below.refl _ _).alloc (apc _) _;have b:=f.mono (iV (X:=X) g);refine .aJ _ us.toList cs b.1 (λi j=>⟨λd=>?_,?_⟩) b.2;exact api (h.oH _ d) zb;rw[Addr.jM,aqa,l0 _ _ _ us e (0,0) (m3 w _)];simp
def aa'{elem:c5}{ro:b5}{f:ai D}(m:o.op=.alloc elem)(l:pH c.P elem=a6 f):
  bg c n s a w β X nb o (if ro then .val (.aJ f)else .new nb f (.ptr nb 0) aj):=by
 obtain⟨z,q,g,k⟩:=VU w X l;have i:(execOp a.eval o).run c.P w=.ok (.value (.pointer (a6 ⟨w.heap.size,0,bk⟩))) (w.alloc (.cells z.cells elem)):=by simp[execOp,m,Instr.alloc,q,newVar,newRow]
 cases ro with
 |true=>exact bg.mk i ((Below.refl _ _).alloc (apc _) _) (.p (Lq h _ _ g)) λb e=>by simp[D.ref]at e
 |false=>exact⟨rfl,w,_,_,_,i,Below.refl _ _,rfl,by omega,g.xn.lq,λd p b e=>(by have:=(ic g) d p;rw[this]at e;cases e),rfl,λr t u j _=>by rw[<-j];exact .ptr nb 0⟩
omit h in
def WY{elem:c5}{e:ai D}(m:o.op=.alloc elem)(k:CC c.P elem=a6 e):
  bg c n s a w β X nb o (.new nb e (.ptr nb 0) aj):=by
 obtain⟨z,q,f,j⟩:=Rn w X k;have l:(execOp a.eval o).run c.P w=.ok (.value (.pointer (a6 ⟨w.heap.size,0,bk⟩))) (w.alloc (.cells z.cells elem)):=by simp[execOp,m,Instr.alloc,q,newVar,newRow]
 exact⟨rfl,w,_,_,_,l,Below.refl _ _,rfl,by omega,f.xn.lq,λd p b g=>(by have:=(ic f) d p;rw[this]at g;cases g),rfl,λr t u i _=>by rw[<-i];exact .ptr nb 0⟩
def aa_{elem:c5}{x:c6}{ro:b5}{cs:ai D}(m:o.op=.box elem x)(k:(s.ev x).cells=a6 cs)(f:ro=bj->dX cs=aj):
  bg c n s a w β X nb o (if ro then .val (.aJ cs)else .new nb cs (.ptr nb 0) (dX cs)):=by
 have g:=Jf h k;have i:(execOp a.eval o).run c.P w=.ok (.value (.pointer (a6 ⟨w.heap.size,0,bk⟩))) (w.alloc (.cells (a.eval x).cells elem)):=by simp[execOp,m,Instr.box,newVar,newRow]
 cases ro with
 |true=>exact bg.mk i ((Below.refl _ _).alloc (apc _) _) (.p (Lq h _ _ (g.pure (je (f rfl))))) λb e=>by simp[D.ref]at e
 |false=>exact⟨rfl,w,_,_,_,i,Below.refl _ _,rfl,by have:=g.1;rw[aqT]at this;omega,g.xn,λd j b e=>⟨yh j e,zE h k d j b e⟩,rfl,λp q r l _=>by rw[<-l];exact .ptr nb 0⟩
def DI(place:aw->bF (aw×aw)):∀(parts:ai (aw×c6))(us:eY b3)(cs cs':ai D),LQ (aX β w X) us.toList cs->(∀d∈cs,∀b,d.ref=a6 b->(s.blk b).isSome=bj)->
  Jd place cs (parts.map λp=>(p.1,s.ev p.2))=a6 cs'->
  ∃dx,Instr.fill place us (parts.map λp=>(p.1,a.eval p.2))=a6 dx/\LQ (aX β w X) dx.toList cs'/\∀d∈cs',∀b,d.ref=a6 b->(s.blk b).isSome=bj
 |[],us,cs,cs',j,g,e=>by
  simp only[fB,Jd,zIq]at e;subst e;exact⟨us,by simp[Instr.fill],j,g⟩
 |(i,x)::rest,us,cs,cs',j,g,e=>by
  simp only[eZ,Jd]at e;split at e
  ·rename_i off size ds B q
   split at e
   ·rename_i v
    simp only[zLq,ec,qc]at v;have f:=Jf h q;have r:(a.eval x).cells.size=size:=by have:=f.1;rw[aqT]at this;omega
    have u:us.size=y6 cs:=by simpa using j.1
    obtain⟨f1,f2⟩:=Great.foldl_set off (a.eval x).cells.toList 0 us;have t:(a.eval x).cells.zipIdx.toList=(a.eval x).cells.toList.zipIdx 0:=by rw[Array.toList_zipIdx]
    generalize y:((a.eval x).cells.toList.zipIdx 0).foldl (λcs (x:b3×aw)=>cs.setIfInBounds (off+x.2) x.1) us=U at f1 f2
    have C:U.toList=us.toList.take off++((a.eval x).cells.toList++us.toList.drop (off+size)):=by
     apply asL;intro k;rw[asm,f2 k];simp only[n5,mN,r];by_cases k1:k<off
     ·rw[ape za,aqe zT,aq8,aph k1,asm]
     ·by_cases k2:k<off+size
      ·rw[aph ⟨by omega,k2,by omega⟩,apS zT,aqe zT]
       congr 1;simp;omega
      ·rw[ape za,apS zT,apS zT,ar',asm]
       congr 1;simp;omega
    have E:LQ (aX β w X) U.toList (cs.take off++(ds++cs.drop (off+size))):=by
     rw[C];exact(j.take off).append (f.append (j.drop (off+size)))
    have m:∀d∈cs.take off++(ds++cs.drop (off+size)),∀b,d.ref=a6 b->(s.blk b).isSome=bj:=by
     intro d f b l;obtain f|f:=aps.1 f
     ·exact g d (aq' f) b l
     ·obtain f|f:=aps.1 f
      ·exact zE h q d f b l
      ·exact g d (asr f) b l
    obtain⟨dx,A,z⟩:=DI place rest U _ cs' E m e;refine⟨dx,?_,z⟩;simp only[eZ,Instr.fill,B];rw[ape (by simp[r];omega)]
    have:(a.eval x).cells.zipIdx.foldl (λcs (x:b3×aw)=>cs.setIfInBounds (off+x.2) x.1) us=U:=by
     rw[<-Array.foldl_toList,t];exact y
    simp only[this];exact A
   ·cases e
  ·cases e
def aa9{t:c5}{parts:eY (aw×c6)}{cs:ai D}(C:o.op=.build t parts)
  (e:TC c.P t (parts.toList.map λp=>(p.1,s.ev p.2)) d=a6 cs):bg c n s a w β X nb o (.val (.agg cs)):=by
 have key:∀dx,(Instr.build t (parts.map λp=>(p.1,a.eval p.2))).run c.P w=.ok (.agg dx) w->LQ (aX β w X) dx.toList cs->(∀l∈cs,∀b,l.ref=a6 b->(s.blk b).isSome=bj)->bg c n s a w β X nb o (.val (.agg cs)):=by intro dx E q f;refine .K3 (v:=.agg dx) ?_ ?_ (λb i=>?_);simp[execOp,C,E];have:=bU.agg _ _ q;simpa using this;obtain⟨l,u,e⟩:=apM.1 i;exact f l u b e
 have j:∀dx,c.P.built t ((parts.map λp=>(p.1,a.eval p.2)).toList)=a6 dx->LQ (aX β w X) dx.toList cs->(∀l∈cs,∀b,l.ref=a6 b->(s.blk b).isSome=bj)->bg c n s a w β X nb o (.val (.agg cs)):=
  λdx i q f=>key dx (run_build w t _ dx i) q f
 have k:∀(z:b3)(l:D),l∈z.cells.toList.map (D.tk d)->∀b,l.ref=a6 b->(s.blk b).isSome=bj:=λz l u b i=>by obtain⟨v,_,rfl⟩:=apN.1 u;rw[Pv]at i;cases i
 unfold TC at e;split at e;rename_i it n G B A;split at e;rename_i z F y x;obtain⟨dx,r,m,g⟩:=DI h _ parts.toList z.cells _ cs (xz d w X _).lq (k z) e;exact j dx (by simp only[Program.built,B,A,y,x,kB];exact r) m g;cases e;rename_i it fields B A;split at e;rename_i z places y x;obtain⟨dx,r,m,g⟩:=DI h _ parts.toList z.cells _ cs (xz d w X _).lq (k z) e;exact j dx (by simp only[Program.built,B,A,y,x,kB];exact r) m g;cases e;cases e
def Bf{t:c5}{len:aw}{parts:eY (aw×c6)}{cs:ai D}(K:o.op=.buildSlice t len parts)
  (e:zO c.P t len (parts.toList.map λp=>(p.1,s.ev p.2))=a6 cs) (x:dX cs=aj) (ro:b5):bg c n s a w β X nb o (if ro then .new nb cs (.aY nb 0 len len) aj else .val (.row len bj cs)):=by
 unfold zO at e;split at e
 ·rename_i el M
  split at e
  ·rename_i k J q j
   split at e
   ·rename_i L
    simp only[zLq,ec,qc,n4]at L;unfold cu at q;unfold pH By at j;cases u:c.P.info? el with
    |none=>rw[u]at q;cases q
    |some f=>
     rw[u]at q j;simp only[dm,zIq,u0]at q j;cases A:f.zero with
     |none=>rw[A]at j;cases j
     |some z=>
      rw[A]at j;simp only[dm,zIq]at j;subst q;have hlen:y6 J=z.cells.size:=by rw[<-j];simp
      have r:aR w X ((Array.range (len*f.size)).map (z.cells[·%z.cells.size]!)).toList (CU J (len*f.size)):=by
       refine⟨by simp[CU],λi G V=>?_⟩
       have v:i%z.cells.size<z.cells.size:=apP _ za
       have B:=(o7 w X z.cells.toList).2 (i%z.cells.size) (by simpa using v) (by simpa using v)
       simp only[kB,kz,sA,kT,CU,<-j];rw[apf,apj (by simpa using v),uS,getElem!_pos z.cells _ v]
       simpa using B
      obtain⟨dx,S,m,-⟩:=DI h (λi=>a6 (i*f.size,f.size)) parts.toList _ _ cs r.lq (λd F b g=>by rw[ic r d F]at g;cases g) e
      have P:=m.pure (je x);have l:Instr.fill (λi=>a6 (i*f.size,f.size)) ((Array.range (len*f.size)).map (z.cells[·%z.cells.size]!)) ((parts.map λp=>(p.1,a.eval p.2)).toList)=a6 dx:=by
       rw[kB];exact S
      have N:(Instr.buildSlice t len (parts.map λp=>(p.1,a.eval p.2))).run c.P w=.ok (.slice (a6 ⟨w.heap.size,0,bk⟩) len len) (w.alloc (.cells dx el)):=by
       by_cases H:len*f.size=0
       ·have E:len=0:=by
         obtain G|G:=Nat.mul_eq_zero.1 H
         ·exact G
         ·omega
        subst E;have C:(Array.range (0*f.size)).map (z.cells[·%z.cells.size]!)=(#[]:eY b3):=by rw[H];simp
        rw[C,kB]at l;have y:Array.map (λ_=>(bc:b3)) (Array.range 0)= #[]:=by apply aqj;simp
        simp only[Instr.buildSlice,kl,db M,ie,Go.sizeOf,typeInfo,program,Sem.run,u,n3,Nat.zero_mul];simp[y,l,newRow]
       ·exact run_buildSlice w t el len _ dx f z M u A za H l
      have g:Below w.heap.size w (w.alloc (.cells dx el)):=(Below.refl _ _).alloc (apc _) _;have O:=P.mono (iV (X:=X) g);have hle:len<=lj:=by
       have:len*1<=len*f.size:=apT _ L.2;unfold lj;omega
      have I:(execOp a.eval o).run c.P w=.ok (.value (.slice (a6 ⟨w.heap.size,0,bk⟩) len len)) (w.alloc (.cells dx el)):=by simp[execOp,K,N]
      cases ro with
      |true=>exact⟨rfl,w,_,_,_,I,Below.refl _ _,rfl,by have:=m.1;rw[aqT]at this;omega,m.xn,λd F b g=>(by rw[yh F g]at x;cases x),rfl,λT U W R _=>by rw[<-R];exact .aY nb 0 len len (apc _) hle⟩
      |false=>
      refine bg.mk ?_ g (.p (.row (a6 ⟨w.heap.size,0,bk⟩) len len bj dx.toList cs O.1 (apc _) hle (λ_=>rfl) (λi u=>⟨_,rfl,λB=>api (h.oH _ B) zb,?_⟩) O.2)) λb g=>by simp[D.ref]at g
      ·simp[execOp,K,N]
      ·rw[Addr.jM,aqa,l0 _ _ _ dx el (0,0) (m3 w _)]
       simp
   ·cases e
  ·cases e
 ·cases e
def Lh{b off:aw}{cs:ai D}(g:s.blk b=a6 cs):∃us:ai b3,LQ (aX β w X) us (cs.drop off)/\
  ∀i(h:i<y6 us),w.cell? ((⟨β b,off,bk⟩:Addr).add i)=a6 us[i]:=by
 obtain⟨_,_,us,e,hu,_,d⟩:=h.blk b cs g;refine⟨(us.toList.take (y6 cs)).drop off,d.drop off,λi f=>?_⟩;rw[Addr.jM,l0 w _ _ us e (0,0) hu];simp at f⊢
def M9{t:c5}{x:c6}{sz:aw}{cs:ai D}(k:o.op=.load t x)(hs:cu c.P t=a6 sz)(m:tU c.P t=a6 d)
  (j:s.ev x=.aJ cs) (p:0<sz) (hle:sz<=y6 cs):bg c n s a w β X nb o (.val (if d then .agg (cs.take sz)else cs.headD .any)):=by
 have e:=cL h x;rw[j]at e;obtain⟨z,us,u,r,q⟩:=qM (e.pure rfl);obtain⟨v,y,g⟩:=PL hs m r (λi l=>(q i l).2) p hle;refine .same (v:=v) ?_ (.p g) (λb f=>?_);simp[execOp,k,Instr.loadAt,lg,u,y];rw[fC g]at f;cases f
def Po{t:c5}{x:c6}{sz b off:aw}{g:b5}{cs:ai D}(l:o.op=.load t x)(hs:cu c.P t=a6 sz)(p:tU c.P t=a6 g)
  (k:s.ev x=.ptr b off) (e:s.blk b=a6 cs) (r:0<sz) (hle:off+sz<=cs.length):
  bg c n s a w β X nb o (.val (if g then .agg ((cs.drop off).take sz)else(cs.drop off).headD .any)):=by
 have f:=cL h x;rw[k]at f;obtain⟨us,y,u⟩:=Lh h (off:=off) e;obtain⟨v,z,i⟩:=Lv hs p y u r zT;obtain⟨_,_,j,_,_,_,q⟩:=h.blk b cs e;refine .K3 (v:=v) ?_ i (Aj za (λd m A B=>(h.qS b cs e d m A B).2) λ_=>AO q);simp[execOp,l,Instr.loadAt,lg,Ah f,z]
def aa5{t:c5}{x y:c6}{b off sz:aw}{ds cs:ai D}(H:o.op=.store t x y)(hs:cu c.P t=a6 sz)
  (G:s.ev x=.ptr b off) (r:(s.ev y).cells=a6 ds) (A:s.blk b=a6 cs) (u:y6 ds=sz) (F:ds.all D.bV=bj) (hle:off+sz<=y6 cs):
  bg c n s a w β X nb o (.store b off ds (.lit fg) (dX ds)):=by
 have l:=cL h x;rw[G]at l;have m:=Jf h r;obtain⟨_,_,us,e,hu,k,q⟩:=h.blk b cs A;have g:(a.eval y).cells.toList.length=sz:=by rw[m.1];exact u
 have j:(a.eval y).cells.size=sz:=by simpa using g
 have K:∀v∈(a.eval y).cells.toList,v.oneCell'=bj:=by
  intro v l;obtain⟨i,f,rfl⟩:=apF.1 l;have B:i<y6 ds:=by rw[<-m.1];exact f
  exact Cf (m.2 i f B) (apH.1 F _ (apD B))
 have p:=sN c.P (β b) off e (a.eval y).cells.toList 0 us w hu (by rw[g];omega) K
 refine⟨cs,us,(us.toList.take off++(a.eval y).cells.toList++us.toList.drop (off+sz)).toArray,e,fg,rfl,A,hu,y1 ⟨?_,rfl⟩,?_,by omega,k,?_,λd z I E=>⟨yh z E,zE h r d z I E⟩⟩
 ·have J:(Go.sizeOf t).run c.P w=.ok sz w:=by
   unfold cu at hs;cases f:c.P.info? t with
   |none=>rw[f]at hs;cases hs
   |some i=>rw[f]at hs;simp only[dm,zIq]at hs;subst hs;simp[Go.sizeOf,typeInfo,f]
  simp only[n5,g]at p;simp[execOp,H,Instr.storeAt,lg,Ah l,storeVar,J,j,p]
 ·simp only[ov,j3,o4,m6,mN,j]
  omega
 ·have C:=yN us.toList (a.eval y).cells.toList off (y6 cs) (by rw[g];omega) (by simpa using k)
  rw[g]at C;have:(us.toList.take off++(a.eval y).cells.toList++us.toList.drop (off+sz)).toArray.toList.take (y6 cs)=(us.toList.take off++(a.eval y).cells.toList++us.toList.drop (off+sz)).take (y6 cs):=zb
  rw[this,C,u];exact(q.take off).append (m.append (q.drop (off+sz)))
end ops
def jJ{t:c5}{sz:aw}{P:cp}(w:bn)(hs:cu P t=a6 sz):(Go.sizeOf t).run P w=.ok sz w:=by
 unfold cu at hs;cases b:P.info? t with
 |none=>rw[b]at hs;cases hs
 |some i=>rw[b]at hs;simp only[dm,zIq]at hs;subst hs;simp[Go.sizeOf,typeInfo,b]
def E6{P:cp}{t:c5}{f off:aw}{d:c5}(e:xk P t f=a6 (off,d)):
  ∃fields fd,P.underlying t=a6 (.struct fields)/\fields[f]? =a6 fd/\fd.offset=off/\fd.type=d:=by
 unfold xk at e;split at e;rename_i fields g;cases b:fields[f]?with
 |none=>rw[b]at e;cases e
 |some fd=>
  rw[b]at e;simp only[dm,zIq,zJq]at e;exact⟨fields,fd,g,b,e.1,e.2⟩
 cases e
def cJ{P:cp}{t:c5}{e:c5}(h:dp P t=a6 (bk,e)):P.underlying t=a6 (.slice e):=by unfold dp at h;split at h;rename_i d b;simp only[zIq,zJq,true_and]at h;rw[b,h];simp at h;cases h
def x6{P:cp}{t:c5}{n:aw}{e:c5}(h:dp P t=a6 (a6 n,e)):P.underlying t=a6 (.array n e):=by unfold dp at h;split at h;simp at h;rename_i d f b;simp only[zIq,zJq]at h;rw[b,h.1,h.2];cases h
def VN{t:c5}{P:cp}(w:bn)(b:tU P t=a6 d):(isAgg t).run P w=.ok d w:=by
 unfold tU at b;cases hu:P.underlying t with
 |none=>rw[hu]at b;cases b
 |some e=>
  rw[hu]at b;simp only[dm,zIq]at b;rw[<-b];cases e<;>simp[isAgg,db hu]
def Us{us:ai b3}{xs:ai D}(b:aR w X us xs)(d:∀i(h:i<y6 us),¬X m.block/\w.cell? (m.add i)=a6 us[i]):
  b9 w X (.pointer (a6 m)) (.aJ xs):=.aJ m us xs b.1 d b.2
def Et{us:ai b3}{xs:ai D}(b:aR w X us xs)(d:∀i(h:i<us.length),¬X m.block/\w.cell? (m.add i)=a6 us[i])(k:aw):
  b9 w X (.pointer (a6 (m.add k))) (.aJ (xs.drop k)):=by
 refine Us (b.drop k) λi e=>?_
 have j:k+i<us.length:=by simp at e;omega
 obtain⟨g,f⟩:=d (k+i) j;exact⟨by rw[Addr.block_add];exact g,by rw[Addr.add_add,f,arq]⟩
def Pg{t:c5}{sz:aw}{P:cp}(hs:cu P t=a6 sz)(f:tU P t=a6 d){us:eY b3}{cs:ai D}(b:LQ (aX β w X) us.toList cs){off:aw}(i:off<y6 cs):
  ∃v,(part t us off).run P w=.ok v w/\bU β w X v (if d then .agg ((cs.drop off).take sz)else(cs.drop off).headD .any):=by
 cases d with
 |true=>
  refine⟨.agg (us.extract off (off+sz)),by simp[part,VN w f,jJ w hs],?_⟩
  have:=bU.agg _ _ ((b.drop off).take sz);have e:((us.toList.drop off).take sz).toArray=us.extract off (off+sz):=by
   apply aqc.1;simp[Array.toList_extract]
  rw[e]at this;exact this
 |false=>
  have g:off<us.size:=by have:=b.1;simp at this;omega
  refine⟨us[off],by simp[part,VN w f,g],?_⟩
  have:=b.2 off (by simpa using g) i
  have e:(cs.drop off).headD .any=cs[off]:=by
   rw[aqr i];rfl
  simp only[cy,jv,e];exact .c (by simpa using this)
def VM{v:b3}{cs:ai D}(b:bU β w X v (.agg cs)):∃us:eY b3,v=.agg us/\LQ (aX β w X) us.toList cs:=by
 cases b with
 |c b=>cases b with
  |p b=>cases b with
   |agg us _ e d=>exact⟨us.toArray,rfl,by simpa using e,λi g f=>.p (by simpa using d i (by simpa using g) f)⟩
 |agg us _ h=>exact⟨us.toArray,rfl,by simpa using h⟩
def oD{v:b3}{len:aw}{xs:ai D}(e:b9 w X v (.row len d xs)):
  ∃ad cap us,v=.slice ad len cap/\len<=cap/\cap<=lj/\(d=bj->cap=len)/\aR w X us xs/\
   ∀i(h:i<y6 us),∃b,ad=a6 b/\¬X b.block/\w.cell? (b.add i)=a6 us[i]:=by
 cases e with
 |row ad len cap d us _ g hlen full j hm f=>exact⟨ad,cap,us,rfl,hlen,full,j,⟨g,f⟩,hm⟩
def KY{P:cp}{t:c5}(h:KN P t=bj):P.underlying t=a6 .string:=by unfold KN at h;split at h;assumption;cases h
def Uh{v:b3}{d:D}{s:cB}(b:b9 w X v d)(h:d.str=a6 s):v=.string s:=by
 cases b with
 |lit v=>cases v<;>simp only[D.str,zIq,reduceCtorEq]at h;subst h;rfl
 |_=>simp[D.str]at h
def Ui{d:D}{s:cB}(h:d.str=a6 s):d.refs=[]:=by cases d<;>simp[D.str,D.refs]at h⊢
def aew{v:b3}{cs:ai D}(b:bU β w X v (.aP cs)):∃us:eY b3,v=.tuple us/\LQ (aX β w X) us.toList cs:=by
 cases b with
 |c b=>cases b with
  |p b=>cases b with
   |aP us _ e d=>exact⟨us.toArray,rfl,by simpa using e,λi g f=>.p (by simpa using d i (by simpa using g) f)⟩
 |aP us _ h=>exact⟨us.toArray,rfl,by simpa using h⟩
variable {f:Call} {g:TypeInfo} {i:cA} {j:my} {t:bF Addr}
def fA{P:cp}(w:bn){y:aw}{code:BoundsCode}(d:0<=i)(b:i<=y):(Instr.sliceBound (.int j i) y code).run P w=.ok i.toNat w:=by simp[Instr.sliceBound,asIntOf,d,b]
def AD{v:b3}{b n size:aw}(d:bU β w X v (.bG b n size)):∃cap e,v=.slice (a6 ⟨β b,0,bk⟩) n cap/\n<=cap/\cap<=lj/\w.shape? (β b)=a6 (e,cap*size):=by
 cases d with
 |c d=>cases d with
  |p f=>cases f
  |bG _ _ _ cap e j i g=>exact⟨cap,e,rfl,j,i,g⟩
def Iz{v:b3}{q:aw}{full:ai D}(k:b9 w X v (.row q d full)){sz:aw}(m:full.length=q*sz)(l:0<q)(t:0<sz):
  ∃b e dx,v=.slice (a6 b) q e/\dx.length=q*sz/\aR w X dx full/\∀j u,dx[j]? =a6 u->w.cell? (b.add j)=a6 u:=by
 obtain⟨x,e,dx,f1,f2,f3,f4,f5,f6⟩:=oD k;have f:dx.length=q*sz:=by rw[f5.1];exact m
 have y:0<dx.length:=by rw[f];exact aqm l t
 obtain⟨b,rfl,_,_⟩:=f6 0 y;refine⟨b,e,dx,f1,f,f5,λj u p=>?_⟩
 obtain⟨r,rfl⟩:=aqS.1 p;obtain⟨z,i,_,g⟩:=f6 j r;cases i;exact g
def Bq{P:cp}{full e ty:c5}{z:b3}{b q:aw}{xs i:ai D}{us:ai b3}{H:b3}(L:P.underlying full=a6 (.slice e))(K:P.info? e=a6 g)(I:g.zero=a6 z)(Z:z.cells.size=g.size)(M:0<g.size)
  (e3:b<=lj) (F:aR w X us xs) (N:∀g(h:g<us.length),∃l,t=a6 l/\w.cell? (l.add g)=a6 us[g]) (S:b9 w X H (.row q d i)) (J:0<q)
  (B:xs.length=b*g.size/\i.length=q*g.size/\b+q<=2^62/\(b+q)*g.bytes<=2^47):
  ∃us f,(gJ #[full,full] ty #[.slice t b b,H]).run P w=.ok (.slice (a6 ⟨w.heap.size,0,bk⟩) (b+q) f) (w.drew.alloc (.cells us e))/\b+q<=f/\f<=lj/\us.size=f*g.size/\
   y6 (xs++i)<=us.size/\aR w X (us.toList.take (xs++i).length) (xs++i):=by
 obtain⟨l,f,dx,rfl,G,f5,O⟩:=Iz S B.2.1 J M;have k:us.length=b*g.size:=by rw[F.1];exact B.1
 have p:(b+q)*g.bytes<=140737488355328:=by
  have Y5:=xe;have:=B.2.2.2;omega
 have key:∀(r:aw),(gJ #[full,full] ty #[.slice t b b,.slice (a6 l) q f]).run P w=.ok (.slice (a6 ⟨w.heap.size,0,bk⟩) (b+q) (grownCap w (b+q) r e))
    (w.drew.alloc (.cells (us.toArray++dx.toArray++mn z.cells (grownCap w (b+q) r e-(b+q))) e))->
   ∃u ad,(gJ #[full,full] ty #[.slice t b b,.slice (a6 l) q f]).run P w=.ok (.slice (a6 ⟨w.heap.size,0,bk⟩) (b+q) ad) (w.drew.alloc (.cells u e))/\b+q<=ad/\ad<=lj/\u.size=ad*g.size/\
    y6 (xs++i)<=u.size/\aR w X (u.toList.take (xs++i).length) (xs++i):=by
  intro r A;have Y:=grownCap_ge w (b+q) r e;have m:y6 (xs++i)=y6 (us++dx):=by simp[F.1,f5.1]
  refine⟨_,_,A,Y,grownCap_le_maxLen _ _ _ _ (by unfold lj;omega),?_,?_,?_⟩
  ·simp only[Array.size_append,ov,size_zeroCells,Z,k,G,<-tm]
   congr 1;omega
  ·rw[m];simp
  ·rw[m]
   have:(us.toArray++dx.toArray++mn z.cells (grownCap w (b+q) r e-(b+q))).toList.take (us++dx).length=us++dx:=by
    simp only[Array.toList_append,ra];rw[<-aqV,asG]
   rw[this];exact F.append f5
 cases t with
 |none=>
  have C:b=0:=by
   obtain E|E:=apv b
   ·exact E
   ·have T:0<us.length:=by rw[k];exact aqm E M
    obtain⟨W,x,_⟩:=N 0 T;cases x
  subst C;have y:us=[]:=ap8 za
  subst y;have A:=run_append_nil (P:=P) w full ty e g z L K I l q f dx G O J za (by rw[aqa]at p;omega)
  refine key 0 ?_;simpa using A
 |some a1=>
  have holds:∀j v,us[j]? =a6 v->w.cell? (a1.add j)=a6 v:=by
   intro j v U;obtain⟨V,rfl⟩:=aqS.1 U;obtain⟨W,x,R⟩:=N j V;cases x;exact R
  exact key b (run_append_grow (P:=P) w full ty e g z L K I a1 b b us k holds l q f dx G O za za (growslice_fits za p))
def D4{P:cp}{t e ty:c5}{i:TypeInfo}{z:b3}{p q:aw}{xs d:ai D}{v f:b3}{full:b5}(y:P.underlying t=a6 (.slice e))(x:P.info? e=a6 i)(k:i.zero=a6 z)(H:z.cells.size=i.size)(A:0<i.size)
  (m:b9 w X v (.row p bj xs)) (l:b9 w X f (.row q full d)) (r:0<q)
  (u:xs.length=p*i.size/\d.length=q*i.size/\p+q<=2^62/\(p+q)*i.bytes<=2^47):
  ∃us b,(gJ #[t,t] ty #[v,f]).run P w=.ok (.slice (a6 ⟨w.heap.size,0,bk⟩) (p+q) b) (w.drew.alloc (.cells us e))/\p+q<=b/\b<=lj/\us.size=b*i.size/\
   (xs++d).length<=us.size/\aR w X (us.toList.take (xs++d).length) (xs++d):=by
 obtain⟨J,b,us,rfl,I,F,E,C,B⟩:=oD m;obtain rfl:=E rfl;exact Bq y x k H A F C (λi h=>by obtain⟨G,j,_,g⟩:=B i h;exact⟨G,j,g⟩) l r u
def k_{o:e9}{x y:c6}{t:c5}(k:o.op=.call f)(g:f.callee=.builtin .append)(i:f.args.toList=[x,y])(d:f.argTypes.toList=[t,t]){v:b3}{w':bn}
  (e:(gJ #[t,t] o.type #[a.eval x,a.eval y]).run c.P w=.ok v w'):(execOp a.eval o).run c.P w=.ok (.value v) w':=by
 have b:f.args= #[x,y]:=by apply aqc.1;simpa using i
 have j:f.argTypes= #[t,t]:=by apply aqc.1;simpa using d
 simp[execOp,k,resolve,g,invoke,builtin,b,j,e]
def Es{P:cp}(w:bn)(t ty e k:c5)(i:TypeInfo)(p:P.underlying t=a6 (.slice e))(r:P.info? e=a6 i)
  (g d b:aw) (cur:eY b3) (v:w.heap[g]? =a6 (.cells cur k (0,0)))
  (a:Addr) (m c:aw) (news:ai b3) (q:y6 news=m*i.size) (A:∀j u,news[j]? =a6 u->w.cell? (a.add j)=a6 u) (y:∀u∈news,u.oneCell'=bj)
  (z:d+m<=b) (l:d*i.size+y6 news<=cur.size):
  (gJ #[t,t] ty #[.slice (a6 ⟨g,0,bk⟩) d b,.slice (a6 a) m c]).run P w=
   .ok (.slice (a6 ⟨g,0,bk⟩) (d+m) b) (w.setRow g (cur.toList.take (d*i.size)++news++cur.toList.drop (d*i.size+y6 news)).toArray):=by
 have x:=run_firstCells_some (P:=P) w i.size m a m c news q A;have f:=sN P g (d*i.size) k news 0 cur w v (by simpa using l) y;simp only[n5]at f;simp[gJ,db p,Go.sizeOf,typeInfo,r,pz,z,x,Addr.jM,f]
section ops
variable {c:Ctx} {n:aw} {s:as0} {a:Act} {w:bn} {β:aw->aw} {X:aw->Prop} (h:df c n s a w β X) {o:e9} {nb:aw}
include h
def EK{t:c5}{x:c6}{f off d b:aw}{j:c5}{sz:aw}(l:o.op=.fieldAddr t x f)(e:xk c.P t f=a6 (off,j))(hs:cu c.P j=a6 sz)(z:0<sz)
  (g:s.ev x=.ptr b d):bg c n s a w β X nb o (.val (.ptr b (d+off))):=by
 have i:=cL h x;rw[g]at i;have u:=s9 h x b (by rw[g];exact aq3 b);obtain⟨fields,fd,r,q,p,m⟩:=E6 e;subst p m;refine .same (v:=.pointer (a6 ⟨β b,d+fd.offset,bk⟩)) ?_ (.ptr b _) (λA k=>by simp only[D.ref,zIq]at k;subst k;exact u);simp[execOp,l,Instr.fieldAt,db r,q,Ah i,lg,fieldPlace,jJ w hs,Addr.jM];intro y;omega
def C8{t:c5}{x:c6}{f off:aw}{d:c5}{sz:aw}{cs:ai D}(i:o.op=.fieldAddr t x f)(e:xk c.P t f=a6 (off,d))(hs:cu c.P d=a6 sz)(A:0<sz)
  (g:s.ev x=.aJ cs):bg c n s a w β X nb o (.val (.aJ (cs.drop off))):=by
 have b:=cL h x;rw[g]at b;obtain⟨fields,fd,m,l,k,j⟩:=E6 e;subst k j;obtain⟨u,us,r,q,p⟩:=qM (b.pure rfl);refine .same (v:=.pointer (a6 (u.add fd.offset))) ?_ (.p (Et q p _)) (λB y=>by simp[D.ref]at y);simp[execOp,i,Instr.fieldAt,db m,l,r,lg,fieldPlace,jJ w hs];intro z;omega
def aa7{t:c5}{x:c6}{f off:aw}{g:c5}{sz:aw}{m:b5}{cs:ai D}(r:o.op=.field t x f)(e:xk c.P t f=a6 (off,g))(hs:cu c.P g=a6 sz)(z:tU c.P g=a6 m)
  (i:s.ev x=.agg cs) (l:off<cs.length):bg c n s a w β X nb o (.val (if m then .agg ((cs.drop off).take sz)else(cs.drop off).headD .any)):=by
 have j:=cL h x;rw[i]at j;obtain⟨fields,fd,E,C,B,A⟩:=E6 e;subst B A;obtain⟨us,F,k⟩:=VM j;obtain⟨v,G,q⟩:=Pg hs z k l;have p:=s9 h x;rw[i]at p;refine .K3 (v:=v) ?_ q (Aj l (λd u b y=>p b (apM.2 ⟨d,u,y⟩)) λ_=>AO k);simp[execOp,r,Instr.field,db E,C,F,asAgg,G]
def aa6{t:c5}{x f:c6}{i:cA}{k:my}{m:aw}{e:c5}{sz:aw}{q:b5}{cs:ai D}(z:o.op=.index t x f)(B:dp c.P t=a6 (a6 m,e))
  (hs:cu c.P e=a6 sz) (F:tU c.P e=a6 q) (u:(s.ev f).b_=a6 (.int k i)) (g:s.ev x=.agg cs) (A:0<=i/\i<m) (p:i.toNat*sz<cs.length):
  bg c n s a w β X nb o (.val (if q then .agg ((cs.drop (i.toNat*sz)).take sz)else(cs.drop (i.toNat*sz)).headD .any)):=by
 have j:=cL h x;rw[g]at j;obtain⟨us,G,l⟩:=VM j;obtain⟨v,H,y⟩:=Pg hs F l p;have r:=s9 h x;rw[g]at r;refine .K3 (v:=v) ?_ y (Aj p (λd C b E=>r b (apM.2 ⟨d,C,E⟩)) λ_=>AO l);simp[execOp,z,Instr.index,db (x6 B),bY h u,asIntOf,G,A,jJ w hs,H]
variable {A q:cB} {b e:c6} {k:cA} {l:my} {p:bF c6} {r:BinOp}
def M_{t:c5}{x:c6}(d:o.op=.index t x b)(m:KN c.P t=bj)
  (f:(s.ev b).b_=a6 (.int j i)) (e:(s.ev x).str=a6 q) (l:0<=i/\i.toNat<q.size):bg c n s a w β X nb o (.val (.lit (.int .u8 ((q[i.toNat]?).getD 0).toNat))):=by
 have g:=Uh ((cL h x).pure (Ui e)) e;refine .same (v:=.int .u8 ((q[i.toNat]?).getD 0).toNat) ?_ (.p (.lit _)) (λq p=>by simp[D.ref]at p);simp[execOp,d,Instr.index,db (KY m),bY h f,asIntOf,g,l]
def M4{t:c5}{x:c6}{d:bF c6}(lo:o.op=.slice t x p d bk)(r:KN c.P t=bj)(f:(s.ev x).str=a6 q)
  (e:(match p with|some i=>(s.ev i).b_|none=>bk)=a6 (.int j i)) (g:(match d with|some h=>(s.ev h).b_|none=>bk)=a6 (.int l k)) (C:0<=i/\i<=k/\k<=q.size):
  bg c n s a w β X nb o (.val (.lit (.string (q.extract i.toNat k.toNat)))):=by
 have k2:=Uh ((cL h x).pure (Ui f)) f;cases p with
 |none=>cases e
 |some p=>cases d with
  |none=>cases g
  |some d=>
   refine .same (v:=.string (q.extract i.toNat k.toNat)) ?_ (.p (.lit _)) (λE B=>by simp[D.ref]at B);have A:=bY h e;have z:=bY h g;have m:=fA (P:=c.P) w (j:=l) (i:=k) (y:=q.size) (code:=.sliceAlen) za za;have b:=fA (P:=c.P) w (j:=j) (i:=i) (y:=k.toNat) (code:=.sliceB) za za;simp[execOp,lo,ry,Instr.slice,db (KY r),dj,k2,A,z,m,b]
def EH{t:c5}{x b:c6}{i:cA}{k:my}{e:c5}{sz len:aw}{full:b5}{cs:ai D}(u:o.op=.indexAddr t x b)(A:dp c.P t=a6 (bk,e))
  (hs:cu c.P e=a6 sz) (l:(s.ev b).b_=a6 (.int k i)) (r:s.ev x=.row len full cs) (z:0<=i/\i<len) (E:i.toNat*sz<cs.length):
  bg c n s a w β X nb o (.val (.aJ (cs.drop (i.toNat*sz)))):=by
 have d:=cL h x;rw[r]at d;obtain⟨L,C,us,B,J,I,H,g,f⟩:=oD (d.pure rfl);obtain⟨G,rfl,_,_⟩:=f (i.toNat*sz) (by rw[g.1];exact E);refine .same (v:=.pointer (a6 (G.add (i.toNat*sz)))) ?_ (.p (Et g (λj y=>?_) _)) (λK F=>by simp[D.ref]at F);simp[execOp,u,rA,db (cJ A),bY h l,asIntOf,B,z,jJ w hs];obtain⟨M,q,p,m⟩:=f j y;cases q;exact⟨p,m⟩
def EG{t:c5}{x:c6}{e:c5}{sz f off len d:aw}(p:o.op=.indexAddr t x b)(r:dp c.P t=a6 (bk,e))
  (hs:cu c.P e=a6 sz) (m:(s.ev b).b_=a6 (.int j i)) (g:s.ev x=.aY f off len d) (q:0<=i/\i<len):
  bg c n s a w β X nb o (.val (.ptr f (off+i.toNat*sz))):=by
 have k:=cL h x;rw[g]at k;have u:=s9 h x f (by rw[g];exact aq3 f);refine .same (v:=.pointer (a6 ⟨β f,off+i.toNat*sz,bk⟩)) ?_ (.ptr f _) (λy l=>by simp only[D.ref,zIq]at l;subst l;exact u);simp[execOp,p,rA,db (cJ r),bY h m,asIntOf,(Ad k).1,q,jJ w hs,Addr.jM]
def EJ{t:c5}{x:c6}{e:c5}{sz d len size:aw}(m:o.op=.indexAddr t x b)(q:dp c.P t=a6 (bk,e))
  (hs:cu c.P e=a6 sz) (l:(s.ev b).b_=a6 (.int j i)) (f:s.ev x=.bG d len size) (p:0<=i/\i<len):
  bg c n s a w β X nb o (.val (.ptr d (i.toNat*sz))):=by
 have g:=cL h x;rw[f]at g;have y:=s9 h x d (by rw[f];exact aq3 d);obtain⟨u,z,r,_⟩:=AD g;refine .same (v:=.pointer (a6 ⟨β d,i.toNat*sz,bk⟩)) ?_ (.ptr d _) (λA k=>by simp only[D.ref,zIq]at k;subst k;exact y);simp[execOp,m,rA,db (cJ q),bY h l,asIntOf,r,p,jJ w hs,Addr.jM]
def C7{t:c5}{x:c6}{m:aw}{e:c5}{sz:aw}{cs:ai D}(k:o.op=.indexAddr t x b)(p:dp c.P t=a6 (a6 m,e))
  (hs:cu c.P e=a6 sz) (f:(s.ev b).b_=a6 (.int j i)) (g:s.ev x=.aJ cs) (l:0<=i/\i<m):
  bg c n s a w β X nb o (.val (.aJ (cs.drop (i.toNat*sz)))):=by
 have d:=cL h x;rw[g]at d;obtain⟨y,us,u,r,q⟩:=qM (d.pure rfl);refine .same (v:=.pointer (a6 (y.add (i.toNat*sz)))) ?_ (.p (Et r q _)) (λA z=>by simp[D.ref]at z);simp[execOp,k,rA,db (x6 p),bY h f,asIntOf,u,lg,l,jJ w hs]
def EI{t:c5}{x:c6}{m:aw}{e:c5}{sz d off:aw}(p:o.op=.indexAddr t x b)(r:dp c.P t=a6 (a6 m,e))
  (hs:cu c.P e=a6 sz) (l:(s.ev b).b_=a6 (.int j i)) (f:s.ev x=.ptr d off) (q:0<=i/\i<m):
  bg c n s a w β X nb o (.val (.ptr d (off+i.toNat*sz))):=by
 have g:=cL h x;rw[f]at g;have u:=s9 h x d (by rw[f];exact aq3 d);refine .same (v:=.pointer (a6 ⟨β d,off+i.toNat*sz,bk⟩)) ?_ (.ptr d _) (λy k=>by simp only[D.ref,zIq]at k;subst k;exact u);simp[execOp,p,rA,db (x6 r),bY h l,asIntOf,Ah g,lg,q,jJ w hs,Addr.jM]
def Sq{x:c6}{i:aw}{ds:ai D}{d:D}(m:o.op=.extract x i)(b:s.ev x=.aP ds)(p:ds[i]? =a6 d):bg c n s a w β X nb o (.val d):=by
 have e:=cL h x;rw[b]at e;obtain⟨us,q,j⟩:=aew e;have k:=s9 h x;rw[b]at k;obtain⟨g,rfl⟩:=aqS.1 p;have f:i<us.size:=by have:=j.1;rw[aqT]at this;omega
 have l:=j.2 i (by simpa using f) g
 refine .same (v:=us[i]) ?_ (by simpa using l) (λr t=>k r (apM.2 ⟨_,apD g,t⟩))
 simp[execOp,m,Instr.extract,q,f]
def Is{t u:c5}{x y:c6}{d b v:b3}(i:o.op=.binOp r t x y u)(f:(s.ev x).b_=a6 d)(e:(s.ev y).b_=a6 b)
  (g:fK c.P (do eqGuard r t x y d b;binOp r t d b)=a6 v):bg c n s a w β X nb o (.val (.lit v)):=by
 refine .lit ?_;have:=kY g w;simp only[execOp,i,kl,bY h f,bY h e]at this⊢;rw[this];rfl
def ai_{t u:c5}{x y:c6}(f:o.op=.binOp .add t x y u)(e:(s.ev x).b_=a6 (.string A))(d:(s.ev y).b_=a6 (.string q))(g:((A.size+q.size:aw):cA)<=IntKind.i64.max):
  bg c n s a w β X nb o (.val (.lit (.string (A++q)))):=by
 refine .lit ?_;have b:¬((A.size+q.size:aw):cA)>IntKind.i64.max:=za
 simp only[execOp,f,kl,bY h e,bY h d,eqGuard,binOp,Op.stringOp,ks b];rfl
def ai7{t u:c5}{x y:c6}(f:o.op=.binOp .quo t x y u)(d:(s.ev x).b_=a6 (.int j i))(b:(s.ev y).b_=a6 (.int j k))(e:k≠0):
  bg c n s a w β X nb o (.val (.lit (.int j (j.wrap (i.tdiv k))))):=by
 refine .lit ?_;simp[execOp,f,bY h d,bY h b,eqGuard,binOp,Op.intDiv,e]
def ai6{t u:c5}{x y:c6}(f:o.op=.binOp .rem t x y u)(d:(s.ev x).b_=a6 (.int j i))(b:(s.ev y).b_=a6 (.int j k))(e:k≠0):
  bg c n s a w β X nb o (.val (.lit (.int j (i.tmod k)))):=by
 refine .lit ?_;simp[execOp,f,bY h d,bY h b,eqGuard,binOp,Op.intDiv,e]
def ai5{t u:c5}{x y:c6}(f:o.op=.binOp .shl t x y u)(e:(s.ev x).b_=a6 (.int j i))(d:(s.ev y).b_=a6 (.int l k))(g:0<=k):
  bg c n s a w β X nb o (.val (.lit (.int j (j.wrap (i*2^min k.toNat j.bits))))):=by
 refine .lit ?_;simp[execOp,f,bY h e,bY h d,eqGuard,binOp,Op.shift,show¬k<0 by omega]
def ai4{t u:c5}{x y:c6}(f:o.op=.binOp .shr t x y u)(e:(s.ev x).b_=a6 (.int j i))(d:(s.ev y).b_=a6 (.int l k))(g:0<=k):
  bg c n s a w β X nb o (.val (.lit (.int j (i.fdiv (2^min k.toNat j.bits))))):=by
 refine .lit ?_;simp[execOp,f,bY h e,bY h d,eqGuard,binOp,Op.shift,show¬k<0 by omega]
def afH{op:UnOp}{t:c5}{x:c6}{b v:b3}(f:o.op=.unOp op t x)(d:(s.ev x).b_=a6 b)(e:fK c.P (Op.unary op b)=a6 v):bg c n s a w β X nb o (.val (.lit v)):=by refine .lit ?_;simp[execOp,f,bY h d,kY e w]
def Sr{t u:c5}{x:c6}{b v:b3}(f:o.op=.convert t u x)(d:(s.ev x).b_=a6 b)(e:fK c.P (convert t u b)=a6 v):bg c n s a w β X nb o (.val (.lit v)):=by refine .lit ?_;simp[execOp,f,bY h d,kY e w]
def EF{t:c5}{x:c6}{b v:b3}(f:o.op=.makeInterface t x)(d:(s.ev x).b_=a6 b)(e:fK c.P (Instr.makeInterface t b)=a6 v):bg c n s a w β X nb o (.val (.lit v)):=by refine .lit ?_;simp[execOp,f,bY h d,kY e w]
def Be{t u:c5}{x:c6}{ok v:b3}(i:o.op=.typeAssert x t u d)(f:(s.ev x).b_=a6 ok)(g:fK c.P (Instr.typeAssert ok t u d)=a6 v):
  bg c n s a w β X nb o (.val (match v with|.tuple vs=>.aP (vs.toList.map D.uf)|v=>D.uf v)):=by
 have e:(execOp a.eval o).run c.P w=.ok (.value v) w:=by simp[execOp,i,bY h f,kY g w]
 cases v with
 |tuple vs=>
  have:=o7 w X vs.toList;refine .same e (.p ?_) (λj b=>by simp[D.ref]at b);have:=b9.aP (w:=w) (X:=X) vs.toList _ this.1 this.2;simpa using this
 |_=>exact .same e (.p (D.Iw w X _)) (λj b=>by rw[Sw]at b;cases b)
def M6{t:c5}{x:c6}{lo d:bF c6}{e:c5}{sz len:aw}{full:b5}{cs:ai D}{k1 k2:my}{l u:cA}(I:o.op=.slice t x lo d bk)(J:dp c.P t=a6 (bk,e))
  (hs:cu c.P e=a6 sz) (H:s.ev x=.row len full cs)
  (f:(match lo with|some l=>(s.ev l).b_|none=>a6 (.int .i64 0))=a6 (.int k1 l))
  (q:(match d with|some h=>(s.ev h).b_|none=>a6 (.int .i64 len))=a6 (.int k2 u)) (v:0<=l/\l<=u/\u<=len):
  bg c n s a w β X nb o (.val (.row (u.toNat-l.toNat) (full&&d.isNone) ((cs.drop (l.toNat*sz)).take ((u.toNat-l.toNat)*sz)))):=by
 have r:=cL h x;rw[H]at r;obtain⟨z,b,us,O,U,T,N,M,L⟩:=oD (r.pure rfl);have W:l.toNat<=u.toNat:=za
 have K:u.toNat<=len:=za
 have k:∃m,(dj bj len b (lo.map a.eval) (d.map a.eval) bk).run c.P w=.ok (l.toNat,u.toNat,m) w/\m=b:=by
  refine⟨b,?_,rfl⟩;cases d with
  |none=>
   simp only[zIq,gl]at q;have hu:u.toNat=len:=za
   cases lo with
   |none=>
    simp only[zIq,gl]at f;simp[dj,<-f.2,hu]
   |some lo=>
    have:=bY h f;simp[dj,this,fA w v.1 (show l<=(len:cA) by omega),hu]
  |some d=>
   have g:=bY h q;cases lo with
   |none=>
    simp only[zIq,gl]at f;simp[dj,g,fA w (show 0<=u by omega) (show u<=(b:cA) by omega),<-f.2]
   |some lo=>
    have:=bY h f;simp[dj,g,this,fA w (show 0<=u by omega) (show u<=(b:cA) by omega),fA w v.1 (show l<=(u.toNat:cA) by omega)]
 obtain⟨m,k,rfl⟩:=k;have p:(execOp a.eval o).run c.P w=.ok (.value (.slice (if m=l.toNat then z else z.map (·.add (l.toNat*sz))) (u.toNat-l.toNat) (m-l.toNat))) w:=by
  simp[execOp,I,ry,db (cJ J),Instr.slice,O,k,jJ w hs]
 refine .same p (.p ?_) (λV P=>by simp[D.ref]at P)
 have y:=(M.drop (l.toNat*sz)).take ((u.toNat-l.toNat)*sz);refine .row _ _ _ _ _ _ y.1 za za (λj=>?_) (λi F=>?_) y.2
 ·simp only[zLq]at j
  have:=N j.1;cases d with
  |none=>simp only[zIq,gl]at q;omega
  |some _=>simp at j
 ·have A:i<(u.toNat-l.toNat)*sz/\l.toNat*sz+i<us.length:=by simp at F;omega
  obtain⟨R,E,C,B⟩:=L (l.toNat*sz+i) A.2;have G:m≠l.toNat:=by
   intro S;have:u.toNat-l.toNat=0:=za
   rw[this]at A;omega
  subst E;refine⟨R.add (l.toNat*sz),by rw[ape G];rfl,by rw[Addr.block_add];exact C,?_⟩
  rw[Addr.add_add,B,ars,arq]
def Ir{t:c5}{x:c6}{lo b:bF c6}{e:c5}{sz m:aw}{cs:ai D}{k1 k2:my}{l u:cA}(E:o.op=.slice t x lo b bk)(G:dp c.P t=a6 (a6 m,e))
  (hs:cu c.P e=a6 sz) (C:s.ev x=.aJ cs)
  (d:(match lo with|some l=>(s.ev l).b_|none=>a6 (.int .i64 0))=a6 (.int k1 l))
  (k:(match b with|some h=>(s.ev h).b_|none=>a6 (.int .i64 m))=a6 (.int k2 u)) (q:0<=l/\l<=u/\u<=m/\m*sz<=cs.length/\m<=lj):
  bg c n s a w β X nb o (.val (.row (u.toNat-l.toNat) b.isNone ((cs.drop (l.toNat*sz)).take ((u.toNat-l.toNat)*sz)))):=by
 have p:=cL h x;rw[C]at p;obtain⟨g,us,J,I,H⟩:=qM (p.pure rfl);have K:(dj aj m m (lo.map a.eval) (b.map a.eval) bk).run c.P w=.ok (l.toNat,u.toNat,m) w:=by
  cases b with
  |none=>
   simp only[zIq,gl]at k;have hu:u.toNat=m:=za
   cases lo with
   |none=>
    simp only[zIq,gl]at d;simp[dj,<-d.2,hu]
   |some lo=>
    have:=bY h d;simp[dj,this,fA w q.1 (show l<=(m:cA) by omega),hu]
  |some b=>
   have f:=bY h k;cases lo with
   |none=>
    simp only[zIq,gl]at d;simp[dj,f,fA w (show 0<=u by omega) (show u<=(m:cA) by omega),<-d.2]
   |some lo=>
    have:=bY h d;simp[dj,f,this,fA w (show 0<=u by omega) (show u<=(m:cA) by omega),fA w q.1 (show l<=(u.toNat:cA) by omega)]
 have j:(execOp a.eval o).run c.P w=.ok (.value (.slice (a6 (if m=l.toNat then g else g.add (l.toNat*sz))) (u.toNat-l.toNat) (m-l.toNat))) w:=by
  simp[execOp,E,ry,db (x6 G),J,lg,K,jJ w hs]
 refine .same j (.p ?_) (λN L=>by simp[D.ref]at L)
 have r:=(I.drop (l.toNat*sz)).take ((u.toNat-l.toNat)*sz);refine .row _ _ _ _ _ _ r.1 za za (λF=>?_) (λi A=>?_) r.2
 ·cases b with
  |none=>simp only[zIq,gl]at k;omega
  |some _=>simp at F
 ·have v:i<(u.toNat-l.toNat)*sz/\l.toNat*sz+i<us.length:=by simp at A;omega
  obtain⟨z,y⟩:=H (l.toNat*sz+i) v.2;have B:m≠l.toNat:=by
   intro M;have:u.toNat-l.toNat=0:=za
   rw[this]at v;omega
  refine⟨g.add (l.toNat*sz),by rw[ape B],by rw[Addr.block_add];exact z,?_⟩
  rw[Addr.add_add,y,ars,arq]
def M5{t:c5}{x:c6}{g:bF c6}{e:c5}{sz b off len d:aw}(y:o.op=.slice t x p g bk)(z:dp c.P t=a6 (bk,e))
  (hs:cu c.P e=a6 sz) (k1:s.ev x=.aY b off len d)
  (f:(match p with|some i=>(s.ev i).b_|none=>a6 (.int .i64 0))=a6 (.int j i))
  (q:(match g with|some h=>(s.ev h).b_|none=>a6 (.int .i64 len))=a6 (.int l k)) (m:0<=i/\i<=k/\k<=len/\i<d):
  bg c n s a w β X nb o (.val (.aY b (off+i.toNat*sz) (k.toNat-i.toNat) (d-i.toNat))):=by
 have k2:=cL h x;rw[k1]at k2;obtain⟨A,F,E⟩:=Ad k2;have C:=s9 h x b (by rw[k1];exact aq3 b);have B:(dj bj len d (p.map a.eval) (g.map a.eval) bk).run c.P w=.ok (i.toNat,k.toNat,d) w:=by
  cases g with
  |none=>
   simp only[zIq,gl]at q;have hu:k.toNat=len:=za
   cases p with
   |none=>
    simp only[zIq,gl]at f;simp[dj,<-f.2,hu]
   |some p=>
    have:=bY h f;simp[dj,this,fA w m.1 (show i<=(len:cA) by omega),hu]
  |some g=>
   have u:=bY h q;cases p with
   |none=>
    simp only[zIq,gl]at f;simp[dj,u,fA w (show 0<=k by omega) (show k<=(d:cA) by omega),<-f.2]
   |some p=>
    have:=bY h f;simp[dj,u,this,fA w (show 0<=k by omega) (show k<=(d:cA) by omega),fA w m.1 (show i<=(k.toNat:cA) by omega)]
 have r:¬d=i.toNat:=za
 refine .same (v:=.slice (a6 ⟨β b,off+i.toNat*sz,bk⟩) (k.toNat-i.toNat) (d-i.toNat)) ?_ (.aY b _ _ _ za za) (λG lo=>by simp only[D.ref,zIq]at lo;subst lo;exact C);simp[execOp,y,ry,db (cJ z),Instr.slice,A,B,jJ w hs,r,Addr.jM]
def M7{t:c5}{x:c6}{f:bF c6}{e:c5}{sz b len size:aw}(r:o.op=.slice t x p f bk)(y:dp c.P t=a6 (bk,e))
  (hs:cu c.P e=a6 sz) (k1:s.ev x=.bG b len size)
  (u:(match p with|some lo=>(s.ev lo).b_|none=>a6 (.int .i64 0))=a6 (.int j 0))
  (q:(match f with|some h=>(s.ev h).b_|none=>a6 (.int .i64 len))=a6 (.int l i)) (m:0<=i/\i<=len):
  bg c n s a w β X nb o (.val (.bG b i.toNat size)):=by
 have k:=cL h x;rw[k1]at k;obtain⟨d,E,C,H,B,A⟩:=AD k;have G:=s9 h x b (by rw[k1];exact aq3 b);have F:(dj bj len d (p.map a.eval) (f.map a.eval) bk).run c.P w=.ok (0,i.toNat,d) w:=by
  cases f with
  |none=>
   simp only[zIq,gl]at q;have hu:i.toNat=len:=za
   cases p with
   |none=>simp[dj,hu]
   |some p=>
    have:=bY h u;simp[dj,this,fA w (Int.le_refl 0) (show(0:cA)<=(len:cA) by omega),hu]
  |some f=>
   have g:=bY h q;cases p with
   |none=>simp[dj,g,fA w m.1 (show i<=(d:cA) by omega)]
   |some p=>
    have:=bY h u;simp[dj,g,this,fA w m.1 (show i<=(d:cA) by omega),fA w (Int.le_refl 0) (show(0:cA)<=(i.toNat:cA) by omega)]
 refine .same (v:=.slice (a6 ⟨β b,0,bk⟩) i.toNat d) ?_ (.bG b _ _ d E za B A) (λI k2=>by simp only[D.ref,zIq]at k2;subst k2;exact G);have z:(⟨β b,0,bk⟩:Addr).add 0=⟨β b,0,bk⟩:=by rw[Addr.jM]
 simp[execOp,r,ry,db (cJ y),Instr.slice,C,F,jJ w hs,z]
def M8{t:c5}{l:c5}{z:D}(C:o.op=.makeSlice t b e)(H:dp c.P t=a6 (bk,l))
  (F:(s.ev b).b_=a6 (.int .i64 i)) (G:(s.ev e).b_=a6 (.int .i64 k)) (f:pH c.P l=a6 [z]) (hs:cu c.P l=a6 1) (p:c.P.info? l=a6 g)
  (E:i=k/\0<=i/\i*g.bytes<=2^47/\i<=2^62):bg c n s a w β X nb o (.new nb (cd i.toNat z) (.aY nb 0 i.toNat i.toNat) aj):=by
 obtain⟨rfl,x,J,N⟩:=E;unfold pH By at f;rw[p]at f;simp only[u0]at f;cases q:g.zero with
 |none=>rw[q]at f;cases f
 |some len=>
  rw[q]at f;simp only[dm,zIq]at f;have r:=o7 w X len.cells.toList;rw[f]at r;have y:len.cells.size=1:=by have:=r.1;simpa using this
  have A:g.size=1:=by simpa [cu,p]using hs
  have u:aR w X (madeCells len.cells (i.toNat*g.size)).toList (cd i.toNat z):=by
   refine⟨by simp[madeCells,A],λj x J=>?_⟩
   have:=r.2 0 (by simp[y]) zb
   simp only[madeCells,kB,kz,sA,v5,y,Nat.mod_one];rw[getElem!_pos len.cells 0 za]
   simpa using this
  have K:=run_make (P:=c.P) w t l g len (cJ H) p q .i64 .i64 i i x (asg _) (by rw[Int.mul_comm];omega) za
  refine⟨rfl,w,madeCells len.cells (i.toNat*g.size),l,.slice (a6 ⟨w.heap.size,0,bk⟩) i.toNat i.toNat,?_,Below.refl _ _,rfl,by simp[madeCells,A],u.xn.lq,λd I m v=>(by rw[ic u d I]at v;cases v),rfl,λL M O B _=>by rw[<-B];exact .aY nb 0 _ _ (apc _) (by unfold lj;omega)⟩
  simp[execOp,C,bY h F,bY h G,K]
omit h in
def Qu(b:ai D)(e:0<y6 b):∀(m j:aw),j<m*y6 b->((cd m b).flatten)[j]? =b[j%y6 b]?
 |0,j,h=>by omega
 |m+1,j,h=>by rw[ar8,asM];by_cases d:j<y6 b;rw[aqe d,apW d];rw[apS za,Qu b e m (j-y6 b) (by rw[aqk]at h;omega)];congr 1;exact(Nat.mod_eq_sub_mod za).symm
omit h in
def DH(b:ai D)(m:aw):((cd m b).flatten).length=m*y6 b:=by
 induction m with
 |zero=>simp
 |succ m d=>rw[ar8,asM,ap4,d,aqk];omega
def Kb{t:c5}{l:c5}{f:ai D}{m:aw}(J:o.op=.makeSlice t b e)(O:dp c.P t=a6 (bk,l))
  (L:(s.ev b).b_=a6 (.int .i64 i)) (M:(s.ev e).b_=a6 (.int .i64 k)) (p:pH c.P l=a6 f) (hs:cu c.P l=a6 m) (z:c.P.info? l=a6 g) (q:y6 f=m) (Z:0<m)
  (K:i=k/\0<=i/\i*g.bytes<=2^47/\i<=2^62):bg c n s a w β X nb o (.new nb ((cd i.toNat f).flatten) (.bG nb i.toNat m) aj):=by
 obtain⟨rfl,F,u,h3⟩:=K;unfold pH By at p;rw[z]at p;simp only[u0]at p;cases B:g.zero with
 |none=>rw[B]at p;cases p
 |some len=>
  rw[B]at p;simp only[dm,zIq]at p;have x:=o7 w X len.cells.toList;rw[p]at x;have V:len.cells.size=m:=by have:=x.1;rw[aqT]at this;omega
  have H:g.size=m:=by simpa [cu,z]using hs
  have y:aR w X (madeCells len.cells (i.toNat*g.size)).toList ((cd i.toNat f).flatten):=by
   refine⟨by rw[DH,q];simp[madeCells,H],λj F u=>?_⟩
   have N:j<i.toNat*y6 f:=by rw[DH]at u;exact u
   have v:j%y6 f<y6 f:=apP _ za
   have G:=Qu f za i.toNat j N
   rw[apj u,apj v]at G;have T:=ap0 G;rw[T];have A:j%len.cells.size<len.cells.size:=by rw[V,<-q];exact v
   have:=x.2 (j%y6 f) (by rw[x.1];exact v) v
   simp only[madeCells,kB,kz,sA,kT];rw[getElem!_pos len.cells _ A];have S:len.cells.size=y6 f:=za
   simp only[S];simpa using this
  have U:=run_make (P:=c.P) w t l g len (cJ O) z B .i64 .i64 i i F (asg _) (by rw[Int.mul_comm];omega) za
  refine⟨rfl,w,madeCells len.cells (i.toNat*g.size),l,.slice (a6 ⟨w.heap.size,0,bk⟩) i.toNat i.toNat,?_,Below.refl _ _,rfl,by have:=y.1;rw[aqT]at this;omega,y.xn.lq,λd R r E=>(by rw[ic y d R]at E;cases E),rfl,λW Y X' C I=>by rw[<-C];exact .bG nb _ _ i.toNat l (apc _) (by unfold lj;omega) (by rw[C,I];simp[madeCells,H])⟩
  simp[execOp,J,bY h L,bY h M,U]
def Ps{k:Call}{x y:c6}{t e:c5}{b off len z m sz:aw}{full:b5}{xs cs:ai D}(Z:o.op=.call k)(hk:k.callee=.builtin .copy)(ha:k.args.toList=[x,y])(Y:k.argTypes.toList=[t,t])
  (he:dp c.P t=a6 (bk,e)) (hs:cu c.P e=a6 sz) (f1:a.eval x=.slice (a6 ⟨β b,off,bk⟩) len z) (U:s.ev y=.row m full xs) (C:s.blk b=a6 cs)
  (hn:xs.all D.bV=bj/\xs.length=m*sz/\off+fe m len*sz<=cs.length):
  bg c n s a w β X nb o (.store b off (xs.take (fe m len*sz)) (.lit (.int .i64 (zNq (fe m len)))) aj):=by
 have M:=cL h y;rw[U]at M;obtain⟨T,q,O⟩:=hn;obtain⟨K,A,dx,g1,g2,g3,g4,l,I⟩:=oD (M.pure rfl);obtain⟨_,_,us,eb,G,F,E⟩:=h.blk b cs C;have hle:fe m len*sz<=m*sz:=apB _ (Nat.min_le_left m len);have W:dx.length=m*sz:=by rw[l.1];exact q
 have f:(dx.take (fe m len*sz)).length=fe m len*sz:=by rw[apr];omega
 have i:(xs.take (fe m len*sz)).length=fe m len*sz:=by rw[apr];omega
 have EV:∀v∈dx.take (fe m len*sz),v.oneCell'=bj:=by
  intro v V;obtain⟨j,g,rfl⟩:=apF.1 (aq' V);have H:j<xs.length:=by rw[<-l.1];exact g
  exact Cf (β:=β) (.p (l.2 j g H)) (apH.1 T _ (apD H))
 have B:=sN c.P (β b) off eb (dx.take (fe m len*sz)) 0 us w G (by rw[f];omega) EV
 simp only[n5,f]at B;have r:(n6 sz (fe m len) (.slice K m A)).run c.P w=.ok (dx.take (fe m len*sz)).toArray w:=by
  cases K with
  |some a1=>
   exact run_firstCells_some (P:=c.P) w sz (fe m len) a1 m A _ f λj v g=>by
    rw[aq8]at g;split at g
    ·obtain⟨p,rfl⟩:=aqS.1 g
     obtain⟨a2,S,_,R⟩:=I j p;cases S;exact R
    ·cases g
  |none=>
   have:dx=[]:=by
    cases dx with
    |nil=>rfl
    |cons u dx=>obtain⟨a2,p,_⟩:=I 0 zb;cases p
   rw[this,run_firstCells_none];simp
 have N:k.args= #[x,y]:=by apply aqc.1;simpa using ha
 have Km:k.argTypes= #[t,t]:=by apply aqc.1;simpa using Y
 refine⟨cs,us,(us.toList.take off++dx.take (fe m len*sz)++us.toList.drop (off+fe m len*sz)).toArray,eb,_,rfl,C,G,.inr ?_,?_,by rw[i];exact O,F,?_,λd hd b' L=>?_⟩
 ·simp[execOp,Z,resolve,hk,invoke,builtin,N,Km,f1,g1,Builtin.copy_,db (cJ he),pz,jJ w hs,r,B,goInt]
 ·simp only[ov,j3,m6,f,mN]
  rw[apr,aqT];omega
 ·have J:=yN us.toList (dx.take (fe m len*sz)) off cs.length (by rw[f];omega) (by simpa using F)
  rw[f]at J;have:(us.toList.take off++dx.take (fe m len*sz)++us.toList.drop (off+fe m len*sz)).toArray.toList.take cs.length=(us.toList.take off++dx.take (fe m len*sz)++us.toList.drop (off+fe m len*sz)).take cs.length:=zb
  rw[this,J,i];exact(E.take off).append ((l.take _).lq.append (E.drop (off+fe m len*sz)))
 ·rw[ic l d (aq' hd)]at L;cases L
def afI{x y:c6}{t e:c5}{b off len k m sz:aw}{xs cs:ai D}(l:o.op=.call f)(q:f.callee=.builtin .copy)(v:f.args.toList=[x,y])(j:f.argTypes.toList=[t,t])
  (r:dp c.P t=a6 (bk,e)) (hs:cu c.P e=a6 sz) (i:s.ev x=.aY b off len k) (g:s.ev y=.row m d xs) (u:s.blk b=a6 cs)
  (p:xs.all D.bV=bj/\y6 xs=m*sz/\off+fe m len*sz<=y6 cs):
  bg c n s a w β X nb o (.store b off (xs.take (fe m len*sz)) (.lit (.int .i64 (zNq (fe m len)))) aj):=by
 have full:=cL h x;rw[i]at full;exact Ps h l q v j r hs (Ad full).1 g u p
def Pq{x y:c6}{t e:c5}{b len v m sz:aw}{xs cs:ai D}(j:o.op=.call f)(p:f.callee=.builtin .copy)(u:f.args.toList=[x,y])(i:f.argTypes.toList=[t,t])
  (q:dp c.P t=a6 (bk,e)) (hs:cu c.P e=a6 sz) (g:s.ev x=.bG b len v) (full:s.ev y=.row m d xs) (r:s.blk b=a6 cs)
  (l:xs.all D.bV=bj/\y6 xs=m*sz/\0+fe m len*sz<=y6 cs):
  bg c n s a w β X nb o (.store b 0 (xs.take (fe m len*sz)) (.lit (.int .i64 (zNq (fe m len)))) aj):=by
 have k:=cL h x;rw[g]at k;obtain⟨A,B,z,-,-,-⟩:=AD k;exact Ps h j p u i q hs z full r l
def Gy{x:c6}{b off:aw}(g:o.op=.nilCheck x)(d:s.ev x=.ptr b off):bg c n s a w β X nb o (.val (.ptr b off)):=by have e:=cL h x;rw[d]at e;have i:=s9 h x b (by rw[d];exact aq3 b);refine .same (v:=.pointer (a6 ⟨β b,off,bk⟩)) ?_ (.ptr b _) (λj f=>by simp only[D.ref,zIq]at f;subst f;exact i);simp[execOp,g,Ah e]
def EE{x:c6}{cs:ai D}(e:o.op=.nilCheck x)(d:s.ev x=.aJ cs):bg c n s a w β X nb o (.val (.aJ cs)):=by have b:=cL h x;rw[d]at b;obtain⟨j,us,i,g,f⟩:=qM (b.pure rfl);refine .same (v:=.pointer (a6 j)) ?_ (.p (Us g f)) (λl k=>by simp[D.ref]at k);simp[execOp,e,i]
def PG{l:ai c6}(b:∀d∈l.map s.ev,d.refs=[]):aR w X (l.map a.eval) (l.map s.ev):=
 ⟨by simp,λi f e=>by rw[ap2,ap2];exact(cL h _).pure (b _ (ard (apD _)))⟩
def Pn{f:c7}{first b:eY c6}(i:o.op=.makeFunc (.func f) first b)(k:∀d∈first.toList.map s.ev,d.refs=[])(j:∀d∈b.toList.map s.ev,d.refs=[]):
  bg c n s a w β X nb o (.val (.fn f (first.toList.map s.ev) (b.toList.map s.ev))):=by
 have g:=PG h k;have e:=PG h j;refine .same (v:=.func (.func f) (first.toList.map a.eval).toArray (b.toList.map a.eval).toArray) ?_ (.p (.fn f _ _ _ _ g.1 e.1 g.2 e.2)) (λq p=>by simp[D.ref]at p)
 have m:(first.toList.map a.eval).toArray=first.map a.eval:=by apply aqc.1;simp
 have l:(b.toList.map a.eval).toArray=b.map a.eval:=by apply aqc.1;simp
 rw[m,l];simp[execOp,i,Instr.makeFunc]
def Wh{x:c6}(d:(s.ev x).Uk=bj):∃ad len b,a.eval x=.slice (a6 ad) len b:=by
 have g:=cL h x;cases i:s.ev x<;>rw[i]at d g<;>simp only[D.Uk,cy]at d
 case row len full xs=>
  obtain⟨ad,b,us,f,q,p,m,k,j⟩:=oD (g.pure rfl);cases xs with
  |nil=>simp at d
  |cons y l=>
   have:0<y6 us:=by rw[k.1];simp
   obtain⟨r,rfl,_⟩:=j 0 this;exact⟨_,_,_,f⟩
 case aY=>exact⟨_,_,_,(Ad g).1⟩
 case bG=>obtain⟨b,e,f,_⟩:=AD g;exact⟨_,_,_,f⟩
 case lit v=>
  have f:a.eval x=v:=bY h (by rw[i];rfl)
  cases v with
  |slice ad len b=>cases ad with
   |none=>cases d
   |some ad=>exact⟨ad,len,b,f⟩
  |_=>cases d
def WZ{x:c6}(b:(s.ev x).UN=bj):∃len cap,a.eval x=.slice bk len cap:=by
 cases d:s.ev x<;>rw[d]at b<;>simp only[D.UN,cy]at b
 case lit v=>
  have f:a.eval x=v:=bY h (by rw[d];rfl);cases v with
  |slice e len cap=>cases e with
   |some e=>cases b
   |none=>exact⟨len,cap,f⟩
  |_=>cases b
def Pp{t u e:c5}{x:c6}(f:o.op=.binOp r t x (.const (.slice bk 0 0)) u)(k:dp c.P t=a6 (bk,e))(j:(s.ev x).UN=bj)(l:r=.eql\/r=.neq):
  bg c n s a w β X nb o (.val (.lit (.bool (r==.eql)))):=by
 obtain⟨len,b,i⟩:=WZ h j;have hu:=cJ k;refine .lit ?_;have d:(Op.equal t (.slice bk len b) (.slice bk 0 0)).run c.P w=.ok bj w:=by show(Op.equalIn (9999+1) t (.slice bk len b) (.slice bk 0 0)).run c.P w=.ok bj w;rw[Op.equalIn];simp only[kl,db hu,ie,n3];rfl
 have g:a.eval (.const (.slice bk 0 0))=.slice bk 0 0:=rfl;obtain rfl|rfl:=l
 simp only[execOp,f,kl,i,g,eqGuard,binOp,kn,cy,jv,n3,ie,d];rfl;simp only[execOp,f,kl,i,g,eqGuard,binOp,kn,cy,jv,n3,ie,d];rfl
def Ll{t u e:c5}{x:c6}(f:o.op=.binOp r t x (.const (.slice bk 0 0)) u)(l:dp c.P t=a6 (bk,e))(k:(s.ev x).Uk=bj)(m:r=.eql\/r=.neq):
  bg c n s a w β X nb o (.val (.lit (.bool (r==.neq)))):=by
 obtain⟨j,len,b,i⟩:=Wh h k;have hu:=cJ l;refine .lit ?_;have d:(Op.equal t (.slice (a6 j) len b) (.slice bk 0 0)).run c.P w=.ok aj w:=by show(Op.equalIn (9999+1) t (.slice (a6 j) len b) (.slice bk 0 0)).run c.P w=.ok aj w;rw[Op.equalIn];simp only[kl,db hu,ie,n3]
 have g:a.eval (.const (.slice bk 0 0))=.slice bk 0 0:=rfl;obtain rfl|rfl:=m
 simp only[execOp,f,kl,i,g,eqGuard,binOp,kn,cy,jv,n3,ie,d];rfl;simp only[execOp,f,kl,i,g,eqGuard,binOp,kn,cy,jv,n3,ie,d];rfl
def aa8{x:c6}{k:c7}{fn:kf}{xs q:ai D}(F:o.op=.call f)(I:f.callee=.value x)(E:s.ev x=.fn k xs q)(J:c.P.funcs[k]? =a6 fn)
  (j:fn.body.isSome=bj) (G:(fn.name== "runtime.NumGoroutine")=aj):
  bg c n s a w β X nb o (.call k (xs++(f.args.toList.map s.ev++q))):=by
 have z:=cL h x;rw[E]at z;obtain⟨us,dx,K,p,t⟩:∃us dx,a.eval x=.func (.func k) us.toArray dx.toArray/\aR w X us xs/\aR w X dx q:=by
  have:=z.pure rfl;generalize a.eval x=v at this;cases this with
  |fn _ us dx _ _ H M m C=>exact⟨us,dx,rfl,⟨H,m⟩,⟨M,C⟩⟩
 have u:LQ (bU β w X) (f.args.toList.map a.eval) (f.args.toList.map s.ev):=⟨by simp,λi B A=>by simpa using cL h _⟩
 have up:∀{us:ai b3}{xs:ai D},aR w X us xs->LQ (bU β w X) us xs:=λm=>⟨m.1,λi B A=>.c (.p (m.2 i B A))⟩
 have y:=(up p).append (u.append (up t));refine⟨us++(f.args.toList.map a.eval++dx),?_,y.1,y.2,λd g b j=>?_⟩
 ·have L:fn.body≠bk:=by intro e;rw[e]at j;cases j
  have r:fn.name≠ "runtime.NumGoroutine" :=by simpa using G
  have u:(us++(f.args.toList.map a.eval++dx)).toArray=us.toArray++f.args.map a.eval++dx.toArray:=by apply aqc.1;simp
  rw[u];simp[execOp,F,resolve,I,K,vn,invoke,callFunc,program,Sem.run,J,r,L]
 ·obtain g|g:=aps.1 g
  ·have:=ic p d g
   obtain⟨i,l,rfl⟩:=apF.1 g;rw[eV (p.2 i (by rw[p.1];exact l) l)]at j;cases j
  ·obtain g|g:=aps.1 g
   ·obtain⟨x,_,rfl⟩:=apN.1 g
    exact s9 h x b j
   ·obtain⟨i,l,rfl⟩:=apF.1 g
    rw[eV (t.2 i (by rw[t.1];exact l) l)]at j;cases j
def afJ{x:c6}{k:c7}{fn:kf}(p:o.op=.call f)(r:f.callee=.value x)(l:s.ev x=.lit (.func (.func k) #[] #[]))(t:c.P.funcs[k]? =a6 fn)
  (g:fn.body.isSome=bj) (q:(fn.name== "runtime.NumGoroutine")=aj):
  bg c n s a w β X nb o (.call k (f.args.toList.map s.ev)):=by
 have m:a.eval x=.func (.func k) #[] #[]:=bY h (by rw[l];rfl)
 refine⟨f.args.toList.map a.eval,?_,by simp,λi A z=>by simpa using cL h _,λd u b g=>?_⟩
 ·have y:fn.body≠bk:=by intro e;rw[e]at g;cases g
  have j:fn.name≠ "runtime.NumGoroutine" :=by simpa using q
  have v:(f.args.toList.map a.eval).toArray=f.args.map a.eval:=by apply aqc.1;simp
  rw[v];simp[execOp,p,resolve,r,m,vn,invoke,callFunc,program,Sem.run,t,j,y]
 ·obtain⟨x,_,rfl⟩:=apN.1 u
  exact s9 h x b g
def Sn{x:c6}{t:c5}{e:c5}{len:aw}{xs:ai D}(i:o.op=.call f)(j:f.callee=.builtin .len)(m:f.args.toList=[x])(g:f.argTypes.toList=[t])
  (l:dp c.P t=a6 (bk,e)) (full:s.ev x=.row len d xs):bg c n s a w β X nb o (.val (.lit (.int .i64 len))):=by
 have b:=cL h x;rw[full]at b;obtain⟨u,q,us,p,_⟩:=oD (b.pure rfl);have k:f.args= #[x]:=by apply aqc.1;simpa using m
 have r:f.argTypes= #[t]:=by apply aqc.1;simpa using g
 refine .lit ?_;simp[execOp,i,resolve,j,invoke,builtin,sl,k,r,p,db (cJ l),goInt]
def Sm{x:c6}{t:c5}{e:c5}{b off len d:aw}(l:o.op=.call f)(m:f.callee=.builtin .len)(q:f.args.toList=[x])(j:f.argTypes.toList=[t])
  (p:dp c.P t=a6 (bk,e)) (i:s.ev x=.aY b off len d):bg c n s a w β X nb o (.val (.lit (.int .i64 len))):=by
 have k:=cL h x;rw[i]at k;obtain⟨r,_⟩:=Ad k;have g:f.args= #[x]:=by apply aqc.1;simpa using q
 have u:f.argTypes= #[t]:=by apply aqc.1;simpa using j
 refine .lit ?_;simp[execOp,l,resolve,m,invoke,builtin,sl,g,u,r,db (cJ p),goInt]
def Sp{x:c6}{t:c5}{e:c5}{b len sz:aw}(j:o.op=.call f)(l:f.callee=.builtin .len)(p:f.args.toList=[x])(i:f.argTypes.toList=[t])
  (m:dp c.P t=a6 (bk,e)) (g:s.ev x=.bG b len sz):bg c n s a w β X nb o (.val (.lit (.int .i64 len))):=by
 have d:=cL h x;rw[g]at d;obtain⟨r,v,q,_⟩:=AD d;have k:f.args= #[x]:=by apply aqc.1;simpa using p
 have u:f.argTypes= #[t]:=by apply aqc.1;simpa using i
 refine .lit ?_;simp[execOp,j,resolve,l,invoke,builtin,sl,k,u,q,db (cJ m),goInt]
def So{x:c6}{v r:b3}(k:o.op=.call f)(g:f.callee=.builtin .len)(i:f.args.toList=[x])(d:(s.ev x).b_=a6 v)
  (e:fK c.P (sl f.argTypes o.type #[v])=a6 r):bg c n s a w β X nb o (.val (.lit r)):=by
 have b:f.args= #[x]:=by apply aqc.1;simpa using i
 refine .lit ?_;simp[execOp,k,resolve,g,invoke,builtin,b,bY h d,kY e w]
def PN{l:ai c6}{vs:ai b3}(e:D.oJ (l.map s.ev)=a6 vs):l.map a.eval=vs:=by
 induction l generalizing vs with
 |nil=>simp only[fB,D.oJ,zIq]at e;rw[<-e];rfl
 |cons x l f=>
  simp only[eZ,D.oJ]at e;split at e
  ·rename_i v d b i
   simp only[zIq]at e;subst e;have:(s.ev x).b_=a6 v:=by cases g:s.ev x<;>rw[g]at b<;>simp[D.T8,D.b_]at b⊢;exact b
   rw[are,f i,bY h this]
  ·cases e
def ai9{vs:ai b3}{r:b3}(d:o.op=.call f)(e:f.callee=.builtin .max)(k:D.oJ (f.args.toList.map s.ev)=a6 vs)
  (b:fK c.P (Builtin.max_ f.argTypes o.type vs.toArray)=a6 r):bg c n s a w β X nb o (.val (.lit r)):=by
 have g:f.args.map a.eval=vs.toArray:=by apply aqc.1;simpa using PN h k
 refine .lit ?_;simp[execOp,d,resolve,e,invoke,builtin,g,kY b w]
def ai8{vs:ai b3}{r:b3}(d:o.op=.call f)(e:f.callee=.builtin .min)(k:D.oJ (f.args.toList.map s.ev)=a6 vs)
  (b:fK c.P (Builtin.min_ f.argTypes o.type vs.toArray)=a6 r):bg c n s a w β X nb o (.val (.lit r)):=by
 have g:f.args.map a.eval=vs.toArray:=by apply aqc.1;simpa using PN h k
 refine .lit ?_;simp[execOp,d,resolve,e,invoke,builtin,g,kY b w]
def Kd{k:Call}{x y:c6}{t e:c5}{i:TypeInfo}{z:b3}{p q:aw}{full:b5}{xs g:ai D}(F:o.op=.call k)(G:k.callee=.builtin .append)(I:k.args.toList=[x,y])(E:k.argTypes.toList=[t,t])
  (r:dp c.P t=a6 (bk,e)) (d:c.P.info? e=a6 i) (L:i.zero=a6 z) (Kj:z.cells.size=i.size) (V:0<i.size) (l:s.ev x=.row p bj xs) (M:s.ev y=.row q full g)
  (P:xs.length=p*i.size/\g.length=q*i.size/\p+q<=2^62/\(p+q)*i.bytes<=2^47):bg c n s a w β X nb o (.val (.row (p+q) aj (xs++g))):=by
 have C:=cL h x;rw[l]at C;have B:=cL h y;rw[M]at B;by_cases O:0<q
 ·obtain⟨us,b,N,U,T,h3,S,R⟩:=D4 (ty:=o.type) (cJ r) d L Kj V (C.pure rfl) (B.pure rfl) O P
  have H:Below w.heap.size w (w.drew.alloc (.cells us e)):=((Below.refl _ _).drew).alloc (apc _) _;have K:=R.mono (iV (X:=X) H);refine bg.mk (k_ F G I E N) H (.p (.row _ _ _ _ _ _ K.1 U T (λh=>by cases h) (λi d=>⟨_,rfl,λl=>api (h.oH _ l) zb,?_⟩) K.2)) λb' A=>by simp[D.ref]at A
  rw[Addr.jM,aqa];have:=l0 _ w.heap.size i _ e (0,0) (m3 w.drew (.cells us e));refine this.trans ?_;simp at d;have bZ:i<us.size:=by simp at S;omega
  simp[bZ]
 ·have m:q=0:=za
  subst m;obtain⟨u,b,us,e1,e2,Z,Y,J,W⟩:=oD (C.pure rfl);obtain⟨f,uG,dx,f1,f2,f3,f4,f5,f6⟩:=oD (B.pure rfl);obtain rfl:=Y rfl;have j:g=[]:=ap8 za
  subst j;rw[aqs,ass];refine .same (v:=.slice u b b) (k_ F G I E ?_) (.p (.row u b b aj us xs J.1 (apc _) Z (λh=>by cases h) W J.2)) (λb' A=>by simp[D.ref]at A)
  rw[e1,f1];cases u with
  |none=>cases f<;>simp[gJ,db (cJ r),Go.sizeOf,typeInfo,d,pz,n6,loadCells,loadCellsFrom]
  |some a1=>cases f<;>simp[gJ,db (cJ r),Go.sizeOf,typeInfo,d,pz,n6,loadCells,loadCellsFrom,storeCells]
def Ke{x y:c6}{i e:c5}{p q:aw}{xs:ai D}(A:o.op=.call f)(B:f.callee=.builtin .append)(C:f.args.toList=[x,y])(z:f.argTypes.toList=[i,i])
  (j:dp c.P i=a6 (bk,e)) (k:c.P.info? e=a6 g) (u:s.ev x=.row p bj xs) (r:s.ev y=.lit (.slice t 0 q)):bg c n s a w β X nb o (.val (.row p bj xs)):=by
 have m:=cL h x;rw[u]at m;have f1:a.eval y=.slice t 0 q:=bY h (by rw[r];rfl);obtain⟨d,b,us,H,J,G,F,l,E⟩:=oD (m.pure rfl);obtain rfl:=F rfl;refine .same (v:=.slice d b b) (k_ A B C z ?_) (.p (.row d b b bj us xs l.1 (apc _) G (λ_=>rfl) E l.2)) (λK I=>by simp[D.ref]at I);rw[H,f1];cases d with
 |none=>cases t<;>simp[gJ,db (cJ j),Go.sizeOf,typeInfo,k,pz,n6,loadCells,loadCellsFrom]
 |some a1=>cases t<;>simp[gJ,db (cJ j),Go.sizeOf,typeInfo,k,pz,n6,loadCells,loadCellsFrom,storeCells]
def Kf{k:Call}{x y:c6}{t e:c5}{i:TypeInfo}{z:b3}{p q:aw}{full:b5}{xs f:ai D}(H:o.op=.call k)(I:k.callee=.builtin .append)(M:k.args.toList=[x,y])(F:k.argTypes.toList=[t,t])
  (K:dp c.P t=a6 (bk,e)) (J:c.P.info? e=a6 i) (B:i.zero=a6 z) (T:z.cells.size=i.size) (S:0<i.size) (E:s.ev x=.row p bj xs) (C:s.ev y=.row q full f)
  (l:0<q/\xs.length=p*i.size/\f.length=q*i.size/\p+q<=2^62/\(p+q)*i.bytes<=2^47):bg c n s a w β X nb o (.new nb (xs++f) (.bG nb (p+q) i.size) aj):=by
 have v:=cL h x;rw[E]at v;have u:=cL h y;rw[C]at u;obtain⟨us,g,G,R,P,O,N,r⟩:=D4 (ty:=o.type) (cJ K) J B T S (v.pure rfl) (u.pure rfl) l.1 l.2;refine⟨rfl,w.drew,us,e,_,k_ H I M F G,(Below.refl _ _).drew,rfl,N,r.lq,λd L b m=>(by rw[ic r d L]at m;cases m),rfl,λU V W j A=>?_⟩;rw[<-j];exact .bG nb _ _ g e R P (by rw[j,<-O];exact A)
def Kc{k:Call}{x y:c6}{t e:c5}{i:TypeInfo}{z:b3}{b off p m q:aw}{full ro:b5}{cs r:ai D}(L:o.op=.call k)(M:k.callee=.builtin .append)(N:k.args.toList=[x,y])(K:k.argTypes.toList=[t,t])
  (he:dp c.P t=a6 (bk,e)) (E:c.P.info? e=a6 i) (hz:i.zero=a6 z) (Kj:z.cells.size=i.size) (h0:0<i.size) (v:s.ev x=.aY b off p m) (hy:s.ev y=.row q full r) (f:s.blk b=a6 cs)
  (hn:dX cs=aj/\0<q/\p=m/\off+p*i.size<=cs.length/\r.length=q*i.size/\p+q<=2^62/\(p+q)*i.bytes<=2^47):
  bg c n s a w β X nb o (if ro then .val (.row (p+q) aj ((cs.drop off).take (p*i.size)++r))else .new nb ((cs.drop off).take (p*i.size)++r) (.bG nb (p+q) i.size) aj):=by
 obtain⟨l,hq,rfl,hn1,Y1,B,A⟩:=hn;have U:=cL h x;rw[v]at U;have T:=cL h y;rw[hy]at T;obtain⟨f1,f2,f3⟩:=Ad U;obtain⟨_,_,us,eb,g3,g4,H⟩:=h.blk b cs f;have Z:∀d∈cs,d.ref=bk:=λd F=>by
  cases g:d.ref with
  |none=>rfl
  |some b'=>rw[yh F g]at l;cases l
 have S:=H.pure Z;have hlen:(((us.toList.take cs.length).drop off).take (p*i.size)).length=p*i.size:=by
  have:=S.1;rw[apr,apu,this];omega
 have I:((cs.drop off).take (p*i.size)).length=p*i.size:=by
  rw[apr,apu];omega
 obtain⟨u,Y,g,R,P,h3,O,G⟩:=Bq (ty:=o.type) (t:=a6 ⟨β b,off,bk⟩) (cJ he) E hz Kj h0 f3 ((S.drop off).take (p*i.size)) (λj hj=>⟨_,rfl,by
  rw[Addr.jM,l0 w _ _ us eb (0,0) g3];have tN:off+j<cs.length:=by rw[hlen]at hj;omega
  have C:off+j<us.size:=za
  simp[C]⟩) (T.pure rfl) hq ⟨I,Y1,B,A⟩
 rw[<-f1]at g;cases ro
 ·simp only[cy,jv]
  refine⟨rfl,w.drew,u,e,_,k_ L M N K g,(Below.refl _ _).drew,rfl,O,G.lq,λd F b f=>(by rw[ic G d F]at f;cases f),rfl,λβ' w' X' J W=>?_⟩
  rw[<-J];exact .bG nb _ _ Y e R P (by rw[J,<-h3];exact W)
 ·simp only[gn]
  have f:Below w.heap.size w (w.drew.alloc (.cells u e)):=((Below.refl _ _).drew).alloc (apc _) _;have V:=G.mono (iV (X:=X) f);refine bg.mk (k_ L M N K g) f (.p (.row _ _ _ _ _ _ V.1 R P (λh=>by cases h) (λi E=>⟨_,rfl,λv=>api (h.oH _ v) zb,?_⟩) V.2)) λb' aD=>by simp[D.ref]at aD
  rw[Addr.jM,aqa];have:=l0 _ w.heap.size i _ e (0,0) (m3 w.drew (.cells u e));refine this.trans ?_;simp at E;have bZ:i<u.size:=by simp at O;omega
  simp[bZ]
def It{k:Call}{x y:c6}{t e:c5}{i:TypeInfo}{z:b3}{b p q:aw}{full:b5}{cs l:ai D}(ho:o.op=.call k)(I:k.callee=.builtin .append)(ha:k.args.toList=[x,y])(ht:k.argTypes.toList=[t,t])
  (he:dp c.P t=a6 (bk,e)) (hi:c.P.info? e=a6 i) (hz:i.zero=a6 z) (Kj:z.cells.size=i.size) (h0:0<i.size) (hx:s.ev x=.bG b p i.size) (hy:s.ev y=.row q full l) (U:s.blk b=a6 cs) (yq:s.bu b=aj) (qj:c.gb<=b)
  (jw:l.all D.bV=bj)
  (hn:0<q/\cs.length=p*i.size/\l.length=q*i.size/\p+q<=2^62/\(p+q)*i.bytes<=2^47):bg c n s a w β X nb o (.grow b (cs++l) (.bG b (p+q) i.size)):=by
 obtain⟨hq,m,Y1,hn3,hn4⟩:=hn;have Kk:=cL h x;rw[hx]at Kk;have S0:=cL h y;rw[hy]at S0;obtain⟨f,e',e1,e2,e3,e4⟩:=AD Kk;obtain⟨a',uG,dx,f1,L,f5,I1⟩:=Iz (S0.pure rfl) Y1 hq h0;obtain⟨g1,g2,us,eb,H,g4,V⟩:=h.blk b cs U;have mr:∀d∈cs,d.ref=bk:=λd g=>by
  cases B:d.ref with
  |none=>rfl
  |some b'=>have:=(h.qS b cs U d g b' B).1;rw[yq]at this;cases this
 have J:=V.pure mr;have A:us.size=f*i.size:=by
  have:=cw H;rw[e4]at this;simp only[zIq,zJq]at this;exact this.2.symm
 have EV:∀u∈dx,u.oneCell'=bj:=by
  intro v hv;obtain⟨j,r,rfl⟩:=apF.1 hv;have h2:j<l.length:=by rw[<-f5.1];exact r
  exact Cf (β:=β) (.p (f5.2 j r h2)) (apH.1 jw _ (apD h2))
 have uT:=h.clear b;have S:(s.clear b).blk b=a6 cs:=by
  show(if s.bu b then(s.blk b).map (m4 (D.clear b))else s.blk b)=a6 cs
  rw[yq];exact U
 have O:∀d∈cs++l,d.ref=bk:=λd g=>by
  obtain g|g:=aps.1 g
  ·exact mr d g
  ·exact ic f5 d g
 by_cases Y:p+q<=f
 ·have M:p*i.size+dx.length<=us.size:=by rw[L,A,<-aqN];exact apB _ Y
  have B:=Es (P:=c.P) w t o.type e eb i (cJ he) hi (β b) p f us H a' q uG dx L I1 EV Y M;have Z:(us.toList.take (p*i.size)++dx++us.toList.drop (p*i.size+dx.length)).toArray.size=us.size:=by
   simp only[ov,j3,o4,m6,mN];omega
  have hlen:(cs++l).length=p*i.size+dx.length:=by rw[ap4,m,<-f5.1]
  have qh:=uT.store b cs (cs++l) aj S us _ eb H Z (by rw[Z,hlen];exact M) (by
   have e5:=yN us.toList dx (p*i.size) (p*i.size+dx.length) (apc _) (by simpa using M)
   have e6:(us.toList.take (p*i.size)++dx++us.toList.drop (p*i.size+dx.length)).toArray.toList.take (cs++l).length=
     (us.toList.take (p*i.size)++dx++us.toList.drop (p*i.size+dx.length)).take (p*i.size+dx.length):=by rw[hlen]
   rw[e6,e5];have e7:(us.toList.take (p*i.size+dx.length)).drop (p*i.size+dx.length)=[]:=zb
   have e8:(us.toList.take (p*i.size+dx.length)).take (p*i.size)=us.toList.take cs.length:=by rw[arl,m];congr 1;omega
   rw[e7,e8,aqs];exact(J.append f5).lq) (λd g b' K=>by rw[O d g]at K;cases K)
  refine⟨_,_,β,X,k_ ho I ha ht (by rw[e1,f1];exact B),qh,.bG b _ _ f eb Y e3 ?_,rfl⟩
  rw[<-A,<-Z];exact cw (setRow_heap w (β b) us _ eb (0,0) H)
 ·have holds:∀j v,(us.toList.take cs.length)[j]? =a6 v->w.cell? ((⟨β b,0,bk⟩:Addr).add j)=a6 v:=by
   intro j v r;rw[Addr.jM,aqa,l0 w _ _ us eb (0,0) H];rw[aq8]at r;split at r
   ·simpa using r
   ·cases r
  have C:(us.toList.take cs.length).length=p*i.size:=by rw[J.1];exact m
  have T:(p+q)*i.bytes<=140737488355328:=by
   have Y5:=xe;omega
  have B:=run_append_grow (P:=c.P) w t o.type e i z (cJ he) hi hz ⟨β b,0,bk⟩ p f _ C holds a' q uG dx L I1 za za (growslice_fits za T)
  have Kt:=grownCap_ge w (p+q) f e;have R:grownCap w (p+q) f e<=lj:=grownCap_le_maxLen _ _ _ _ (by unfold lj;omega)
  generalize hG:grownCap w (p+q) f e=G at*;have E:(cs++l).length=(us.toList.take cs.length++dx).length:=by rw[ap4,ap4,J.1,f5.1]
  have W:((us.toList.take cs.length).toArray++dx.toArray++mn z.cells (G-(p+q))).size=G*i.size:=by
   simp only[Array.size_append,ov,size_zeroCells,Kj,C,L,<-tm];congr 1;omega
  have F:Below w.heap.size w w.drew:=(Below.refl _ _).drew;have N:=(uT.grow F).alZ b qj (λt K=>(yb K).2 rfl) (λk cs' I d g Ax=>by
   obtain⟨nJ,q1,q2,q3⟩:=Ce I;rcases q3 with⟨_,rfl⟩|⟨q4,rfl⟩
   ·obtain⟨d0,_,rfl⟩:=apN.1 g
    exact(L4 Ax).2 rfl
   ·have:=(h.qS k cs' q1 d g b Ax).1
    rw[q4]at this;cases this) e ((us.toList.take cs.length).toArray++dx.toArray++mn z.cells (G-(p+q))) (cs++l) (by
    rw[E];simp) (by
    rw[E];have:((us.toList.take cs.length).toArray++dx.toArray++mn z.cells (G-(p+q))).toList.take (us.toList.take cs.length++dx).length=us.toList.take cs.length++dx:=by
     simp only[Array.toList_append,ra];rw[<-aqV,asG]
    rw[this];exact(J.append f5).mono (iV F))
  refine⟨_,_,_,_,k_ ho I ha ht (by rw[e1,f1];exact B),N,?_,rfl⟩
  have:=aX.bG (β:=λk=>if k=b then w.drew.heap.size else β k) (w:=w.drew.alloc (.cells ((us.toList.take cs.length).toArray++dx.toArray++mn z.cells (G-(p+q))) e)) (X:=λk=>X k\/k=w.drew.heap.size) b (p+q) i.size G e Kt R (by
   simp only[gn];rw[<-W];exact cw (m3 w.drew _))
  simpa using this
end ops
end Lw
