/- Part 0. -/
import Derived.KernelRfl
open Int renaming ofNat→zNq
abbrev alE:=@Nat.le_refl
abbrev apA:=@if_neg
abbrev alD:=@List.getD_eq_getElem?_getD
abbrev apB:=@if_pos
abbrev alJ:=@Nat.le_trans
abbrev alK:=@List.getElem?_eq_getElem
abbrev apC:=@absurd
abbrev alI:=@List.mem_singleton
abbrev alL:=@Option.isSome_iff_exists
abbrev alO:=@List.length_take
abbrev alW:=@List.mem_cons_self
abbrev alR:=@List.length_map
abbrev alP:=@List.length_drop
abbrev alT:=@Nat.eq_zero_or_pos
abbrev alQ:=@Nat.mul_assoc
abbrev alS:=@Nat.mul_comm
abbrev alU:=@Nat.lt_or_ge
abbrev alV:=@Nat.mul_le_mul_right
abbrev apD:=@decide_eq_true
abbrev apE:=@decide_eq_false
abbrev alZ:=@List.mem_iff_getElem
abbrev al2:=@List.getElem_mem
abbrev al3:=@Nat.pow_le_pow_right
abbrev al4:=@List.take_of_length_le
abbrev al5:=@Nat.pow_succ
abbrev al_:=@List.mem_cons_of_mem
abbrev al7:=@Nat.div_div_eq_div_mul
abbrev al8:=@Nat.mod_lt
abbrev alX:=@List.getElem?_eq_none
abbrev al':=@Nat.mul_le_mul
abbrev amc:=@Nat.mul_le_mul_left
abbrev amb:=@Nat.le_of_lt
abbrev amd:=@Nat.zero_le
abbrev ame:=@Nat.mod_eq_of_lt
abbrev amf:=@List.length_set
abbrev ami:=@Nat.lt_of_lt_of_le
abbrev al6:=@Nat.blt_eq
abbrev amk:=@Nat.div_lt_iff_lt_mul
abbrev aml:=@List.getElem?_append_right
abbrev amn:=@Nat.div_eq_of_lt
abbrev amq:=@Option.some.inj
abbrev amr:=@Nat.pow_add
abbrev ama:=@List.mem_map
abbrev ams:=@List.length_eq_one_iff
abbrev amu:=@List.eq_nil_of_length_eq_zero
abbrev amh:=@List.mem_filterMap
abbrev amg:=@List.getElem_map
abbrev amj:=@List.length_append
abbrev al9:=@List.all_eq_true
abbrev amz:=@List.length_replicate
abbrev amx:=@List.flatMap_cons
abbrev amB:=@Array.toList_inj
abbrev amC:=@Nat.div_le_self
abbrev amv:=@Nat.zero_add
abbrev amD:=@Nat.lt_of_le_of_lt
abbrev amE:=@Array.getElem?_eq_some_iff
abbrev amp:=@List.getElem?_append_left
abbrev amG:=@Array.getElem?_eq_getElem
abbrev amy:=@List.mem_append
abbrev amI:=@Array.eq_empty_of_size_eq_zero
abbrev amo:=@Bool.or_eq_true
abbrev amJ:=@List.length_pos_iff
abbrev amK:=@Nat.mul_pos
abbrev amL:=@Nat.succ_mul
abbrev amO:=@Nat.mul_add
abbrev amQ:=@List.map_congr_left
abbrev amV:=@List.findIdx_le_length
abbrev amW:=@Int.natAbs_natCast
abbrev amU:=@Nat.one_mul
abbrev amH:=@Nat.mul_one
abbrev amZ:=@List.getElem?_replicate
abbrev am1:=@List.drop_eq_getElem_cons
abbrev am2:=@Nat.pow_pos
abbrev am3:=@Bool.eq_iff_iff
abbrev am4:=@Nat.div_add_mod
abbrev amR:=@Nat.add_comm
abbrev am9:=@List.foldl_append
abbrev alM:=@List.mem_cons
abbrev am':=@List.take_zero
abbrev amS:=@List.drop_zero
abbrev am6:=@Nat.zero_mul
abbrev amT:=@Nat.add_mul
abbrev amN:=@Nat.div_one
abbrev ana:=@List.getElem?_eq_some_iff
abbrev amM:=@Array.length_toList
abbrev am_:=@List.length_range
abbrev amX:=@List.append_nil
abbrev ani:=@Nat.mul_lt_mul_of_pos_right
abbrev anj:=@List.mem_singleton_self
abbrev ank:=@List.take_length
abbrev ano:=@Nat.lt_trichotomy
abbrev ang:=@List.range_succ
abbrev anq:=@Nat.eq_of_beq_eq_true
abbrev anr:=@Nat.add_mul_div_right
abbrev apF:=@congrArg
abbrev amA:=@List.getElem?_take
abbrev amm:=@List.length_cons
abbrev anv:=@List.mem_of_mem_take
abbrev anw:=@List.mem_append_left
abbrev anz:=@Int.natAbs_mul
abbrev ann:=@List.mem_range
abbrev am7:=@List.append_assoc
abbrev ane:=@List.getElem?_map
abbrev anB:=@List.mem_map_of_mem
abbrev anm:=@Ne.symm
abbrev anl:=@Nat.add_assoc
abbrev anF:=@Nat.sub_le
abbrev anG:=@Int.sign_eq_neg_one_of_neg
abbrev am5:=@List.any_eq_true
abbrev anI:=@List.mem_flatMap
abbrev anJ:=@List.countP_cons
abbrev anK:=@List.take_take
abbrev anL:=@List.mem_append_right
abbrev anM:=@List.getElem_append_right
abbrev anN:=@List.mem_of_find?_eq_some
abbrev anQ:=@List.getElem_append_left
abbrev anf:=@List.nil_append
abbrev anS:=@Nat.le_antisymm
abbrev anT:=@List.getElem_drop
abbrev anU:=@List.getElem_take
abbrev anV:=@Nat.gcd_pos_of_pos_left
abbrev amP:=@List.getD_cons_succ
abbrev anC:=@List.flatMap_append
abbrev anY:=@List.ext_getElem
abbrev anZ:=@Int.natAbs_neg
abbrev anO:=@Nat.mod_one
abbrev an0:=@Int.sign_eq_one_of_pos
abbrev an5:=@Nat.two_pow_add_eq_or_of_lt
abbrev an6:=@Int.natCast_nonneg
abbrev an8:=@List.mem_iff_getElem?
abbrev an':=@List.contains_iff_mem
abbrev amt:=@List.map_cons
abbrev aob:=@List.take_add_one
abbrev anb:=@Nat.ble_eq
abbrev aoc:=@Nat.pow_lt_pow_right
abbrev aod:=@Classical.byContradiction
abbrev aoe:=@Nat.le_max_right
abbrev aof:=@Nat.pow_le_pow_iff_right
abbrev aoh:=@Rat.intCast_eq_zero_iff
abbrev aoi:=@List.map_take
abbrev aoj:=@Rat.sub_eq_add_neg
abbrev aok:=@Rat.mul_inv_cancel
abbrev anR:=@List.mem_filter
abbrev aol:=@Nat.le_max_left
abbrev aom:=@List.find?_eq_none
abbrev aon:=@List.find?_some
abbrev an9:=@Nat.min_eq_left
abbrev aop:=@Rat.num_divInt_den
abbrev an_:=@List.map_append
abbrev aor:=@List.any_eq_false
abbrev anp:=@Nat.mul_left_comm
abbrev anD:=@List.map_map
abbrev aou:=@Nat.le_div_iff_mul_le
abbrev aov:=@Nat.zero_div
abbrev aow:=@Nat.gcd_comm
abbrev aox:=@List.drop_take
abbrev aoy:=@List.take_sublist_take_left
abbrev aoz:=@List.mem_of_getElem?
abbrev aoA:=@Nat.le_add_right
abbrev aoB:=@Rat.mul_assoc
abbrev aoD:=@Bool.and_true
abbrev aoE:=@List.replicate_succ
abbrev aoF:=@List.filterMap_eq_nil_iff
abbrev anh:=@List.getElem?_drop
abbrev aoG:=@List.filterMap_cons_none
abbrev aoH:=@Nat.mul_div_cancel
abbrev aoI:=@List.map_replicate
abbrev aoJ:=@List.countP_append
abbrev aoK:=@Nat.one_le_two_pow
abbrev aoL:=@Nat.gcd_dvd_right
abbrev aoq:=@Int.le_refl
abbrev aoM:=@List.find?_cons_of_pos
abbrev aoN:=@Nat.mod_eq_zero_of_dvd
abbrev aoO:=@Rat.div_def
abbrev aoQ:=@Nat.pow_succ'
abbrev aoS:=@List.drop_length
abbrev aoT:=@Nat.gcd_dvd_left
abbrev aoV:=@Array.getElem?_toList
abbrev aoW:=@List.countP_mono_left
abbrev aoX:=@Nat.mul_mod_mul_right
abbrev aoZ:=@Nat.le_of_ble_eq_true
abbrev ao0:=@Nat.mul_succ
abbrev ao2:=@List.mem_of_mem_drop
abbrev ans:=@Nat.add_zero
abbrev ao3:=@Nat.div_le_div_right
abbrev ao6:=@Nat.mul_add_div
abbrev ao7:=@List.length_dropLast
abbrev ao8:=@Rat.num_eq_zero
abbrev ao9:=@List.headD_cons
abbrev ao_:=@Rat.zero_mul
abbrev ao':=@List.count_cons
abbrev apa:=@List.count_le_length
abbrev apb:=@Int.ofNat_le
abbrev apc:=@List.take_append_of_le_length
abbrev apd:=@List.filterMap_cons
abbrev ape:=@Nat.div_eq_of_lt_le
abbrev apf:=@List.take_left
abbrev aoo:=@Nat.add_sub_cancel
abbrev apj:=@Rat.lt_irrefl
abbrev aoP:=@Bool.true_and
abbrev apn:=@List.ext_getElem?
abbrev apo:=@List.flatten_cons
abbrev apq:=@Nat.gcd_zero_left
abbrev apr:=@Rat.divInt_eq_div
abbrev aot:=@List.getElem?_set
abbrev anH:=@List.isEmpty_iff
abbrev ant:=@Nat.pow_zero
abbrev apu:=@Nat.max_eq_right
abbrev apv:=@Rat.divInt_ofNat
abbrev aoU:=@List.flatMap_nil
abbrev apw:=@Rat.inv_zero
abbrev apx:=@Rat.mul_zero
abbrev apy:=@Nat.lt_trans
abbrev apz:=@List.prefix_refl
namespace Lw
namespace fL
class zY(K:Type) extends Add K,Mul K,Neg K,Sub K,Zero K,One K where
 eU:∀a b c:K,a+b+c=a+(b+c)
 jY:∀a b:K,a+b=b+a
 add_zero':∀a:K,a+0=a
 qt:∀a:K,-a+a=0
 nD:∀a b c:K,a*b*c=a*(b*c)
 jf:∀a b:K,a*b=b*a
 oS:∀a:K,a*1=a
 vg:∀a b c:K,a*(b+c)=a*b+a*c
 sub_def':∀a b:K,a-b=a+ -b
namespace zY
variable {K:Type} [zY K]
theorem g8(a:K):0+a=a:=by rw[jY,add_zero']
theorem mc(a:K):a+ -a=0:=by rw[jY,qt]
theorem Bm(a:K):1*a=a:=by rw[jf,oS]
theorem yZ(a b c:K):(a+b)*c=a*c+b*c:=by rw[jf,vg,jf c a,jf c b]
theorem Px(a b c:K):a+(b+c)=b+(a+c):=by rw[←eU,jY a b,eU]
theorem mul_left(a b c:K):a*(b*c)=b*(a*c):=by rw[←nD,jf a b,nD]
theorem cancel{a b c:K}(h:a+b=a+c):b=c:=by
 have:=apF (fun x=> -a+x) h
 simp only[←eU,qt,g8]at this;exact this
theorem cO(a:K):a*0=0:=by
 have:a*0+a*0=a*0+0:=by rw[←vg,add_zero',add_zero']
 exact cancel this
theorem i_(a:K):0*a=0:=by rw[jf,cO]
theorem sP{a b:K}(h:a+b=0):b= -a:=by
 have:a+b=a+ -a:=by rw[h,mc]
 exact cancel this
theorem xH(a b:K): -a*b= -(a*b):=sP (by rw[←yZ,mc,i_])
theorem Gj(a:K): - -a=a:=(sP (qt a)).symm
theorem vQ(a b:K): -(a+b)= -a+ -b:=(sP (by rw[eU,Px b,←eU,mc,g8,mc])).symm
theorem rY: -(0:K)=0:=(sP (add_zero' 0)).symm
theorem fx{a b:K}:a-b=0↔a=b:=by
 rw[sub_def'];constructor
 ·intro h
  have:=apF (fun x=>x+b) h
  simp only[eU,qt,add_zero',g8]at this;exact this
 ·rintro rfl;exact mc a
def xF:Nat→K
 |0=>0
 |n+1=>xF n+1
def H5:Int→K
 |.ofNat n=>xF n
 |.negSucc n=> -(xF (n+1))
theorem Bq(m n:Nat):(xF (m+n):K)=xF m+xF n:=by
 induction n with
 |zero=>simp only[Nat.add_zero,xF,add_zero']
 |succ n a=>rw[Nat.add_succ];simp only[xF,a,eU]
theorem SY(m n:Nat):(xF (m*n):K)=xF m*xF n:=by
 induction n with
 |zero=>simp only[Nat.mul_zero,xF,cO]
 |succ n a=>rw[ao0,Bq,a];simp only[xF,vg,oS]
theorem SZ(m n:Nat):(H5 (Int.subNatNat m n):K)=xF m+ -(xF n):=by
 rcases alU m n with h|h
 ·obtain⟨k,rfl⟩:∃k,n=m+(k+1):=⟨n-m-1,by omega⟩
  have e:Int.subNatNat m (m+(k+1))=.negSucc k:=by
   rw[Int.subNatNat_eq_coe];omega
  rw[e,Bq,vQ,←eU,mc,g8];rfl
 ·obtain⟨k,rfl⟩:∃k,m=n+k:=⟨m-n,by omega⟩
  have e:Int.subNatNat (n+k) n=.ofNat k:=by
   rw[Int.subNatNat_eq_coe];simp only[Int.ofNat_eq_natCast];omega
  rw[e,Bq,jY (xF n),eU,mc,add_zero'];rfl
theorem KM(a:Int):(H5 (-a):K)= -(H5 a):=by
 cases a with
 |ofNat n=>cases n with
  |zero=>show(xF 0:K)= -(xF 0);simp only[xF,rY]
  |succ n=>rfl
 |negSucc n=>show(xF (n+1):K)= -(-(xF (n+1)));rw[Gj]
theorem S1(a b:Int):(H5 (a+b):K)=H5 a+H5 b:=by
 cases a with
 |ofNat m=>cases b with
  |ofNat n=>exact Bq m n
  |negSucc n=>exact SZ m (n+1)
 |negSucc m=>cases b with
  |ofNat n=>
   show(H5 (Int.subNatNat n (m+1)):K)=_;rw[SZ,jY];rfl
  |negSucc n=>
   show -(xF (m+n+1+1):K)= -(xF (m+1))+ -(xF (n+1));rw[←vQ,←Bq];congr 2;omega
theorem adv(a b:Int):(H5 (a*b):K)=H5 a*H5 b:=by
 have pos:∀(m:Nat)(b:Int),(H5 (zNq m*b):K)=xF m*H5 b:=by
  intro m b;cases b with
  |ofNat n=>exact SY m n
  |negSucc n=>
   have:zNq m*Int.negSucc n= -(zNq (m*(n+1))):=by simp[Int.negSucc_eq,Int.mul_neg]
   rw[this,KM];show -(xF (m*(n+1)):K)=xF m* -(xF (n+1));rw[SY,jf (xF m) (-(xF (n+1))),xH,jf]
 cases a with
 |ofNat m=>exact pos m b
 |negSucc m=>
  have:Int.negSucc m*b= -(zNq (m+1)*b):=by simp[Int.negSucc_eq,Int.neg_mul]
  rw[this,KM,pos];show -(xF (m+1)*H5 b:K)= -(xF (m+1))*H5 b;rw[xH]
inductive Ex where
 |v (n:Nat)
 |z
 |o
 |add (a b:Ex)
 |mul (a b:Ex)
 |neg (a:Ex)
 |sub (a b:Ex)
def Ex.ev(ρ:List K):Ex→K
 |.v n=>ρ.getD n 0
 |.z=>0
 |.o=>1
 |.add a b=>a.ev ρ+b.ev ρ
 |.mul a b=>a.ev ρ*b.ev ρ
 |.neg a=> -(a.ev ρ)
 |.sub a b=>a.ev ρ-b.ev ρ
abbrev Poly:=List (Int×List Nat)
def RA(ρ:List K):List Nat→K
 |[]=>1
 |n::l=>ρ.getD n 0*RA ρ l
def Db(ρ:List K):Poly→K
 |[]=>0
 |(c,m)::p=>H5 c*RA ρ m+Db ρ p
def adO(n:Nat):List Nat→List Nat
 |[]=>[n]
 |k::l=>if Nat.ble n k then n::k::l else k::adO n l
def mulM:List Nat→List Nat→List Nat
 |[],b=>b
 |n::a,b=>adO n (mulM a b)
def eqM:List Nat→List Nat→Bool
 |[],[]=>true
 |a::l,b::m=>Nat.beq a b&&eqM l m
 |_,_=>false
def ltM:List Nat→List Nat→Bool
 |[],[]=>false
 |[],_::_=>true
 |_::_,[]=>false
 |a::l,b::m=>if Nat.beq a b then ltM l m else Nat.blt a b
def isZ:Int→Bool
 |.ofNat n=>Nat.beq n 0
 |.negSucc _=>false
def Z8(c:Int)(m:List Nat):Poly→Poly
 |[]=>[(c,m)]
 |(a,m')::p=>if eqM m m' then(if isZ (c+a)then p else(c+a,m')::p)else if ltM m m' then(c,m)::(a,m')::p else(a,m')::Z8 c m p
def zz:Poly→Poly→Poly
 |[],q=>q
 |(c,m)::p,q=>Z8 c m (zz p q)
def Zx(c:Int)(m:List Nat):Poly→Poly
 |[]=>[]
 |(a,m')::p=>Z8 (c*a) (mulM m m') (Zx c m p)
def Zy:Poly→Poly→Poly
 |[],_=>[]
 |(c,m)::p,q=>zz (Zx c m q) (Zy p q)
def U1:Poly→Poly
 |[]=>[]
 |(c,m)::p=>(-c,m)::U1 p
def Ex.norm:Ex→Poly
 |.v n=>[(1,[n])]
 |.z=>[]
 |.o=>[(1,[])]
 |.add a b=>zz a.norm b.norm
 |.mul a b=>Zy a.norm b.norm
 |.neg a=>U1 a.norm
 |.sub a b=>zz a.norm (U1 b.norm)
theorem S0:(H5 1:K)=1:=by show(xF 0+1:K)=1;exact g8 1
theorem ag9{c:Int}(h:isZ c=true):c=0:=by
 cases c with
 |ofNat n=>simp only[isZ]at h;rw[anq h];rfl
 |negSucc n=>cases h
theorem aaX:∀{a b:List Nat},eqM a b=true→a=b
 |[],[],_=>rfl
 |a::l,b::m,h=>by
  simp only[eqM,Bool.and_eq_true]at h;rw[anq h.1,aaX h.2]
 |[],_::_,h=>by cases h
 |_::_,[],h=>by cases h
theorem Tx(ρ:List K)(n:Nat):∀l,RA ρ (adO n l)=ρ.getD n 0*RA ρ l
 |[]=>rfl
 |k::l=>by
  simp only[adO];split
  ·rfl
  ·simp only[RA,Tx ρ n l];exact mul_left _ _ _
theorem Tv(ρ:List K):∀a b,RA ρ (mulM a b)=RA ρ a*RA ρ b
 |[],b=>by simp only[mulM,RA,Bm]
 |n::a,b=>by simp only[mulM,RA,Tx,Tv ρ a b,nD]
theorem Ld(ρ:List K)(c:Int)(m:List Nat):∀p,Db ρ (Z8 c m p)=H5 c*RA ρ m+Db ρ p
 |[]=>rfl
 |(d,m')::p=>by
  simp only[Z8];split
  ·rename_i b
   have:=aaX b;subst this;split
   ·rename_i a
    simp only[Db,←eU,←yZ,←S1,ag9 a];show _=(xF 0:K)*_+_;simp only[xF,i_,g8]
   ·simp only[Db,S1,yZ,eU]
  ·split
   ·rfl
   ·simp only[Db,Ld ρ c m p];exact Px _ _ _
theorem E6(ρ:List K):∀p q,Db ρ (zz p q)=Db ρ p+Db ρ q
 |[],q=>by simp only[zz,Db,g8]
 |(c,m)::p,q=>by simp only[zz,Db,Ld,E6 ρ p q,eU]
theorem Tt(ρ:List K)(c:Int)(m:List Nat):∀p,Db ρ (Zx c m p)=H5 c*RA ρ m*Db ρ p
 |[]=>by simp only[Zx,Db,cO]
 |(a,m')::p=>by
  simp only[Zx,Db,Ld,Tt ρ c m p,Tv,adv,vg];congr 1;simp only[nD];rw[mul_left (H5 a) (RA ρ m)]
theorem Tu(ρ:List K):∀p q,Db ρ (Zy p q)=Db ρ p*Db ρ q
 |[],q=>by simp only[Zy,Db,i_]
 |(c,m)::p,q=>by simp only[Zy,Db,E6,Tt,Tu ρ p q,yZ]
theorem Lc(ρ:List K):∀p,Db ρ (U1 p)= -(Db ρ p)
 |[]=>by simp only[U1,Db,rY]
 |(c,m)::p=>by simp only[U1,Db,Lc ρ p,KM,xH,vQ]
theorem tY(ρ:List K):∀e:Ex,Db ρ e.norm=e.ev ρ
 |.v n=>by simp only[Ex.norm,Db,RA,Ex.ev,S0,Bm,oS,add_zero']
 |.z=>rfl
 |.o=>by simp only[Ex.norm,Db,RA,Ex.ev,S0,Bm,add_zero']
 |.add a b=>by simp only[Ex.norm,E6,tY ρ a,tY ρ b,Ex.ev]
 |.mul a b=>by simp only[Ex.norm,Tu,tY ρ a,tY ρ b,Ex.ev]
 |.neg a=>by simp only[Ex.norm,Lc,tY ρ a,Ex.ev]
 |.sub a b=>by simp only[Ex.norm,E6,Lc,tY ρ a,tY ρ b,Ex.ev,sub_def']
class At(ρ:List K)(a:K)(n:outParam Nat):Prop where
 h:ρ.getD n 0=a
instance(a:K)(l:List K):At (a::l) a 0:=⟨rfl⟩
instance(priority:=low)(a b:K)(l:List K)(n:Nat)[i:At l a n]:At (b::l) a (n+1):=⟨by rw[amP];exact i.h⟩
class Qt(ρ:List K)(a:K)(e:outParam Ex):Prop where
 h:e.ev ρ=a
instance(ρ:List K):Qt ρ (0:K) .z:=⟨rfl⟩
instance(ρ:List K):Qt ρ (1:K) .o:=⟨rfl⟩
instance(ρ:List K)(a b:K)(e f:Ex)[i:Qt ρ a e][j:Qt ρ b f]:Qt ρ (a+b) (.add e f):=⟨by simp only[Ex.ev,i.h,j.h]⟩
instance(ρ:List K)(a b:K)(e f:Ex)[i:Qt ρ a e][j:Qt ρ b f]:Qt ρ (a*b) (.mul e f):=⟨by simp only[Ex.ev,i.h,j.h]⟩
instance(ρ:List K)(a b:K)(e f:Ex)[i:Qt ρ a e][j:Qt ρ b f]:Qt ρ (a-b) (.sub e f):=⟨by simp only[Ex.ev,i.h,j.h]⟩
instance(ρ:List K)(a:K)(e:Ex)[i:Qt ρ a e]:Qt ρ (-a) (.neg e):=⟨by simp only[Ex.ev,i.h]⟩
instance(priority:=low)(ρ:List K)(a:K)(n:Nat)[i:At ρ a n]:Qt ρ a (.v n):=⟨i.h⟩
theorem rg(ρ:List K){a b:K}{e f:Ex}[i:Qt ρ a e][j:Qt ρ b f](h:(Ex.sub e f).norm=[]:=by kernel_rfl):a=b:=by
 have c:=tY ρ (Ex.sub e f);rw[h]at c;simp only[Ex.ev,i.h,j.h]at c;exact fx.1 c.symm
theorem rg1(ρ:List K){a b p q:K}(c:K){e f:Ex}(d:p=q)[i:Qt ρ a e][j:Qt ρ (b+c*(p-q)) f](h:(Ex.sub e f).norm=[]:=by kernel_rfl):a=b:=by
 have:=rg ρ (a:=a) (b:=b+c*(p-q)) h;rw[this,fx.2 d,cO,add_zero']
theorem rg2(ρ:List K){a b p q g d:K}(c k:K){e f:Ex}(l:p=q)(m:g=d)[i:Qt ρ a e][j:Qt ρ (b+c*(p-q)+k*(g-d)) f](h:(Ex.sub e f).norm=[]:=by kernel_rfl):a=b:=by
 have:=rg ρ (a:=a) (b:=b+c*(p-q)+k*(g-d)) h;rw[this,fx.2 l,fx.2 m,cO,cO,add_zero',add_zero']
end zY
end fL
end Lw
namespace Lw
namespace fL
open zY
class fw(K:Type) extends zY K where
 pos:K→Prop
 fY:∀{a b:K},pos a→pos b→pos (a+b)
 dV:∀{a b:K},pos a→pos b→pos (a*b)
 Ek:∀a:K,pos a∨a=0∨pos (-a)
 kD:¬pos (0:K)
 jM:pos (1:K)
 inv:∀a:K,a≠0→∃b,a*b=1
namespace fw
variable {K:Type} [fw K]
theorem qp{a:K}(h:pos a)(b:pos (-a)):False:=by
 have:=fY h b;rw[mc]at this;exact kD this
theorem uq{a:K}(h:pos a):a≠0:=fun e=>kD (e▸h)
def nn(a:K):Prop:=pos a∨a=0
theorem ady:nn (0:K):=.inr rfl
theorem QP{a b:K}(h:nn a)(c:nn b):nn (a+b):=by
 rcases h with h|rfl
 ·rcases c with c|rfl
  ·exact .inl (fY h c)
  ·rw[add_zero'];exact .inl h
 ·rw[g8];exact c
theorem Ae{a b:K}(h:pos a)(c:nn b):pos (a+b):=by
 rcases c with c|rfl
 ·exact fY h c
 ·rw[add_zero'];exact h
theorem CU{a b:K}(h:nn a)(c:nn b):nn (a*b):=by
 rcases h with h|rfl
 ·rcases c with c|rfl
  ·exact .inl (dV h c)
  ·exact .inr (cO a)
 ·exact .inr (i_ b)
theorem tS{a b:K}(h:pos (-a))(c:pos (-b)):pos (a*b):=by
 have:=dV h c
 rwa [show -a* -b=a*b from rg [a,b]]at this
theorem tR{a b:K}(h:pos (-a))(c:pos b):pos (-(a*b)):=by
 have:=dV h c
 rwa [xH]at this
theorem DS{a b:K}(h:pos a)(c:pos (-b)):pos (-(a*b)):=by
 rw[jf];exact tR c h
theorem qX(a:K):nn (a*a):=by
 rcases Ek a with h|rfl|h
 ·exact .inl (dV h h)
 ·exact .inr (cO 0)
 ·exact .inl (tS h h)
theorem sq_pos{a:K}(h:a≠0):pos (a*a):=by
 rcases Ek a with b|rfl|b
 ·exact dV b b
 ·exact apC rfl h
 ·exact tS b b
theorem agA{a:K}(h:nn a)(b:pos (-a)):False:=by
 rcases h with h|rfl
 ·exact qp h b
 ·rw[rY]at b;exact kD b
theorem S4{a:K}(h:nn a)(b:nn (-a)):a=0:=by
 rcases h with h|h
 ·rcases b with b|b
  ·exact apC b (fun g=>qp h g)
  ·have:=Gj a;rw[b,rY]at this;exact this.symm
 ·exact h
theorem mul_eq_zero{a b:K}(h:a*b=0):a=0∨b=0:=by
 by_cases d:a=0
 ·exact .inl d
 ·obtain⟨c,g⟩:=inv a d
  right
  have e:b=c*(a*b):=rg1 [a,b,c] (-b) g;rw[e,h,cO]
theorem KQ{a b:K}(h:a≠0)(c:b≠0):a*b≠0:=fun e=>(mul_eq_zero e).elim h c
theorem sE{a:K}(h:a*a=0):a=0:=(mul_eq_zero h).elim id id
theorem of_eq{a b:K}(h:pos a)(e:b=a):pos b:=e▸h
theorem aiY{a b:K}(h:nn a)(e:b=a):nn b:=e▸h
theorem E7{p q:K}(h:pos (p*p-q*q))(a:pos p):pos (p+q):=by
 rcases Ek (p+q)with g|g|g
 ·exact g
 ·exfalso
  have e:p*p-q*q=(p+q)*(p-q):=rg [p,q];rw[e,g,i_]at h;exact kD h
 ·exfalso
  have c:pos (p-q):=of_eq (fY (fY a a) g) (rg [p,q]);have b:=tR g c;exact qp h (of_eq b (rg [p,q]))
open Classical in
noncomputable def sg(a:K):Int:=if pos a then 1 else if a=0 then 0 else -1
theorem sG{a:K}(h:pos a):sg a=1:=apB h
theorem iE:sg (0:K)=0:=by unfold sg;rw[apA kD,apB rfl]
theorem xl{a:K}(h:pos (-a)):sg a= -1:=by
 unfold sg;rw[apA (fun g=>qp g h),apA (fun e=>by rw[e,rY]at h;exact kD h)]
theorem qf(a:K):(pos a∧sg a=1)∨(a=0∧sg a=0)∨(pos (-a)∧sg a= -1):=by
 rcases Ek a with h|h|h
 ·exact .inl ⟨h,sG h⟩
 ·exact .inr (.inl ⟨h,by rw[h];exact iE⟩)
 ·exact .inr (.inr ⟨h,xl h⟩)
theorem Ki(a b:K):sg (a*b)=sg a*sg b:=by
 rcases qf a with⟨h,e⟩|⟨h,e⟩|⟨h,e⟩
 ·rcases qf b with⟨c,d⟩|⟨c,d⟩|⟨c,d⟩
  ·rw[e,d,sG (dV h c)];rfl
  ·rw[d,c,cO,iE];simp
  ·rw[e,d,xl (DS h c)];rfl
 ·rw[e,h,i_,iE];simp
 ·rcases qf b with⟨c,d⟩|⟨c,d⟩|⟨c,d⟩
  ·rw[e,d,xl (tR h c)];rfl
  ·rw[d,c,cO,iE];simp
  ·rw[e,d,sG (tS h c)];rfl
theorem ny{a:K}:sg a=0↔a=0:=by
 rcases qf a with⟨h,e⟩|⟨h,e⟩|⟨h,e⟩
 ·exact⟨fun g=>(by rw[e]at g;cases g),fun g=>apC g (uq h)⟩
 ·exact⟨fun _=>h,fun _=>e⟩
 ·exact⟨fun g=>(by rw[e]at g;cases g),fun g=>by rw[g,rY]at h;exact apC h kD⟩
theorem aeX{a:K}:0≤sg a↔nn a:=by
 rcases qf a with⟨h,e⟩|⟨h,e⟩|⟨h,e⟩
 ·exact⟨fun _=>.inl h,fun _=>by rw[e];decide⟩
 ·exact⟨fun _=>.inr h,fun _=>by rw[e];decide⟩
 ·exact⟨fun g=>(by rw[e]at g;exact apC g (by decide)),fun g=>apC h (fun h=>agA g h)⟩
end fw
open fw
structure Pr(K:Type)(D:K)where
 x:K
 y:K
namespace Pr
variable {K:Type} [fw K] {D:K}
omit [fw K]in
theorem ext'{a b:Pr K D}(h:a.x=b.x)(h':a.y=b.y):a=b:=by
 cases a;cases b;simp_all
instance:zY (Pr K D)where
 add a b:=⟨a.x+b.x,a.y+b.y⟩
 mul a b:=⟨a.x*b.x+a.y*b.y*D,a.x*b.y+a.y*b.x⟩
 neg a:=⟨-a.x,-a.y⟩
 sub a b:=⟨a.x-b.x,a.y-b.y⟩
 zero:=⟨0,0⟩
 one:=⟨1,0⟩
 eU a b c:=ext' (eU _ _ _) (eU _ _ _)
 jY a b:=ext' (jY _ _) (jY _ _)
 add_zero' a:=ext' (add_zero' _) (add_zero' _)
 qt a:=ext' (qt _) (qt _)
 nD a b c:=ext'
  (show(a.x*b.x+a.y*b.y*D)*c.x+(a.x*b.y+a.y*b.x)*c.y*D=a.x*(b.x*c.x+b.y*c.y*D)+a.y*(b.x*c.y+b.y*c.x)*D from rg [a.x,a.y,b.x,b.y,c.x,c.y,D])
  (show(a.x*b.x+a.y*b.y*D)*c.y+(a.x*b.y+a.y*b.x)*c.x=a.x*(b.x*c.y+b.y*c.x)+a.y*(b.x*c.x+b.y*c.y*D)from rg [a.x,a.y,b.x,b.y,c.x,c.y,D])
 jf a b:=ext' (show a.x*b.x+a.y*b.y*D=b.x*a.x+b.y*a.y*D from rg [a.x,a.y,b.x,b.y,D]) (show a.x*b.y+a.y*b.x=b.x*a.y+b.y*a.x from rg [a.x,a.y,b.x,b.y])
 oS a:=ext' (show a.x*1+a.y*0*D=a.x from rg [a.x,a.y,D]) (show a.x*0+a.y*1=a.y from rg [a.x,a.y])
 vg a b c:=ext' (show a.x*(b.x+c.x)+a.y*(b.y+c.y)*D=(a.x*b.x+a.y*b.y*D)+(a.x*c.x+a.y*c.y*D)from rg [a.x,a.y,b.x,b.y,c.x,c.y,D])
  (show a.x*(b.y+c.y)+a.y*(b.x+c.x)=(a.x*b.y+a.y*b.x)+(a.x*c.y+a.y*c.x)from rg [a.x,a.y,b.x,b.y,c.x,c.y])
 sub_def' a b:=ext' (sub_def' _ _) (sub_def' _ _)
def N(a:Pr K D):K:=a.x*a.x-a.y*a.y*D
theorem aj7(a b:Pr K D):(a*b).N=a.N*b.N:=by
 show(a.x*b.x+a.y*b.y*D)*(a.x*b.x+a.y*b.y*D)-(a.x*b.y+a.y*b.x)*(a.x*b.y+a.y*b.x)*D=(a.x*a.x-a.y*a.y*D)*(b.x*b.x-b.y*b.y*D);exact rg [a.x,a.y,b.x,b.y,D]
def Odd(D:K):Prop:=nn D∧∀z:K,z*z≠D
theorem Odd.pos(h:Odd D):fw.pos D:=by
 rcases h.1 with g|g
 ·exact g
 ·exact apC (by rw[g,cO]) (h.2 0)
theorem ah9(h:Odd D){a:Pr K D}(j:a.x≠0∨a.y≠0):a.N≠0:=by
 intro e;have d:a.x*a.x-a.y*a.y*D=0:=e;by_cases b:a.y=0
 ·rw[b]at d
  have:a.x*a.x=0:=by rw[←d];exact rg [a.x,D]
  rcases j with g|g
  ·exact g (sE this)
  ·exact g b
 ·obtain⟨c,i⟩:=inv a.y b
  refine h.2 (a.x*c) ?_;have l:a.x*a.x=a.y*a.y*D:=fx.1 d;have k:a.x*c*(a.x*c)=(a.y*c)*(a.y*c)*D:=rg1 [a.x,a.y,c,D] (c*c) l;rw[k,i];exact rg [D]
theorem ab0(h:Odd D){a:Pr K D}(e:a.N=0):a=0:=by
 by_cases c:a.x=0
 ·by_cases b:a.y=0
  ·exact ext' c b
  ·exact apC e (ah9 h (.inr b))
 ·exact apC e (ah9 h (.inl c))
def Up(a:Pr K D):Prop:=(fw.pos a.N∧fw.pos a.x)∨(fw.pos (-a.N)∧fw.pos a.y)
theorem PR:Up (1:Pr K D):=.inl ⟨by
 show fw.pos ((1:K)*1-0*0*D);exact of_eq jM (rg [D]),jM⟩
theorem up_mul(h:Odd D){a b:Pr K D}(n:Up a)(m:Up b):Up (a*b):=by
 have l:=h.pos;unfold Up at*;rw[aj7];show(fw.pos (a.N*b.N)∧fw.pos (a.x*b.x+a.y*b.y*D))∨(fw.pos (-(a.N*b.N))∧fw.pos (a.x*b.y+a.y*b.x));have k:a.N=a.x*a.x-a.y*a.y*D:=rfl;have eb:b.N=b.x*b.x-b.y*b.y*D:=rfl;generalize a.N=A at*;generalize b.N=B at*;rcases n with⟨g,e⟩|⟨g,e⟩<;>rcases m with⟨d,c⟩|⟨d,c⟩
 ·refine .inl ⟨dV g d,E7 ?_ (dV e c)⟩
  have j:=dV (dV e e) d;have i:=CU (CU (qX b.y) (.inl l)) (.inl g);refine of_eq (Ae j i) ?_;rw[k,eb];exact rg [a.x,a.y,b.x,b.y,D]
 ·refine .inr ⟨DS g d,E7 ?_ (dV e c)⟩
  have j:=dV g (dV c c);have i:=CU (.inl d) (qX a.y);refine of_eq (Ae j i) ?_;rw[k,eb];exact rg [a.x,a.y,b.x,b.y,D]
 ·refine .inr ⟨tR g d,?_⟩
  rw[jY];refine E7 ?_ (dV e c);have j:=dV d (dV e e);have i:=CU (.inl g) (qX b.y);refine of_eq (Ae j i) ?_;rw[k,eb];exact rg [a.x,a.y,b.x,b.y,D]
 ·refine .inl ⟨tS g d,?_⟩
  rw[jY];refine E7 ?_ (dV (dV e c) l);have j:=dV g (dV (dV c c) l);have i:=CU (.inl d) (qX a.x);refine of_eq (Ae j i) ?_;rw[k,eb];exact rg [a.x,a.y,b.x,b.y,D]
theorem ach(h:Odd D){a:Pr K D}(j:Up a):Up (a+1):=by
 have n:a.N=a.x*a.x-a.y*a.y*D:=rfl;have e:(a+1).N=a.N+(a.x+(a.x+1)):=by
  rw[n];show(a.x+1)*(a.x+1)-(a.y+0)*(a.y+0)*D=_;exact rg [a.x,a.y,D]
 have m:(a+1).x=a.x+1:=rfl;have l:(a+1).y=a.y:=add_zero' _;have k:(a+1).N≠0:=by
  refine ah9 h ?_;rw[m,l];rcases j with⟨_,g⟩|⟨_,g⟩
  ·exact .inl (uq (fY g jM))
  ·exact .inr (uq g)
 unfold Up at*;rw[e]at k⊢;rw[m,l];generalize a.N=A at*;rcases j with⟨d,c⟩|⟨d,c⟩
 ·exact .inl ⟨fY d (fY c (fY c jM)),fY c jM⟩
 ·rcases Ek (A+(a.x+(a.x+1)))with g|g|g
  ·refine .inl ⟨g,?_⟩
   rcases Ek (a.x+1)with b|b|b
   ·exact b
   ·
    exfalso;have:pos (1:K):=jM;have i:A+(a.x+(a.x+1))+(-A)+1=0:=by
     have:A+(a.x+(a.x+1))+(-A)+1=(a.x+1)+(a.x+1):=rg [A,a.x];rw[this,b,add_zero']
    exact uq (fY (fY g d) jM) i
   ·exfalso
    have i:A+(a.x+(a.x+1))+(-A)+(-(a.x+1))+(-(a.x+1))+1=0:=rg [A,a.x];exact uq (fY (fY (fY (fY g d) b) b) jM) i
  ·exact apC g k
  ·exact .inr ⟨g,c⟩
theorem ae8(a:Pr K D):(-a).N=a.N:=by
 show -a.x* -a.x- -a.y* -a.y*D=a.x*a.x-a.y*a.y*D;exact rg [a.x,a.y,D]
theorem aeP(h:Odd D)(a:Pr K D):Up a∨a=0∨Up (-a):=by
 by_cases i:a=0
 ·exact .inr (.inl i)
 ·have k:a.N≠0:=fun e=>i (ab0 h e)
  have j:a.N=a.x*a.x-a.y*a.y*D:=rfl;have l:=h.pos;unfold Up;rw[ae8];show _∨_∨(fw.pos a.N∧fw.pos (-a.x))∨(fw.pos (-a.N)∧fw.pos (-a.y));rcases Ek a.N with g|g|g
  ·rcases Ek a.x with b|b|b
   ·exact .inl (.inl ⟨g,b⟩)
   ·exfalso
    have c:=CU (qX a.y) (.inl l);have d:a.x*a.x-a.y*a.y*D+a.y*a.y*D=0:=by
     rw[b];exact rg [a.y,D]
    rw[j]at g;exact uq (Ae g c) d
   ·exact .inr (.inr (.inl ⟨g,b⟩))
  ·exact apC g k
  ·rcases Ek a.y with b|b|b
   ·exact .inl (.inr ⟨g,b⟩)
   ·exfalso
    have c:=qX a.x;have d: -(a.x*a.x-a.y*a.y*D)+a.x*a.x=0:=by
     rw[b];exact rg [a.x,D]
    rw[j]at g;exact uq (Ae g c) d
   ·exact .inr (.inr (.inr ⟨g,b⟩))
theorem xG:¬Up (0:Pr K D):=by
 rintro(⟨_,h⟩|⟨_,h⟩)
 ·exact kD (show fw.pos (0:K)from h)
 ·exact kD (show fw.pos (0:K)from h)
theorem afO{a:Pr K D}(h:Up a)(g:Up (-a)):False:=by
 unfold Up at h g;rw[ae8]at g;rcases h with⟨e,d⟩|⟨e,d⟩<;>rcases g with⟨c,b⟩|⟨c,b⟩
 ·exact qp d b
 ·exact qp e c
 ·exact qp c e
 ·exact qp d b
theorem Tl(h:Odd D)(a:Pr K D)(j:a≠0):∃b:Pr K D,a*b=1:=by
 have g:a.N≠0:=fun e=>j (ab0 h e)
 obtain⟨c,i⟩:=inv a.N g;have d:(a.x*a.x-a.y*a.y*D)*c=1:=i;refine⟨⟨a.x*c,-a.y*c⟩,ext' ?_ ?_⟩
 ·show a.x*(a.x*c)+a.y*(-a.y*c)*D=1
  rw[←d];exact rg [a.x,a.y,c,D]
 ·show a.x*(-a.y*c)+a.y*(a.x*c)=0
  exact rg [a.x,a.y,c]
theorem up_add(h:Odd D){a b:Pr K D}(m:Up a)(i:Up b):Up (a+b):=by
 have k:b≠0:=fun e=>xG (e▸i)
 obtain⟨c,d⟩:=Tl h b k;have l:Up c:=by
  rcases aeP h c with g|g|g
  ·exact g
  ·exfalso
   rw[g,cO]at d;exact xG (D:=D) (d▸PR)
  ·exfalso
   have:=up_mul h i g;have e:b* -c= -(1:Pr K D):=by rw[←d];exact rg [b,c]
   rw[e]at this;exact afO PR this
 have j:=up_mul h (ach h (up_mul h m l)) i;have e:(a*c+1)*b=a+b:=rg1 [a,b,c] a d;rw[e]at j;exact j
@[reducible] def fld(h:Odd D):fw (Pr K D)where
 pos:=Up
 fY:=up_add h
 dV:=up_mul h
 Ek:=aeP h
 kD:=xG
 jM:=PR
 inv:=Tl h
end Pr
instance:fw Rat where
 eU:=Rat.add_assoc
 jY:=Rat.add_comm
 add_zero':=Rat.add_zero
 qt a:=by grind
 nD:=aoB
 jf:=Rat.mul_comm
 oS:=Rat.mul_one
 vg:=Rat.mul_add
 sub_def':=aoj
 pos a:=0<a
 fY:=by intro a b h c;grind
 dV:=by intro a b h c;exact Rat.mul_pos h c
 Ek a:=by grind
 kD:=by grind
 jM:=by decide
 inv a h:=⟨a⁻¹,aok a h⟩
structure r7(K K':Type)[fw K][fw K']where
 φ:K→K'
 add:∀a b,φ (a+b)=φ a+φ b
 mul:∀a b,φ (a*b)=φ a*φ b
 pos:∀a,fw.pos a→fw.pos (φ a)
namespace r7
section
variable {K K':Type} [fw K] [fw K'] (f:r7 K K')
theorem zero:f.φ 0=0:=by
 have:=f.add 0 0;rw[add_zero']at this;have e:f.φ 0+f.φ 0=f.φ 0+0:=by rw[add_zero',←this]
 exact cancel e
theorem neg(a:K):f.φ (-a)= -f.φ a:=by
 have:=f.add a (-a);rw[mc,f.zero]at this;exact sP this.symm
theorem sub(a b:K):f.φ (a-b)=f.φ a-f.φ b:=by rw[sub_def',f.add,f.neg,←sub_def']
theorem one:f.φ 1=1:=by
 have h:=f.mul 1 1;rw[oS]at h;have a:=uq (f.pos 1 jM);have e:f.φ 1*(f.φ 1-1)=0:=by
  have:f.φ 1*(f.φ 1-1)=f.φ 1*f.φ 1-f.φ 1:=rg [f.φ 1];rw[this,←h,sub_def',mc]
 exact fx.1 ((mul_eq_zero e).resolve_left a)
theorem rW(a:K):sg (f.φ a)=sg a:=by
 rcases qf a with⟨h,e⟩|⟨h,e⟩|⟨h,e⟩
 ·rw[e,sG (f.pos a h)]
 ·rw[h,f.zero,iE,iE]
 ·rw[e,xl (by rw[←f.neg];exact f.pos _ h)]
end
def id(K:Type)[fw K]:r7 K K:=⟨fun a=>a,fun _ _=>rfl,fun _ _=>rfl,fun _ h=>h⟩
def comp{K K' c:Type}[fw K][fw K'][fw c](g:r7 K' c)(f:r7 K K'):r7 K c:=
 ⟨fun a=>g.φ (f.φ a),fun a b=>by rw[f.add,g.add],fun a b=>by rw[f.mul,g.mul],fun a h=>g.pos _ (f.pos _ h)⟩
end r7
theorem ahZ(K:Type)[fw K](D:K)(k:nn D):∃(K':Type)(_:fw K')(f:r7 K K')(s:K'),nn s∧s*s=f.φ D:=by
 by_cases h:∃z:K,z*z=D
 ·obtain⟨z,j⟩:=h
  by_cases c:nn z
  ·exact⟨K,inferInstance,r7.id K,z,c,j⟩
  ·refine⟨K,inferInstance,r7.id K,-z,?_,?_⟩
   ·rcases Ek z with g|g|g
    ·exact apC (.inl g) c
    ·exact apC (.inr g) c
    ·exact .inl g
   ·show -z* -z=D
    rw[←j];exact rg [z]
 ·have d:Pr.Odd D:=⟨k,fun z e=>h ⟨z,e⟩⟩
  refine⟨Pr K D,Pr.fld d,@r7.mk K (Pr K D) _ (Pr.fld d) (fun a=>⟨a,0⟩) (fun a b=>?_) (fun a b=>?_) (fun a i=>?_),⟨0,1⟩,?_,?_⟩
  ·exact Pr.ext' rfl (show(0:K)=0+0 from(add_zero' 0).symm)
  ·exact Pr.ext' (show a*b=a*b+0*0*D from rg [a,b,D]) (show(0:K)=a*0+0*b from rg [a,b])
  ·refine .inl ⟨?_,i⟩
   show pos (a*a-0*0*D);exact of_eq (dV i i) (rg [a,D])
  ·left
   refine .inr ⟨?_,jM⟩;show pos (-((0:K)*0-1*1*D));exact of_eq d.pos (rg [D])
  ·exact Pr.ext' (show(0:K)*0+1*1*D=D from rg [D]) (show(0:K)*1+1*0=0 from rg [(0:K)])
end fL
end Lw
