/- WholeScaled, where what it reads is of bulk at most 1048576. No other condition. -/
import Derived.Test.YtmcpfihkambgnaaGreatLs08
import Derived.Test.YtmcpfihkambgnaaGreatLs09
import Derived.Test.YtmcpfihkambgnaaGreatRows
import Derived.WalkKit
import Derived.ProofKit
import Derived.OpenShut
import Derived.JoinedCond
import Derived.LaidMore
set_option maxHeartbeats 2000000
set_option linter.all false
open Option renaming some->a6,none->bk
open _root_ renaming List->ai,Nat->aw,Array->eY,of_decide_eq_true->hJ
open Bool renaming false->aj,true->bj
open Go renaming Value->b3,World->bn,TypeId->c5,MemPlace->oA,DataW->qm,Calls->vx
open Go.Proofs.YtmcpfihkambgnaaGreat.Rows.OpenSpec renaming upto->eR
open Go.Proofs.YtmcpfihkambgnaaGreat.Rows renaming wholeScaledSpec->et,uptoSmall->sm
open List renaming append_nil->r8
open Go.Proofs.Tryz renaming underlying4->uM
open Go.DataW renaming Trod->v8
open Go.Proofs.Tryz renaming prog->zZq
open Go.Proofs.Tryz
namespace Go.Proofs.YtmcpfihkambgnaaGreat
namespace mD
open Go Go.ChangeShapes Go.WideShapes Go.ChangeAt Go.RowKit
def own:ownKnob Tryz.prog.godebug=bk:=zk
def laidOut:laidOutB zZq=bj:=zk
def KO:Lw.aa (λ_=>True):=λ_ _ _ _=>True.intro
variable {Q:ai oA} {n:Type} {x:b3}
def El{t:c5}(f:Tryz.prog.readableRec t=bj)(c:t<Tryz.prog.types.size){enc:c5×b3->n}{W e:bn}{v:b3}{d:qm n}
  (h:v8 enc zZq W 0 (λ_=>bj) bj t v d Q) (g:Below W.heap.size W e) (i:∀x∈Q,x.block<W.heap.size):
  v8 enc zZq e 0 (λb=>decide (b<W.heap.size)) bj t v d Q:=Below.trod laidOut f c h g i
def bound{d0 d1 d2:qm n}(a:sm n [d0,d1,d2]=bj):Lw.kK d0+Lw.kK d1+Lw.kK d2<=1048576:=by have h:Rows.uptoBulkAll [d0,d1,d2]<=1048576:=hJ a;simp only[Rows.uptoBulkAll]at h;show Rows.uptoBulk d0+Rows.uptoBulk d1+Rows.uptoBulk d2<=1048576;omega
def aam{enc:c5×b3->n}{W:bn}{d:qm n}(h:v8 enc zZq W 0 (λ_=>bj) bj 51 x d Q):∃r:Lw.Raw,Lw.A6 r (Lw.kK d)/\Lw.b9 W Lw.JR x r.Cd:=by obtain⟨f,c⟩:=h;obtain⟨r,e,a⟩:=Lw.Al c;exact⟨r,e,Lw.afl (n:=1) (by rw[a.1];rfl) a⟩
set_option maxRecDepth 100000 in
def adi(H:Type)(enc:c5×b3->H)(W:bn)(base:aw)(args:eY b3)(ds gs:ai (qm H))(before:ai oA)
  (y:∀(j:aw) t v,Tryz.f4.params[j]? =a6 t->args[j]? =a6 v->Value.okWide zZq W .any base t v)
  (B:DataW.Whole enc zZq Tryz.f4.params.toList Rows.wholeScaledSpec.vars aj W args.toList ds gs before) (g:sm H (ds++gs)=bj):
  vx zZq 4 args W λe I=>∃v,e=.returned v/\Rows.wholeScaledSpec.post enc zZq Tryz.f4 aj bj aj aj W args v I:=by
 have a:=B;obtain⟨p,q,f,Z,rfl,Y,Dx⟩:=B;have C:DataW.TrodAll enc zZq W 0 (λ_=>bj) bj Tryz.f4.params.toList args.toList ds p:=f
 rw[Tryz.params4]at C y;obtain⟨v0,M,d0,ds0,S,q0,du,rfl,rfl,F,P⟩:=trodAll_cons C;obtain⟨v1,L,d1,ds1,R,q1,rfl,rfl,rfl,E,O⟩:=trodAll_cons P;obtain⟨v2,K,d2,ds2,Q,q2,rfl,rfl,rfl,D,N⟩:=trodAll_cons O;obtain⟨rfl,rfl,rfl⟩:=trodAll_nil N;obtain rfl:args= #[v0,v1,v2]:=by cases args;simp_all
 obtain⟨rfl,rfl⟩:=trodVars_none Z;clear f;simp only[r8]at a g;obtain⟨l,A,T⟩:=Lw.ajA (y 0 _ v0 rfl rfl) F;obtain⟨xs,z,x2,J⟩:=Lw.aey (y 1 _ v1 rfl rfl) E;obtain⟨kr,k1,k2⟩:=aam D;have d:=bound g;have o:∀x∈S,x.block<W.heap.size:=λx c=>a.lt x (by simp[c])
 have n:∀x∈R,x.block<W.heap.size:=λx c=>a.lt x (by simp[c])
 have i:∀x∈Q,x.block<W.heap.size:=λx c=>a.lt x (by simp[c])
 obtain⟨kk,r,U⟩:=Lw.Uz k1 za
 have Bh:=Lw.Tw.RO (G:=λ_=>True) KO (Lw.Fb.N_ KO) (A.ok za) (λx c=>(z x c).ok za) (λb aD m X=>A.raw za b aD m X) (λx c=>Lw.GW (z x c) za) r za (Lw.GW k1 za) W Lw.JR [v0,v1,v2] True.intro (Lw.aR.cons T (Lw.aR.cons J (Lw.aR.cons k2 Lw.aR.nil))) (λk g=>g.elim)
 refine Bh.mono λe I eh=>?_
 obtain⟨v,rfl,V,d,-⟩:=eh;cases V;have s:=El zk (hJ zk) F d o
 have u:=El zk (hJ zk) E d n
 have w:=El zk (hJ zk) D d i
 refine⟨_,rfl,_,_,_,[],_,[],a,trodAll_mk1 (shut_bool uM _),trodAll_mk3 s u w,rfl,d.frame _,λh=>by cases h⟩
set_option maxRecDepth 100000 in
def lifted(os:Os)(started:os.Started)(H:Type)(enc:c5×b3->H)(F:Stop.Interp):
  ReturnsInHanded {} Tryz.checked os 4 .any ((eR et).pre6 enc zZq Tryz.f4 Rows.wholeScaledUptoRow.domain aj) (((eR et).at F).post enc zZq Tryz.f4 aj bj aj aj):=by
 refine returnsInHanded_of_cond (C:=Tryz.checked) (s:=eR et) (k:=sm) rfl own started zk func4
  (OpenSpec.witness (enc:=enc) (C:=Tryz.checked) (s:=eR et) (k:=sm) rfl aj ⟨#[],#[.agg #[.string ByteArray.empty,.slice bk 0 0,.slice bk 0 0,.slice bk 0 0],.slice bk 0 0,.agg #[.bool aj,.slice bk 0 0,.slice bk 0 0]],[]⟩ 8 zk zk zk
   (x:=([.agg [.lit (.string []),.nil,.nil,.nil],.nil,.agg [.lit (.bool aj),.nil,.nil]],[],[])) zk rfl zk) ?_
 intro W base a d gs before e c _ b _;exact adi H enc W base a d gs before e c b
end mD
theorem wholeScaled_upto:Rows.WholeScaledUptoSaid:=
 OpenClaim.holds_of_cond 4 Tryz.f4 rfl rfl rfl rfl rfl rfl rfl ⟨rfl,rfl,rfl,rfl,rfl⟩ rfl rfl rfl rfl rfl zk func4 mD.facts
  (hJ zk) (by unfold Func.isWrapper;first|(rw[aph z2];kernel_rfl)|(rw[ape z2];exact⟨rfl,rfl⟩))
  (λos started H enc _ F=>mD.lifted os started H enc F)
end Go.Proofs.YtmcpfihkambgnaaGreat
