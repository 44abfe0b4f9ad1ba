/- WholeFound, where what it reads is of bulk at most 1048576. No other condition. -/
import Derived.Test.YtmcpfihkambgnaaGreatLw08
import Derived.Test.YtmcpfihkambgnaaGreatLw09
import Derived.Test.YtmcpfihkambgnaaGreatRows
import Derived.WalkKit
import Derived.ProofKit
import Derived.OpenShut
import Derived.JoinedCond
import Derived.LaidMore
set_option maxHeartbeats 2000000
set_option linter.all false
open Option renaming some->a6,none->bk
open _root_ renaming List->ai,Nat->aw,Array->eY,of_decide_eq_true->hJ
open Bool renaming false->aj,true->bj
open Go renaming Value->b3,World->bn,TypeId->c5,MemPlace->oA,DataW->qm,Calls->vx
open Go.Proofs.YtmcpfihkambgnaaGreat.Rows.OpenSpec renaming upto->eR
open List renaming append_nil->r8
open Go.Proofs.YtmcpfihkambgnaaGreat.Rows renaming uptoSmall->sm
open Go.Proofs.Tryz renaming underlying4->uM
open Go.DataW renaming Trod->v8
open Go.Proofs.Tryz renaming prog->zZq
open Go.Proofs.Tryz
namespace Go.Proofs.YtmcpfihkambgnaaGreat
namespace A'
open Go Go.ChangeShapes Go.WideShapes Go.ChangeAt Go.RowKit
def own:ownKnob Tryz.prog.godebug=bk:=zc
def laidOut:laidOutB zZq=bj:=zc
def KO:Lw.aa (λ_=>True):=λ_ _ _ _=>True.intro
variable {d:Type}
def El{t:c5}(e:Tryz.prog.readableRec t=bj)(a:t<Tryz.prog.types.size){enc:c5×b3->d}{W c:bn}{v:b3}{H:qm d}{ps:ai oA}
  (h:v8 enc zZq W 0 (λ_=>bj) bj t v H ps) (f:Below W.heap.size W c) (g:∀x∈ps,x.block<W.heap.size):
  v8 enc zZq c 0 (λb=>decide (b<W.heap.size)) bj t v H ps:=Below.trod laidOut e a h f g
def bound{d0:qm d}(a:sm d [d0]=bj):Lw.kK d0<=1048576:=by
 have h:Rows.uptoBulkAll [d0]<=1048576:=hJ a;simp only[Rows.uptoBulkAll]at h;show Rows.uptoBulk d0<=1048576;omega
set_option maxRecDepth 100000 in
def adi(H:Type)(enc:c5×b3->H)(W:bn)(base:aw)(args:eY b3)(ds gs:ai (qm H))(before:ai oA)
  (B:∀(j:aw) t v,Tryz.f5.params[j]? =a6 t->args[j]? =a6 v->Value.okWide zZq W .any base t v)
  (w:DataW.Whole enc zZq Tryz.f5.params.toList Rows.wholeFoundSpec.vars aj W args.toList ds gs before) (g:sm H (ds++gs)=bj):
  vx zZq 5 args W λe A=>∃v,e=.returned v/\Rows.wholeFoundSpec.post enc zZq Tryz.f5 aj bj aj aj W args v A:=by
 have c:=w;obtain⟨p,q,f,L,rfl,K,U⟩:=w;have y:DataW.TrodAll enc zZq W 0 (λ_=>bj) bj Tryz.f5.params.toList args.toList ds p:=f
 rw[Tryz.params5]at y B;obtain⟨v0,C,d0,N,E,q0,T,rfl,rfl,z,D⟩:=trodAll_cons y;obtain⟨rfl,rfl,rfl⟩:=trodAll_nil D;obtain rfl:args= #[v0]:=by cases args;simp_all
 obtain⟨rfl,rfl⟩:=trodVars_none L;clear f;simp only[r8]at c g;obtain⟨l,R,S,u,s,r,Q,F⟩:=Lw.auG (B 0 _ v0 rfl rfl) z;have a:=bound g;have i:∀x∈E,x.block<W.heap.size:=λx d=>c.lt x (by simp[d])
 have P:=Lw.Tw.auv (G:=λ_=>True) KO (Lw.Fb.N_ KO) (u.ok a) (λx d=>(s x d).ok a) (λb O m J=>u.raw a b O m J) (λx d=>Lw.GW (s x d) a) (λp n=>(r p n).ok a) (λp n=>(r p n).fin a) za W Lw.JR [v0] True.intro (Lw.aR.cons F Lw.aR.nil) (λk g=>g.elim)
 refine P.mono λe A M=>?_
 obtain⟨v,rfl,I,a,-⟩:=M;cases I;have o:=El zc (hJ zc) z a i
 refine⟨_,rfl,_,_,_,[],_,[],c,trodAll_mk1 (shut_bool uM _),trodAll_mk1 o,rfl,a.frame _,λh=>by cases h⟩
set_option maxRecDepth 100000 in
def lifted(os:Os)(started:os.Started)(H:Type)(enc:c5×b3->H)(F:Stop.Interp):
  ReturnsInHanded {} Tryz.checked os 5 .any ((eR Rows.wholeFoundSpec).pre6 enc zZq Tryz.f5 Rows.wholeFoundUptoRow.domain aj) (((eR Rows.wholeFoundSpec).at F).post enc zZq Tryz.f5 aj bj aj aj):=by
 refine returnsInHanded_of_cond (C:=Tryz.checked) (s:=eR Rows.wholeFoundSpec) (k:=sm) rfl own started zc func5
  (OpenSpec.witness (enc:=enc) (C:=Tryz.checked) (s:=eR Rows.wholeFoundSpec) (k:=sm) rfl aj ⟨#[],#[.agg #[.string ByteArray.empty,.slice bk 0 0,.slice bk 0 0,.slice bk 0 0,.slice bk 0 0,.slice bk 0 0]],[]⟩ 8 zc zc zc
   (x:=([.agg [.agg [.lit (.string []),.nil,.nil,.nil],.nil,.nil]],[],[])) zc rfl zc) ?_
 intro W base a d gs before e c _ b _;exact adi H enc W base a d gs before e c b
end A'
theorem wholeFound_upto:Rows.WholeFoundUptoSaid:=
 OpenClaim.holds_of_cond 5 Tryz.f5 rfl rfl rfl rfl rfl rfl rfl ⟨rfl,rfl,rfl,rfl,rfl⟩ rfl rfl rfl rfl rfl zc func5 A'.facts
  (hJ zc) (by unfold Func.isWrapper;first|(rw[aph zy];kernel_rfl)|(rw[ape zy];exact⟨rfl,rfl⟩))
  (λos started H enc _ F=>A'.lifted os started H enc F)
end Go.Proofs.YtmcpfihkambgnaaGreat
