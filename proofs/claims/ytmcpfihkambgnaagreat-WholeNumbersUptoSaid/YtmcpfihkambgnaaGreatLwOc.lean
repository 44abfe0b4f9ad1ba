/- The iterator over pairs of free bodies: its contract. Condition: at most a hundred bodies. -/
import Derived.Test.YtmcpfihkambgnaaGreatLwOb
namespace Lw
open Go Go.RowKit Go.Proofs
variable {P : Program} {G : World → Prop}

theorem abides_below {β : Type} {B : Nat} {J : β → World → Prop} (h : AbidesFrom B J) {s : β} {W W' : World} (hs : J s W) (hb : Below W.heap.size W W') : J s W' :=
  h s W W' none hs ⟨hb.os, hb.tape, hb.output, hb.size, fun k hk _ => hb.block k hk⟩ (fun r e => by cases e)
def cCallee (o : Oper) : Option (Operand × Array Operand) := match o.op with
  | .call c => match c.callee with
    | .value f => some (f, c.args)
    | _ => none
  | _ => none
theorem cCallee_of {o : Oper} {f : Operand} {args : Array Operand} (h : cCallee o = some (f, args)) : ∃ c, o.op = .call c ∧ c.callee = .value f ∧ c.args = args := by
  unfold cCallee at h
  split at h
  · rename_i c hc
    split at h
    · rename_i g hg
      simp only [Option.some.injEq, Prod.mk.injEq] at h
      exact ⟨c, hc, by rw [hg, h.1], h.2⟩
    · cases h
  · cases h
theorem run_yieldOp {o : Oper} {ρ : Operand → Value} {W : World} {c : Call} {l : Nat} {vs : Array Value} {f : Operand} {r : Result Next} (hop : o.op = .call c) (hc : c.callee = .value f) (hf : ρ f = .func (.yield l) #[] #[]) (ha : c.args.map ρ = vs) (hy : (Instr.yield l vs).run P W = r) : (execOp ρ o).run P W = r := by
  simp [execOp, hop, resolve, hc, hf, invoke, ha, hy, Deferred.ofValue, go_sem]
theorem semAt_call {o : Oper} {c : Call} {r : Option Nat} {ρ : Operand → Value} (hop : o.op = .call c) : o.semAt r ρ = execOp ρ o := by
  unfold Oper.semAt
  rw [hop]
  cases r <;> rfl
/-- The yield call of an iterator. -/
theorem yield_in {n m : Nat} {l : List (Nat × D)} {ops : Array Oper} {o : Oper} {rest : List Oper} {Q : Exit → Act → World → Prop} {a : Act} {W : World} {f : Operand} {args : Array Operand} {l0 : Nat} {vs : Array Value} {t : Nat}
    (ho : cCallee o = some (f, args)) (hd : o.dst = some t) (hgd : guardSays ops o (lay n l []).fs.tmp = some true)
    (hr : Rel (cx P G none W) n (lay n l []).fs a W) (hf : a.eval f = .func (.yield l0) #[] #[]) (ha : args.map a.eval = vs)
    {R : Ending → World → Prop} (hy : YieldAt Fence.wide m P l0 vs W R) (hR : ∀ e W', R e W' → ∃ v, e = .returned v ∧ wpListIn (Fw none) 0 P ops Q rest (a.put (some t) v) W') :
    wpListIn (Fw none) 0 P ops Q (o :: rest) a W := by
  obtain ⟨c, hop, hc, hargs⟩ := cCallee_of ho
  obtain ⟨β, X, hB⟩ := hr
  have hw := guard_ok hB ops o true hgd
  obtain ⟨fn, tmps, assign, body, hrun, hround⟩ := hy
  have hx : (execOp a.eval o).run P W = .ok (.round l0 fn tmps assign body) W := run_yieldOp hop hc hf (by rw [hargs]; exact ha) hrun
  refine wpListIn_step fun K hK => ?_
  rw [if_pos hw]
  refine ⟨fun _ _ => trivial, ?_⟩
  rw [semAt_call hop, hx, Oper.uponIn_round]
  refine ⟨(fun h => by cases h), (roundIn_n (m := 0 - 1) rfl hround).mono ?_⟩
  intro e W' he
  obtain ⟨v, rfl, hk⟩ := hR e W' he
  rw [hd]; exact hK _ _ hk
theorem Rel.tmpLit {r : Option Nat} {w : World} {n : Nat} {s : FSt} {a : Act} (h : Rel (cx P G r w) n s a w) {t : Nat} {v : Value} (e : s.tmp t = .lit v) : a.tmps.getD t undef = v := by
  obtain ⟨β, X, hB⟩ := h
  have h3 := hB.tmp t
  rw [e] at h3
  exact toVal_eq (h3.pure rfl) (v := v) rfl
namespace Gr
variable {nm : D} {N : Nat} {bs rest : List D} {yv : Value}
def cOp (l : List Oper) (i : Nat) : List Oper := (l.drop i).take 1
theorem op12l : ((cOps (kL (kB4 (cBody Tryz.f322)))).drop 12).length = 3 := by kernel_rfl
theorem op12h : ((cOps (kL (kB4 (cBody Tryz.f322)))).drop 12).head?.map (fun o => (cCallee o, o.dst, o.guard)) = some (some (.tmp 35, #[.tmp 36, .tmp 37]), some 38, some (8, true)) := by kernel_rfl
theorem three {L : List Oper} (h : (L.drop 12).length = 3) (h1 : (L.drop 12).head?.map (fun o => (cCallee o, o.dst, o.guard)) = some (some (.tmp 35, #[.tmp 36, .tmp 37]), some 38, some (8, true))) :
    ∃ o, L.drop 12 = o :: L.drop 13 ∧ cCallee o = some (.tmp 35, #[.tmp 36, .tmp 37]) ∧ o.dst = some 38 ∧ o.guard = some (8, true) := by
  have e : L.drop 13 = (L.drop 12).drop 1 := by rw [List.drop_drop]
  rw [e]
  generalize L.drop 12 = M at h h1
  cases M with
  | nil => cases h1
  | cons o M =>
    simp only [List.head?_cons, Option.map_some, Option.some.injEq, Prod.mk.injEq] at h1
    exact ⟨o, rfl, h1.1, h1.2.1, h1.2.2⟩
theorem op12 : ∃ o, (cOps (kL (kB4 (cBody Tryz.f322)))).drop 12 = o :: (cOps (kL (kB4 (cBody Tryz.f322)))).drop 13 ∧ cCallee o = some (.tmp 35, #[.tmp 36, .tmp 37]) ∧ o.dst = some 38 ∧ o.guard = some (8, true) := by
  have h1 := op12l
  have h2 := op12h
  generalize (cOps (kL (kB4 (cBody Tryz.f322)))) = L at h1 h2 ⊢
  exact three h1 h2
theorem op8 : (((cOps (kL (kB4 (cBody Tryz.f322)))).toArray)[8]?.bind (·.dst)) = some 34 := by kernel_rfl
theorem b4_end : kR (kB4 (cBody Tryz.f322)) = .cond (.tmp 40) .ret .skip := by kernel_rfl
/-- After a round that goes on. -/
theorem seg10 {i j : Nat} :
    keepOps Tryz.prog (G := G) (cOps (kL (kB4 (cBody Tryz.f322)))).toArray ((cOps (kL (kB4 (cBody Tryz.f322)))).drop 13) (lay 42 ((38, bool true) :: itM nm N bs rest yv i j) []) [] (((40, bool false) :: itI nm N bs rest yv i j).map (·.1)) = some (((40, bool false) :: itI nm N bs rest yv i j).map (·.2), [], said ([] : List (Item Tryz.prog G))) := by
  kernel_rfl
def itE (i j : Nat) : List (Nat × D) := [(38, bool false), (34, bool true), (36, nat i), (37, nat j)]
/-- After a round that ends the loop. -/
theorem seg11 {i j : Nat} :
    keepOps Tryz.prog (G := G) (cOps (kL (kB4 (cBody Tryz.f322)))).toArray ((cOps (kL (kB4 (cBody Tryz.f322)))).drop 13) (lay 42 (itE i j) []) [] [40] = some ([bool true], [], said ([] : List (Item Tryz.prog G))) := by
  kernel_rfl
end Gr
end Lw
