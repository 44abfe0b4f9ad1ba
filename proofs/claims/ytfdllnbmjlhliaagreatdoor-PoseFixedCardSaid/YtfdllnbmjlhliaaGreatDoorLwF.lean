/- Running the operations of a region on abstract frames, in the order of the text. No condition. -/
import Derived.Test.YtfdllnbmjlhliaaGreatDoorLwE
import Derived.Tactics
namespace Lw
open Go Go.RowKit

/-- An abstract frame as lists, for the kernel. -/
structure St where
  tmps : List D
  blks : List (Option (List D))
  deriving Inhabited
def St.fs (s : St) : FS := ⟨fun t => s.tmps.getD t .any, fun b => s.blks.getD b none⟩

/-- How a piece of code ends. -/
inductive XEnd where
  | normal
  | exit (id : Nat)
  | ret
  deriving DecidableEq, Inhabited

/-- What a run meets and what the prover said: these are compared. -/
inductive Got where
  | call (f : FuncId) (args : List D)
  | d (x : D)
  | p (q : Prop)
  | code (c : Code) (n gb : Nat) (ds : List D) (bs : List (Option (List D)))

def topOf (keep : List Nat) : Nat := keep.foldr (fun b m => if Nat.blt b m then m else b + 1) 0
/-- A frame of which few temporaries and own blocks are known. -/
def lay (n : Nat) (l : List (Nat × D)) (bl : List (Nat × List D)) : St :=
  ⟨(List.range n).map fun t => ((l.find? fun p => p.1 == t).map (·.2)).getD .any, (List.range (topOf (bl.map (·.1)))).map fun b => (bl.find? fun p => p.1 == b).map (·.2)⟩
/-- What is promised of a piece of code: from every frame that reads so it comes to this end and to a frame that reads so. -/
def Abs (P : Program) (Good : World → Prop) (n gb : Nat) (k : Code) (s : St) (e : XEnd) (s' : St) : Prop :=
  ∀ (c : Ctx) (Q : Exit → Act → World → Prop) (a : Act) (w : World), c.P = P → c.Good = Good → c.Good c.w0 → c.gb ≤ gb → Rel c n s.fs a w →
    (∀ a' w', Rel c n s'.fs a' w' → Q (match e with | .normal => .normal | .exit id => .exit id | .ret => .ret) a' w') → k.wp P Q a w

/-- What the prover hands to the run, in the order in which the run meets it: a callee's contract; a value rewritten; a proposition that is owed; a loop's promise; a callee to be run in place; an own block that is written no more. -/
inductive Item (P : Program) (Good : World → Prop) where
  | call {f : FuncId} {args : List D} {r : D} (h : Spec P Good f args r)
  | eq (t : Tmp) {d d' : D} (h : d = d')
  | prop {p : Prop} (h : p)
  | code {n gb : Nat} {k : Code} {l : List (Nat × D)} {bl : List (Nat × List D)} {e : XEnd} {s' : St} (h : Abs P Good n gb k (lay n l bl) e s')
  | callN {f : FuncId} {args : List D} {n : Nat} {cs : List D} (h : SpecN P Good f args n cs)
  | inl (ro : List Nat) {f : FuncId} {fn : Func} (hf : P.funcs[f]? = some fn)
  | freeze (b : Nat)

/-- What becomes of an operation: how its temporary and the own blocks turn. -/
inductive Rec where
  | val (d : D)
  | new (b : Nat) (cs : List D) (d : D)
  | store (b off : Nat) (ds : List D)
  | grow (b : Nat) (cs : List D) (d : D)
  | own (d : D)
  | inl (blks : List (Option (List D))) (d : D)
def Rec.put : Rec → D
  | .val d => d
  | .new _ _ d => d
  | .store _ _ _ => .lit undef
  | .grow _ _ d => d
  | .own d => d
  | .inl _ d => d
/-- May it stand in a region whose order is open? -/
def Rec.plain : Rec → Bool
  | .val _ => true
  | .new _ _ _ => true
  | .store _ _ _ => true
  | .grow _ _ _ => false
  | .own _ => false
  | .inl _ _ => false
def splice (cs : List D) (off : Nat) (ds : List D) : List D := cs.take off ++ (ds ++ cs.drop (off + ds.length))

variable {P : Program} {Good : World → Prop}

/-- The need is met by what the prover handed, or by reckoning. -/
def meetNeed (nd : Need) (tr : List (Item P Good)) : Option (List (Item P Good) × List (Got × Got)) :=
  match nd with
  | .no => some (tr, [])
  | .want p b _ => match tr with
    | .prop (p := q) _ :: tr' => some (tr', [(.p p, .p q)])
    | _ => if b then some (tr, []) else none
/-- A value may be rewritten. -/
def rewr (dst : Option Tmp) (d : D) (tr : List (Item P Good)) : D × List (Item P Good) × List (Got × Got) :=
  match tr with
  | .eq t (d := x) (d' := y) _ :: tr' => if dst == some t then (y, tr', [(.d d, .d x)]) else (d, tr, [])
  | _ => (d, tr, [])
/-- An argument as the callee reads it. -/
def D.rowOf (blk : Nat → Option (List D)) (d : D) : D :=
  match d.ref with
  | some b => match blk b with
    | some cs => d.thaw b cs
    | none => .any
  | none => d.relax
def D.flat : D → Bool
  | .lit _ => true
  | _ => false
/-- How callees are run in place. -/
abbrev Inline (P : Program) (Good : World → Prop) := List Nat → Func → List D → List (Option (List D)) → List (Item P Good) → Option (D × List (Option (List D)) × List (Item P Good) × List (Got × Got))
def meetEff (inl : Inline P Good) (blk : Nat → Option (List D)) (blks : List (Option (List D))) (dst : Option Tmp) (E : Eff) (tr : List (Item P Good)) : Option (Rec × List (Item P Good) × List (Got × Got)) :=
  match E with
  | .val d => match rewr dst d tr with
    | (d', tr', eqs) => some (.val d', tr', eqs)
  | .new b cs d => some (.new b cs d, tr, [])
  | .store b off ds => some (.store b off ds, tr, [])
  | .grow b cs d => some (.grow b cs d, tr, [])
  | .call f args => match tr with
    | .call (f := g) (args := xs) (r := r) _ :: tr' =>
      if args.any (fun d => d.ref.isSome) then (if r.flat then some (.own r, tr', [(.call f (args.map (D.rowOf blk)), .call g xs)]) else none)
      else match rewr dst r tr' with
        | (d', tr'', eqs) => some (.val d', tr'', (.call f (args.map D.relax), .call g xs) :: eqs)
    | .callN (f := g) (args := xs) (n := n) (cs := cs) _ :: tr' =>
      if args.any (fun d => d.ref.isSome) then none else some (.new blks.length cs (.slc blks.length 0 n n), tr', [(.call f (args.map D.relax), .call g xs)])
    | .inl ro (f := g) (fn := fn) _ :: tr' => match inl ro fn args blks tr' with
      | some (d, blks', tr'', eqs) => some (.inl blks' d, tr'', (.call f [], .call g []) :: eqs)
      | none => none
    | _ => none
/-- Does the guard let the operation by? -/
def guardSays (ops : Array Oper) (o : Oper) (tmp : Nat → D) : Option Bool :=
  match o.guard with
  | none => some true
  | some (j, want) => match (ops[j]?).bind (·.dst) with
    | some t => match tmp t with
      | .lit (.bool b) => some (b == want)
      | .lit (.tuple _) => some false
      | _ => none
    | none => none
def opRec (P : Program) {Good : World → Prop} (inl : Inline P Good) (ops : Array Oper) (o : Oper) (ro : List Nat) (gb : Nat) (s : FS) (blks : List (Option (List D))) (tr : List (Item P Good)) : Option (Rec × List (Item P Good) × List (Got × Got)) :=
  match guardSays ops o s.tmp with
  | some true => match eff P o s.ev s.blk blks.length (match o.dst with | some t => ro.contains t | none => false) gb with
    | some (E, nd) => match meetNeed nd tr with
      | some (tr1, eqs1) => match meetEff inl s.blk blks o.dst E tr1 with
        | some (R, tr2, eqs2) => some (R, tr2, eqs1 ++ eqs2)
        | none => none
      | none => none
    | none => none
  | some false => some (.val (.lit undef), tr, [])
  | none => none

/-- The frame behind an operation. -/
def FS.app (s : FS) (n : Nat) (dst : Option Tmp) (R : Rec) : FS :=
  match R with
  | .val d => s.put n dst d
  | .new b cs d => (s.setBlk b (some cs)).put n dst d
  | .store b off ds => (s.setBlk b ((s.blk b).map fun cs => splice cs off ds)).put n dst (.lit undef)
  | .grow b cs d => ((s.clear b).setBlk b (some cs)).put n dst d
  | .own d => s.put n dst d
  | .inl blks d => (⟨s.tmp, fun b => blks.getD b none⟩ : FS).put n dst d

/-- What a callee that is run in place does. -/
def Inl (P : Program) (Good : World → Prop) (fn : Func) (args : List D) (blks : List (Option (List D))) (d : D) (blks' : List (Option (List D))) : Prop :=
  ∀ (f : FuncId), P.funcs[f]? = some fn → ∀ (c : Ctx) (w : World) (β : Nat → Nat) (X : Nat → Prop) (vals : List Value), c.P = P → c.Good = Good → c.Good c.w0 → c.gb ≤ blks.length →
    RelB c 0 ⟨fun _ => .any, fun b => blks.getD b none⟩ ⟨#[], []⟩ w β X → vals.length = args.length → (∀ i (h : i < vals.length) (h' : i < args.length), RepV β w X vals[i] args[i]) →
    (∀ d ∈ args, ∀ b, d.ref = some b → (blks.getD b none).isSome = true) →
    Calls P f vals.toArray w fun e w' => ∃ v β' X', e = .returned v ∧ RelB c 0 ⟨fun _ => .any, fun b => blks'.getD b none⟩ ⟨#[], []⟩ w' β' X' ∧ RepV β' w' X' v d ∧
      ∀ b, d.ref = some b → (blks'.getD b none).isSome = true

/-- All that was compared agrees. -/
def Agree (eqs : List (Got × Got)) : Prop := ∀ e ∈ eqs, e.1 = e.2
theorem Agree.append {l l' : List (Got × Got)} (h : Agree (l ++ l')) : Agree l ∧ Agree l' :=
  ⟨fun e he => h e (List.mem_append_left _ he), fun e he => h e (List.mem_append_right _ he)⟩
def InlOk (P : Program) (Good : World → Prop) (inl : Inline P Good) : Prop :=
  ∀ ro fn args blks tr d blks' tr' eqs, inl ro fn args blks tr = some (d, blks', tr', eqs) → Agree eqs → Inl P Good fn args blks d blks'

theorem meetNeed_ok {nd : Need} {tr tr' : List (Item P Good)} {eqs : List (Got × Got)} (h : meetNeed nd tr = some (tr', eqs)) (he : Agree eqs) : nd.ok := by
  cases nd with
  | no => trivial
  | want p b hb =>
    simp only [meetNeed] at h
    split at h
    · rename_i q hq _
      simp only [Option.some.injEq, Prod.mk.injEq] at h
      obtain ⟨rfl, rfl⟩ := h
      have := he _ (List.mem_cons_self ..)
      simp only [Got.p.injEq] at this
      show p
      rw [this]; exact hq
    · split at h
      · rename_i hbt; exact hb hbt
      · cases h
theorem rewr_ok {dst : Option Tmp} {d d' : D} {tr tr' : List (Item P Good)} {eqs : List (Got × Got)} (h : rewr dst d tr = (d', tr', eqs)) (he : Agree eqs) : d' = d := by
  unfold rewr at h
  split at h
  · rename_i t x y hxy _
    split at h
    · simp only [Prod.mk.injEq] at h
      obtain ⟨rfl, rfl, rfl⟩ := h
      have := he _ (List.mem_cons_self ..)
      simp only [Got.d.injEq] at this
      rw [this]; exact hxy.symm
    · simp only [Prod.mk.injEq] at h; exact h.1.symm
  · simp only [Prod.mk.injEq] at h; exact h.1.symm

theorem thaw_own {d : D} {b : Nat} {cs : List D} (h : d.ref = some b) : (d.thaw b cs).ref = none := by
  cases d <;> simp only [D.ref, Option.some.injEq, reduceCtorEq] at h <;> subst h <;> simp [D.thaw, D.ref]
theorem rowOf_rep {c : Ctx} {n : Nat} {s : FS} {a : Act} {w : World} {β : Nat → Nat} {X : Nat → Prop} (h : RelB c n s a w β X) {F : Nat → Prop} {v : Value} {d : D} (hv : RepV β w X v d)
    (hF : ∀ k, F k → X k) (hne : ∀ b, d.ref = some b → ∀ k, F k → k ≠ β b) : RepP w F v (d.rowOf s.blk) := by
  unfold D.rowOf
  split
  · rename_i b hb
    split
    · rename_i cs hcs
      obtain ⟨_, _, us, e, h3, _, h5⟩ := h.blk b cs hcs
      exact ((thaw_rep h3 h5 hv).pure (thaw_own hb)).mono fun a u hu hx => ⟨hu, fun hf => hx ⟨hF _ hf, hne b hb _ hf⟩⟩
    · exact .any _
  · rename_i hb
    exact relax_rep ((hv.pure hb).mono fun a u hu hx => ⟨hu, fun hf => hx (hF _ hf)⟩)

/-- What the operation does to the concrete frame. -/
theorem opRec_sound {c : Ctx} {n : Nat} {s : FS} {a : Act} {w : World} {inl : Inline P Good} (hinl : InlOk P Good inl) (hP : c.P = P) (hGd : c.Good = Good) (hG : Steady Good) (h0 : c.Good c.w0) {gb : Nat} (hgb : c.gb ≤ gb) (h : Rel c n s a w)
    {ops : Array Oper} {o : Oper} {ro : List Nat} {blks : List (Option (List D))} {tr tr' : List (Item P Good)} {R : Rec} {eqs : List (Got × Got)}
    (hr : opRec P inl ops o ro gb s blks tr = some (R, tr', eqs)) (he : Agree eqs) (hnb : ∀ b cs d, R = .new b cs d → s.blk b = none)
    (hbl : ∀ bl d, R = .inl bl d → (∀ b, s.blk b = blks.getD b none) ∧ ∀ t, n ≤ t → s.tmp t = .any) {Q : Exit → Act → World → Prop} {K : Act → World → Prop}
    (hK : ∀ a' w', Rel c n (s.app n o.dst R) a' w' → K a' w') :
    if Region.wanted o (yielded ops a.tmps) then o.wp P a w K Q else K (a.put o.dst undef) w := by
  subst hP hGd
  obtain ⟨β, X, h⟩ := h
  unfold opRec at hr
  have hguard : ∀ b, guardSays ops o s.tmp = some b → Region.wanted o (yielded ops a.tmps) = b := by
    intro b hb
    unfold guardSays at hb
    unfold Region.wanted
    split at hb
    · rename_i hg; simp only [Option.some.injEq] at hb; rw [hg]; exact hb
    · rename_i j want hg
      rw [hg]
      split at hb
      · rename_i t ht
        have hv := h.tmp t
        have hy : yielded ops a.tmps j = match a.tmps[t]? with | some (.bool b) => some b | _ => none := by unfold yielded; rw [ht]; rfl
        split at hb
        · rename_i b' hd
          simp only [Option.some.injEq] at hb
          rw [hd] at hv
          have e := toVal_eq (hv.pure rfl) (v := .bool b') rfl
          have : a.tmps[t]? = some (.bool b') := by
            cases hq : a.tmps[t]? with
            | none => simp [Array.getD_eq_getD_getElem?, hq, undef] at e
            | some v => simp [Array.getD_eq_getD_getElem?, hq] at e; rw [e]
          rw [this] at hy
          simp only [hy]
          rw [← hb]
          cases b' <;> cases want <;> rfl
        · rename_i vs hd
          simp only [Option.some.injEq] at hb
          rw [hd] at hv
          have e := toVal_eq (hv.pure rfl) (v := .tuple vs) rfl
          have : yielded ops a.tmps j = none := by
            rw [hy]
            cases hq : a.tmps[t]? with
            | none => rfl
            | some v => simp [Array.getD_eq_getD_getElem?, hq] at e; rw [e]
          simp only [this]
          rw [← hb]
          cases want <;> rfl
        · cases hb
      · cases hb
  split at hr
  · rename_i hg
    rw [if_pos (hguard _ hg)]
    split at hr
    · rename_i E nd hE
      split at hr
      · rename_i tr1 eqs1 hn
        split at hr
        · rename_i R' tr2 eqs2 hm
          simp only [Option.some.injEq, Prod.mk.injEq] at hr
          obtain ⟨rfl, rfl, rfl⟩ := hr
          obtain ⟨he1, he2⟩ := he.append
          have hok := eff_sound h hgb hE (meetNeed_ok hn he1)
          unfold Oper.wp
          cases E with
          | val d =>
            obtain ⟨v, w', hrun, hb, hv, hnd⟩ := hok
            simp only [meetEff] at hm
            generalize hrw : rewr o.dst d tr1 = q at hm
            obtain ⟨d', tr3, eqs3⟩ := q
            simp only [Option.some.injEq, Prod.mk.injEq] at hm
            obtain ⟨rfl, rfl, rfl⟩ := hm
            obtain rfl := rewr_ok hrw he2
            rw [hrun, Oper.upon_value]
            exact hK _ _ ⟨β, X, (h.grow hb).put hv hnd⟩
          | new b cs d =>
            obtain ⟨rfl, w1, us, e, v, hrun, hb1, hs1, hle, hreps, hd, hv⟩ := hok
            simp only [meetEff, Option.some.injEq, Prod.mk.injEq] at hm
            obtain ⟨rfl, rfl, rfl⟩ := hm
            rw [hrun, Oper.upon_value]
            have hnew := (h.grow hb1).new blks.length (hnb _ cs d rfl) e us cs hle (hreps.mono (stays_below hb1))
            refine hK _ _ ⟨_, _, hnew.put (hv _ _ _ (by simp [hs1]) ?_) (fun b' hb' => ?_)⟩
            · rw [← hs1]; exact shape_of_cells (heap_alloc_new w1 _)
            · rw [hd] at hb'
              simp only [Option.some.injEq] at hb'
              subst hb'
              simp [FS.setBlk]
          | store b off ds =>
            obtain ⟨cs, us, us', e, hb, hu, hrun, hsz, hle, hlu, hreps⟩ := hok
            simp only [meetEff, Option.some.injEq, Prod.mk.injEq] at hm
            obtain ⟨rfl, rfl, rfl⟩ := hm
            rw [hrun, Oper.upon_skip]
            have hlen : (cs.take off ++ (ds ++ cs.drop (off + ds.length))).length = cs.length := by simp; omega
            have hst := h.store b cs (cs.take off ++ (ds ++ cs.drop (off + ds.length))) hb us us' e hu hsz (by omega) (by rw [hlen]; exact hreps)
            refine hK _ _ ⟨β, X, ?_⟩
            have : (s.app n o.dst (.store b off ds)) = (s.setBlk b (some (cs.take off ++ (ds ++ cs.drop (off + ds.length))))).put n o.dst (.lit undef) := by
              simp [FS.app, hb, splice]
            rw [this]
            exact hst.put (.p (.lit undef)) (fun b' hb' => by simp [D.ref] at hb')
          | grow b cs d =>
            obtain ⟨v, w', β', X', hrun, hrel, hv, hd⟩ := hok
            simp only [meetEff, Option.some.injEq, Prod.mk.injEq] at hm
            obtain ⟨rfl, rfl, rfl⟩ := hm
            rw [hrun, Oper.upon_value]
            refine hK _ _ ⟨β', X', hrel.put hv (fun b' hb' => ?_)⟩
            rw [hd] at hb'
            simp only [Option.some.injEq] at hb'
            subst hb'
            simp [FS.setBlk]
          | call f args =>
            obtain ⟨vals, hrun, hvl, hreps, hlive⟩ := hok
            simp only [meetEff] at hm
            split at hm
            · rename_i g xs r hspec tr3
              split at hm
              · split at hm
                · rename_i hflat
                  simp only [Option.some.injEq, Prod.mk.injEq] at hm
                  obtain ⟨rfl, rfl, rfl⟩ := hm
                  have h1 := he2 _ (List.mem_cons_self ..)
                  simp only [Got.call.injEq] at h1
                  obtain ⟨rfl, rfl⟩ := h1
                  rw [hrun, Oper.upon_enter]
                  refine (hspec w (fun k => X k ∧ ∀ d ∈ args, ∀ b, d.ref = some b → k ≠ β b) vals (h.good hG h0) ⟨by simpa using hvl, fun i h1 h2 => ?_⟩ (fun k hk => h.Xlt k hk.1)).mono fun e w' hend => ?_
                  · rw [List.getElem_map]
                    exact rowOf_rep h (hreps i h1 (by simpa using h2)) (fun k hk => hk.1) (fun b hb k hk => hk.2 _ (List.getElem_mem _) b hb)
                  · obtain ⟨v, rfl, hv, hb, _⟩ := hend
                    cases r <;> simp only [D.flat, Bool.false_eq_true] at hflat
                    cases hv
                    exact hK _ _ ⟨β, X, (h.grow hb).put (.p (.lit _)) (fun b' hb' => by simp [D.ref] at hb')⟩
                · cases hm
              · rename_i hown
                have hno : ∀ d ∈ args, d.ref = none := by
                  intro d hd
                  simp only [List.any_eq_true, not_exists, not_and, Bool.not_eq_true] at hown
                  have := hown d hd
                  cases hq : d.ref with
                  | none => rfl
                  | some b => rw [hq] at this; cases this
                generalize hrw : rewr o.dst r tr3 = q at hm
                obtain ⟨d', tr4, eqs3⟩ := q
                simp only [Option.some.injEq, Prod.mk.injEq] at hm
                obtain ⟨rfl, rfl, rfl⟩ := hm
                have h1 := he2 _ (List.mem_cons_self ..)
                simp only [Got.call.injEq] at h1
                obtain ⟨rfl, rfl⟩ := h1
                obtain rfl := rewr_ok hrw (fun e he' => he2 e (List.mem_cons_of_mem _ he'))
                rw [hrun, Oper.upon_enter]
                refine (hspec w X vals (h.good hG h0) ⟨by simpa using hvl, fun i h1 h2 => ?_⟩ h.Xlt).mono fun e w' hend => ?_
                · rw [List.getElem_map]
                  exact relax_rep ((hreps i h1 (by simpa using h2)).pure (hno _ (List.getElem_mem _)))
                · obtain ⟨v, rfl, hv, hb, _⟩ := hend
                  exact hK _ _ ⟨β, X, (h.grow hb).put (.p hv) (fun b' hb' => by rw [repP_ref hv] at hb'; cases hb')⟩
            · rename_i g xs m cs hspec tr3
              split at hm
              · cases hm
              · rename_i hown
                have hno : ∀ d ∈ args, d.ref = none := by
                  intro d hd
                  simp only [List.any_eq_true, not_exists, not_and, Bool.not_eq_true] at hown
                  have := hown d hd
                  cases hq : d.ref with
                  | none => rfl
                  | some b => rw [hq] at this; cases this
                simp only [Option.some.injEq, Prod.mk.injEq] at hm
                obtain ⟨rfl, rfl, rfl⟩ := hm
                have h1 := he2 _ (List.mem_cons_self ..)
                simp only [Got.call.injEq] at h1
                obtain ⟨rfl, rfl⟩ := h1
                rw [hrun, Oper.upon_enter]
                refine (hspec w X vals (h.good hG h0) ⟨by simpa using hvl, fun i h1 h2 => ?_⟩ h.Xlt).mono fun e w' hend => ?_
                · rw [List.getElem_map]
                  exact relax_rep ((hreps i h1 (by simpa using h2)).pure (hno _ (List.getElem_mem _)))
                · obtain ⟨k, us, ty, rfl, hm1, hk, hu, hle, hrr, hb, _⟩ := hend
                  have hnew := h.adopt hb blks.length (hnb _ _ _ rfl) hk hu hle hrr
                  refine hK _ _ ⟨_, _, hnew.put (v := .slice (some ⟨k, 0, none⟩) m m) ?_ (fun b' hb' => ?_)⟩
                  · have := RepV.slc (β := fun j => if j = blks.length then k else β j) (w := w') (X := fun j => X j ∨ j = k) blks.length 0 m m (Nat.le_refl _) hm1
                    simp only [if_true] at this
                    exact this
                  · simp only [D.ref, Option.some.injEq] at hb'
                    subst hb'
                    simp [FS.setBlk]
            · rename_i ro' g fn hf tr3
              split at hm
              · rename_i d blks' tr4 eqs3 hi
                simp only [Option.some.injEq, Prod.mk.injEq] at hm
                obtain ⟨rfl, rfl, rfl⟩ := hm
                obtain ⟨hbk, htn⟩ := hbl _ _ rfl
                have h1 := he2 _ (List.mem_cons_self ..)
                simp only [Got.call.injEq, and_true] at h1
                subst h1
                have hin := hinl _ _ _ _ _ _ _ _ _ hi (fun e he' => he2 e (List.mem_cons_of_mem _ he'))
                rw [hrun, Oper.upon_enter]
                let gh' : List (Value × D) := ((List.range n).map fun t => (a.tmps.getD t undef, s.tmp t)) ++ c.gh
                have hbs : (fun b => blks.getD b none) = s.blk := funext fun b => (hbk b).symm
                have hlt : ∀ b, (s.blk b).isSome = true → b < blks.length := fun b hb => by
                  rw [hbk b] at hb
                  rcases Nat.lt_or_ge b blks.length with h | h
                  · exact h
                  · rw [List.getD_eq_getElem?_getD, List.getElem?_eq_none h] at hb; simp at hb
                have hstart : RelB { c with gh := gh', gb := blks.length } 0 ⟨fun _ => .any, fun b => blks.getD b none⟩ ⟨#[], []⟩ w β X := by
                  rw [hbs]
                  refine ⟨rfl, rfl, fun t => .p (.any _), fun t b hb => by simp [D.ref] at hb, h.blk, h.inj, h.F, h.Flt, h.Xlt, h.below, fun p hp => ?_, fun p hp b hb => ?_⟩
                  · rcases List.mem_append.1 hp with hp | hp
                    · obtain ⟨t, _, rfl⟩ := List.mem_map.1 hp; exact h.tmp t
                    · exact h.gh p hp
                  · have : (s.blk b).isSome = true := by
                      rcases List.mem_append.1 hp with hp | hp
                      · obtain ⟨t, _, rfl⟩ := List.mem_map.1 hp; exact h.nd t b hb
                      · exact (h.ghnd p hp b hb).2
                    exact ⟨hlt b this, this⟩
                refine (hin f hf { c with gh := gh', gb := blks.length } w β X vals rfl rfl h0 (Nat.le_refl _) hstart hvl hreps (fun d hd b hb => by rw [← hbk]; exact hlive d hd b hb)).mono fun e w' hend => ?_
                obtain ⟨v, β', X', rfl, hrel, hv, hd⟩ := hend
                have hback : RelB c n ⟨s.tmp, fun b => blks'.getD b none⟩ a w' β' X' := by
                  refine ⟨h.defers, h.size, fun t => ?_, fun t b hb => ?_, hrel.blk, hrel.inj, hrel.F, hrel.Flt, hrel.Xlt, hrel.below, fun p hp => hrel.gh p (List.mem_append_right _ hp), fun p hp b hb => ?_⟩
                  · by_cases ht : t < n
                    · exact hrel.gh (a.tmps.getD t undef, s.tmp t) (List.mem_append_left _ (List.mem_map.2 ⟨t, by simpa using ht, rfl⟩))
                    · show RepV β' w' X' _ (s.tmp t)
                      rw [htn t (by omega)]; exact .p (.any _)
                  · by_cases ht : t < n
                    · exact (hrel.ghnd (a.tmps.getD t undef, s.tmp t) (List.mem_append_left _ (List.mem_map.2 ⟨t, by simpa using ht, rfl⟩)) b hb).2
                    · have hb' : (s.tmp t).ref = some b := hb
                      rw [htn t (by omega)] at hb'; simp [D.ref] at hb'
                  · exact ⟨(h.ghnd p hp b hb).1, (hrel.ghnd p (List.mem_append_right _ hp) b hb).2⟩
                exact hK _ _ ⟨β', X', hback.put hv hd⟩
              · cases hm
            · cases hm
        · cases hr
      · cases hr
    · cases hr
  · rename_i hg
    rw [hguard _ hg]
    simp only [Option.some.injEq, Prod.mk.injEq] at hr
    obtain ⟨rfl, rfl, rfl⟩ := hr
    exact hK _ _ ⟨β, X, h.put (.p (.lit undef)) (fun b' hb' => by simp [D.ref] at hb')⟩
  · cases hr

def D.clear (b : Nat) (d : D) : D := if d.ref == some b then .any else d
/-- The same on lists. -/
def St.app (s : St) (dst : Option Tmp) (R : Rec) : St :=
  let put (l : List D) (d : D) : List D := match dst with | some t => l.set t d | none => l
  match R with
  | .val d => { s with tmps := put s.tmps d }
  | .new _ cs d => { tmps := put s.tmps d, blks := s.blks ++ [some cs] }
  | .store b off ds => { tmps := put s.tmps (.lit undef), blks := match s.blks.getD b none with | some cs => s.blks.set b (some (splice cs off ds)) | none => s.blks }
  | .grow b cs d => { tmps := put (s.tmps.map (D.clear b)) d, blks := s.blks.set b (some cs) }
  | .own d => { s with tmps := put s.tmps d }
  | .inl blks d => { tmps := put s.tmps d, blks := blks }

theorem getD_set_tmp (l : List D) (t u : Nat) (d : D) : (l.set t d).getD u .any = if some t = some u ∧ u < l.length then d else l.getD u .any := by
  simp only [List.getD_eq_getElem?_getD, List.getElem?_set]
  by_cases h : t = u
  · subst h
    by_cases h2 : t < l.length
    · simp [h2]
    · simp [h2]
  · simp [h]
theorem getD_set_blk (l : List (Option (List D))) (b k : Nat) (x : Option (List D)) (h : b < l.length) : (l.set b x).getD k none = if k = b then x else l.getD k none := by
  simp only [List.getD_eq_getElem?_getD, List.getElem?_set]
  by_cases hk : k = b
  · subst hk; simp [h]
  · rw [if_neg (Ne.symm hk), if_neg hk]
theorem lt_of_live {l : List (Option (List D))} {b : Nat} {cs : List D} (h : l.getD b none = some cs) : b < l.length := by
  rcases Nat.lt_or_ge b l.length with h' | h'
  · exact h'
  · rw [List.getD_eq_getElem?_getD, List.getElem?_eq_none h'] at h; cases h
theorem St.app_fs (s : St) (dst : Option Tmp) (R : Rec) (hb : ∀ b cs d, R = .new b cs d → b = s.blks.length) (hg : ∀ b cs d, R = .grow b cs d → b < s.blks.length) :
    (s.app dst R).fs = s.fs.app s.tmps.length dst R ∧ (s.app dst R).tmps.length = s.tmps.length := by
  have hput : ∀ (l : List D) (d : D), l.length = s.tmps.length → (fun t => (match dst with | some t => l.set t d | none => l).getD t .any) = fun t => if dst = some t ∧ t < s.tmps.length then d else l.getD t .any := by
    intro l d hl
    funext u
    cases dst with
    | none => simp
    | some t => rw [← hl]; exact getD_set_tmp l t u d
  have hlen : ∀ (l : List D) d, l.length = s.tmps.length → (match dst with | some t => l.set t d | none => l).length = s.tmps.length := by intro l d hl; cases dst <;> simp [hl]
  cases R with
  | val d => exact ⟨by simp only [St.app, St.fs, FS.app, FS.put, hput s.tmps d rfl], hlen _ d rfl⟩
  | own d => exact ⟨by simp only [St.app, St.fs, FS.app, FS.put, hput s.tmps d rfl], hlen _ d rfl⟩
  | inl blks d => exact ⟨by simp only [St.app, St.fs, FS.app, FS.put, hput s.tmps d rfl], hlen _ d rfl⟩
  | new b cs d =>
    obtain rfl := hb b cs d rfl
    refine ⟨?_, hlen _ d rfl⟩
    simp only [St.app, St.fs, FS.app, FS.put, FS.setBlk, hput s.tmps d rfl]
    congr 1
    funext k
    by_cases hk : k = s.blks.length
    · subst hk; simp [List.getD_eq_getElem?_getD]
    · rw [if_neg hk]
      simp only [List.getD_eq_getElem?_getD]
      by_cases h2 : k < s.blks.length
      · rw [List.getElem?_append_left h2]
      · rw [List.getElem?_eq_none (by simp; omega), List.getElem?_eq_none (by omega)]
  | grow b cs d =>
    have hlt := hg b cs d rfl
    refine ⟨?_, hlen _ d (by simp)⟩
    simp only [St.app, St.fs, FS.app, FS.put, FS.setBlk, FS.clear, hput (s.tmps.map (D.clear b)) d (by simp)]
    congr 1
    · funext t
      split
      · rfl
      · simp only [List.getD_eq_getElem?_getD, List.getElem?_map]
        cases s.tmps[t]? with
        | none => simp [D.ref]
        | some x => simp [D.clear]
    · funext k; exact getD_set_blk s.blks b k _ hlt
  | store b off ds =>
    refine ⟨?_, hlen _ _ rfl⟩
    simp only [St.app, St.fs, FS.app, FS.put, FS.setBlk, hput s.tmps _ rfl]
    congr 1
    funext k
    cases hbk : s.blks.getD b none with
    | none =>
      by_cases hk : k = b
      · rw [hk, if_pos rfl, hbk]; rfl
      · rw [if_neg hk]
    | some cs => exact getD_set_blk s.blks b k _ (lt_of_live hbk)

/-- The block that an operation looks at or writes. -/
def accOf (o : Oper) (ρ : Operand → D) : Option Nat :=
  match o.op with
  | .load _ x => match ρ x with | .ptr b _ => some b | _ => none
  | .store _ x _ => match ρ x with | .ptr b _ => some b | _ => none
  | _ => none

/-- The operations one behind the other; also what became of each, and which block it met. -/
def runOps (P : Program) {Good : World → Prop} (inl : Inline P Good) (ops : Array Oper) (ro : List Nat) (gb : Nat) : List Oper → St → List (Item P Good) → Option (St × List (Item P Good) × List (Got × Got) × List (Rec × Option Nat))
  | [], s, tr => some (s, tr, [], [])
  | o :: rest, s, tr => match opRec P inl ops o ro gb s.fs s.blks tr with
    | some (R, tr1, eqs1) => match runOps P inl ops ro gb rest (s.app o.dst R) tr1 with
      | some (s', tr2, eqs2, recs) => some (s', tr2, eqs1 ++ eqs2, (R, accOf o s.fs.ev) :: recs)
      | none => none
    | none => none

theorem eff_new {o : Oper} {ρ : Operand → D} {blk : Nat → Option (List D)} {nb : Nat} {ro : Bool} {gb b : Nat} {cs : List D} {d : D} {nd : Need}
    (h : eff P o ρ blk nb ro gb = some (.new b cs d, nd)) : b = nb := by
  unfold eff at h
  repeat' split at h
  all_goals first | (cases h; done) | (simp only [Option.some.injEq, Prod.mk.injEq, Eff.new.injEq] at h; exact h.1.1.symm)
theorem eff_grow {o : Oper} {ρ : Operand → D} {blk : Nat → Option (List D)} {nb : Nat} {ro : Bool} {gb b : Nat} {cs : List D} {d : D} {nd : Need}
    (h : eff P o ρ blk nb ro gb = some (.grow b cs d, nd)) : ∃ cs', blk b = some cs' := by
  unfold eff at h
  repeat' split at h
  all_goals first | (cases h; done) | (simp only [Option.some.injEq, Prod.mk.injEq, Eff.grow.injEq] at h; obtain ⟨⟨rfl, -, -⟩, -⟩ := h; exact ⟨_, by assumption⟩)
theorem opRec_new {inl : Inline P Good} {ops : Array Oper} {o : Oper} {ro : List Nat} {gb : Nat} {s : FS} {blks : List (Option (List D))} {tr tr' : List (Item P Good)} {eqs : List (Got × Got)} {R : Rec}
    (h : opRec P inl ops o ro gb s blks tr = some (R, tr', eqs)) : (∀ b cs d, R = .new b cs d → b = blks.length) ∧ (∀ b cs d, R = .grow b cs d → ∃ cs', s.blk b = some cs') := by
  unfold opRec at h
  split at h
  · split at h
    · rename_i E nd hE
      split at h
      · split at h
        · rename_i R2 tr2 eqs2 hm
          simp only [Option.some.injEq, Prod.mk.injEq] at h
          obtain ⟨rfl, -, -⟩ := h
          cases E with
          | val d => simp only [meetEff, Option.some.injEq, Prod.mk.injEq] at hm; obtain ⟨rfl, -, -⟩ := hm; exact ⟨(fun _ _ _ h => by cases h), (fun _ _ _ h => by cases h)⟩
          | new b' cs' d' =>
            simp only [meetEff, Option.some.injEq, Prod.mk.injEq] at hm
            obtain ⟨rfl, -, -⟩ := hm
            exact ⟨(fun _ _ _ h => by cases h; exact eff_new hE), (fun _ _ _ h => by cases h)⟩
          | store => simp only [meetEff, Option.some.injEq, Prod.mk.injEq] at hm; obtain ⟨rfl, -, -⟩ := hm; exact ⟨(fun _ _ _ h => by cases h), (fun _ _ _ h => by cases h)⟩
          | grow b' cs' d' =>
            simp only [meetEff, Option.some.injEq, Prod.mk.injEq] at hm
            obtain ⟨rfl, -, -⟩ := hm
            exact ⟨(fun _ _ _ h => by cases h), (fun _ _ _ h => by cases h; exact eff_grow hE)⟩
          | call f args =>
            simp only [meetEff] at hm
            split at hm
            · split at hm
              · split at hm
                · simp only [Option.some.injEq, Prod.mk.injEq] at hm; obtain ⟨rfl, -, -⟩ := hm; exact ⟨(fun _ _ _ h => by cases h), (fun _ _ _ h => by cases h)⟩
                · cases hm
              · simp only [Option.some.injEq, Prod.mk.injEq] at hm; obtain ⟨rfl, -, -⟩ := hm; exact ⟨(fun _ _ _ h => by cases h), (fun _ _ _ h => by cases h)⟩
            · split at hm
              · cases hm
              · simp only [Option.some.injEq, Prod.mk.injEq] at hm; obtain ⟨rfl, -, -⟩ := hm; exact ⟨(fun _ _ _ h => by cases h; rfl), (fun _ _ _ h => by cases h)⟩
            · split at hm
              · simp only [Option.some.injEq, Prod.mk.injEq] at hm; obtain ⟨rfl, -, -⟩ := hm; exact ⟨(fun _ _ _ h => by cases h), (fun _ _ _ h => by cases h)⟩
              · cases hm
            · cases hm
        · cases h
      · cases h
    · cases h
  · simp only [Option.some.injEq, Prod.mk.injEq] at h; obtain ⟨rfl, -, -⟩ := h; exact ⟨(fun _ _ _ h => by cases h), (fun _ _ _ h => by cases h)⟩
  · cases h
theorem blk_len_none (s : St) : s.fs.blk s.blks.length = none := by simp [St.fs, List.getD_eq_getElem?_getD]
theorem opRec_app {inl : Inline P Good} {ops : Array Oper} {o : Oper} {ro : List Nat} {gb : Nat} {s : St} {tr tr' : List (Item P Good)} {eqs : List (Got × Got)} {R : Rec}
    (h : opRec P inl ops o ro gb s.fs s.blks tr = some (R, tr', eqs)) : (s.app o.dst R).fs = s.fs.app s.tmps.length o.dst R ∧ (s.app o.dst R).tmps.length = s.tmps.length := by
  obtain ⟨h1, h2⟩ := opRec_new h
  exact s.app_fs o.dst R h1 (fun b cs d hb => by obtain ⟨cs', hc⟩ := h2 b cs d hb; exact lt_of_live hc)
theorem tmp_out (s : St) : ∀ t, s.tmps.length ≤ t → s.fs.tmp t = .any := fun t ht => by simp [St.fs, List.getD_eq_getElem?_getD, List.getElem?_eq_none ht]

/-- In the order of the text. -/
theorem runOps_sound {c : Ctx} {Q : Exit → Act → World → Prop} {inl : Inline P Good} (hinl : InlOk P Good inl) (hP : c.P = P) (hGd : c.Good = Good) (hG : Steady Good) (h0 : c.Good c.w0) {gb : Nat} (hgb : c.gb ≤ gb) {ops : Array Oper} {ro : List Nat} :
    ∀ (l : List Oper) (s s' : St) (tr tr' : List (Item P Good)) (eqs : List (Got × Got)) (recs : List (Rec × Option Nat)) (a : Act) (w : World),
      runOps P inl ops ro gb l s tr = some (s', tr', eqs, recs) → Agree eqs → Rel c s.tmps.length s.fs a w → (∀ a' w', Rel c s.tmps.length s'.fs a' w' → Q .normal a' w') → wpList P ops Q l a w
  | [], s, s', tr, tr', eqs, recs, a, w, hr, he, h, hQ => by
    simp only [runOps, Option.some.injEq, Prod.mk.injEq] at hr
    obtain ⟨rfl, rfl, rfl, rfl⟩ := hr
    exact hQ a w h
  | o :: rest, s, s', tr, tr', eqs, recs, a, w, hr, he, h, hQ => by
    simp only [runOps] at hr
    split at hr
    · rename_i R tr1 eqs1 h1
      split at hr
      · rename_i s2 tr2 eqs2 recs2 h2
        simp only [Option.some.injEq, Prod.mk.injEq] at hr
        obtain ⟨rfl, rfl, rfl, rfl⟩ := hr
        obtain ⟨he1, he2⟩ := he.append
        obtain ⟨e1, e2⟩ := opRec_app h1
        refine wpList_step fun K hK => ?_
        refine opRec_sound hinl hP hGd hG h0 hgb h h1 he1 (fun b cs d hb => by rw [(opRec_new h1).1 b cs d hb]; exact blk_len_none s) (fun _ _ _ => ⟨fun b => rfl, tmp_out s⟩) fun a' w' h' => hK _ _ ?_
        rw [← e1, ← e2] at h'
        exact runOps_sound hinl hP hGd hG h0 hgb rest _ _ _ _ _ _ a' w' h2 he2 h' (by rw [e2]; exact hQ)
      · cases hr
    · cases hr
theorem runOps_len {inl : Inline P Good} {ops : Array Oper} {ro : List Nat} {gb : Nat} : ∀ (l : List Oper) (s s' : St) (tr tr' : List (Item P Good)) (eqs : List (Got × Got)) (recs : List (Rec × Option Nat)),
      runOps P inl ops ro gb l s tr = some (s', tr', eqs, recs) → s'.tmps.length = s.tmps.length
  | [], s, s', tr, tr', eqs, recs, hr => by
    simp only [runOps, Option.some.injEq, Prod.mk.injEq] at hr
    obtain ⟨rfl, rfl, rfl, rfl⟩ := hr; rfl
  | o :: rest, s, s', tr, tr', eqs, recs, hr => by
    simp only [runOps] at hr
    split at hr
    · rename_i R tr1 eqs1 h1
      split at hr
      · rename_i s2 tr2 eqs2 recs2 h2
        simp only [Option.some.injEq, Prod.mk.injEq] at hr
        obtain ⟨rfl, rfl, rfl, rfl⟩ := hr
        rw [runOps_len rest _ _ _ _ _ _ h2, (opRec_app h1).2]
      · cases hr
    · cases hr
end Lw
