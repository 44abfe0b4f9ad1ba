/- Running whole bodies on abstract frames; from a run to a contract; loops. No condition. -/
import Derived.Test.YtfdllnbmjlhliaaGreatDoorLwH
import Derived.LoopN
import Derived.Deep.LoopGhost
namespace Lw
open Go Go.RowKit

variable {P : Program} {Good : World → Prop}

/-- What is kept; the rest is forgotten. -/
def keepL {α : Type} (none' : α) (keep : List Nat) : Nat → List α → List α
  | _, [] => []
  | i, x :: l => (if keep.contains i then x else none') :: keepL none' keep (i + 1) l
def St.mask (keepT keepB : List Nat) (s : St) : St where
  tmps := keepL .any keepT 0 s.tmps
  blks := keepL none keepB 0 (s.blks.take (topOf keepB))
def maskOk (gb : Nat) (keepT keepB : List Nat) (s : St) : Bool :=
  (keepT.all fun t => match (s.tmps.getD t .any).ref with
    | some b => keepB.contains b && (s.blks.getD b none).isSome
    | none => true) && (List.range gb).all fun b => keepB.contains b

theorem keepL_getD {α : Type} (z d : α) (keep : List Nat) : ∀ (i : Nat) (l : List α) (t : Nat), (keepL z keep i l).getD t d = if t < l.length then (if keep.contains (i + t) then l.getD t d else z) else d
  | i, [], t => by simp [keepL]
  | i, x :: l, t => by
    cases t with
    | zero => simp [keepL]
    | succ t =>
      have := keepL_getD z d keep (i + 1) l t
      simp only [keepL, List.getD_cons_succ, List.length_cons, this, Nat.add_assoc, Nat.add_comm 1 t, Nat.add_lt_add_iff_right]
theorem keepL_length {α : Type} (z : α) (keep : List Nat) : ∀ (i : Nat) (l : List α), (keepL z keep i l).length = l.length
  | i, [] => rfl
  | i, x :: l => by simp [keepL, keepL_length z keep (i + 1) l]
theorem topOf_lt {keep : List Nat} {b : Nat} (h : keep.contains b = true) : b < topOf keep := by
  induction keep with
  | nil => simp at h
  | cons x keep ih =>
    have : x < topOf (x :: keep) ∧ topOf keep ≤ topOf (x :: keep) := by
      show x < (if Nat.blt x (topOf keep) then topOf keep else x + 1) ∧ topOf keep ≤ (if Nat.blt x (topOf keep) then topOf keep else x + 1)
      split
      · rename_i h; rw [Nat.blt_eq] at h; exact ⟨h, Nat.le_refl _⟩
      · rename_i h; rw [Nat.blt_eq] at h; exact ⟨by omega, by omega⟩
    by_cases hx : b = x
    · rw [hx]; exact this.1
    · have := ih (by simpa [hx] using h)
      omega
theorem mask_fs (s : St) (keepT keepB : List Nat) :
    (∀ t, (s.mask keepT keepB).fs.tmp t = if keepT.contains t then s.fs.tmp t else .any) ∧ (∀ b, (s.mask keepT keepB).fs.blk b = if keepB.contains b then s.fs.blk b else none) := by
  refine ⟨fun t => ?_, fun b => ?_⟩
  · show (keepL .any keepT 0 s.tmps).getD t .any = _
    rw [keepL_getD, Nat.zero_add]
    by_cases h : t < s.tmps.length
    · rw [if_pos h]; rfl
    · rw [if_neg h]
      split
      · simp [St.fs, List.getD_eq_getElem?_getD, List.getElem?_eq_none (Nat.le_of_not_lt h)]
      · rfl
  · show (keepL none keepB 0 (s.blks.take (topOf keepB))).getD b none = _
    rw [keepL_getD, Nat.zero_add]
    by_cases hc : keepB.contains b = true
    · have hlt := topOf_lt hc
      rw [if_pos hc, if_pos hc]
      by_cases h : b < (s.blks.take (topOf keepB)).length
      · rw [if_pos h]
        simp [St.fs, List.getD_eq_getElem?_getD, hlt]
      · rw [if_neg h]
        have : s.blks.length ≤ b := by simp at h; omega
        simp [St.fs, List.getD_eq_getElem?_getD, List.getElem?_eq_none this]
    · rw [if_neg hc, if_neg hc]; split <;> rfl
theorem Rel.mask {c : Ctx} {n : Nat} {s : St} {a : Act} {w : World} {gb : Nat} {keepT keepB : List Nat} (h : Rel c n s.fs a w) (hgb : c.gb ≤ gb) (hok : maskOk gb keepT keepB s = true) : Rel c n (s.mask keepT keepB).fs a w := by
  obtain ⟨h1, h2⟩ := mask_fs s keepT keepB
  simp only [maskOk, Bool.and_eq_true, List.all_eq_true] at hok
  refine h.weaken (fun t => ?_) (fun b => ?_) (fun t b hb => ?_) (fun b hb => ?_)
  · rw [h1 t]; split
    · exact .inr rfl
    · exact .inl rfl
  · rw [h2 b]; split
    · exact .inr rfl
    · exact .inl rfl
  · rw [h1 t] at hb
    by_cases ht : keepT.contains t = true
    · rw [if_pos ht] at hb
      have := hok.1 t (by simpa using ht)
      have e : (s.tmps.getD t .any).ref = some b := hb
      rw [e] at this
      simp only [Bool.and_eq_true] at this
      rw [h2 b, if_pos this.1]; exact this.2
    · rw [if_neg ht] at hb; simp [D.ref] at hb
  · rw [h2 b, if_pos (hok.2 b (by simp; omega))]

/-- A block that is written no more, on lists. -/
def St.freeze (s : St) (b : Nat) (cs : List D) : St := ⟨s.tmps.map (D.thaw b cs), s.blks.set b none⟩
theorem freeze_fs {s : St} {b : Nat} {cs : List D} (h : s.blks.getD b none = some cs) : (s.freeze b cs).fs = s.fs.freeze b cs := by
  simp only [St.freeze, St.fs, FS.freeze]
  congr 1
  · funext t
    simp only [List.getD_eq_getElem?_getD, List.getElem?_map]
    cases s.tmps[t]? with
    | none => rfl
    | some d => rfl
  · funext k; exact getD_set_blk s.blks b k _ (lt_of_live h)

theorem lay_len (n : Nat) (l : List (Nat × D)) (bl : List (Nat × List D)) : (lay n l bl).tmps.length = n := by simp [lay]
theorem find_of_map {α : Type} (f : Nat → α) (l : List (Nat × α)) (h : l.map (fun p => f p.1) = l.map (·.2)) (t : Nat) : (l.find? fun p => p.1 == t).map (·.2) = if (l.map (·.1)).contains t then some (f t) else none := by
  induction l with
  | nil => simp
  | cons p l ih =>
    simp only [List.map_cons, List.cons.injEq] at h
    by_cases hp : p.1 = t
    · rw [List.find?_cons_of_pos (by simpa using hp)]
      simp [hp, ← h.1]
    · rw [List.find?_cons_of_neg (by simpa using hp), ih h.2]
      have : (t == p.1) = false := by simpa using Ne.symm hp
      simp only [List.map_cons, List.contains_cons, this, Bool.false_or]
theorem lay_tmp (n : Nat) (l : List (Nat × D)) (bl : List (Nat × List D)) (t : Nat) : (lay n l bl).fs.tmp t = if t < n then ((l.find? fun p => p.1 == t).map (·.2)).getD .any else .any := by
  show ((List.range n).map fun t => ((l.find? fun p => p.1 == t).map (·.2)).getD D.any).getD t .any = _
  rw [List.getD_eq_getElem?_getD, List.getElem?_map]
  split
  · rw [List.getElem?_eq_getElem (by simpa)]; simp
  · rw [List.getElem?_eq_none (by simp; omega)]; rfl
theorem lay_blk (n : Nat) (l : List (Nat × D)) (bl : List (Nat × List D)) (b : Nat) : (lay n l bl).fs.blk b = if b < topOf (bl.map (·.1)) then (bl.find? fun p => p.1 == b).map (·.2) else none := by
  show ((List.range (topOf (bl.map (·.1)))).map fun b => (bl.find? fun p => p.1 == b).map (·.2)).getD b none = _
  rw [List.getD_eq_getElem?_getD, List.getElem?_map]
  split
  · rw [List.getElem?_eq_getElem (by simpa)]; simp
  · rw [List.getElem?_eq_none (by simp; omega)]; rfl
/-- What is kept of a frame, where it is known. -/
theorem mask_lay {s : St} {n : Nat} {l : List (Nat × D)} {bl : List (Nat × List D)} (hn : s.tmps.length = n) (h1 : (l.map fun p => s.tmps.getD p.1 .any) = l.map (·.2)) (h2 : (bl.map fun p => s.blks.getD p.1 none) = bl.map fun p => some p.2) :
    (s.mask (l.map (·.1)) (bl.map (·.1))).fs = (lay n l bl).fs := by
  obtain ⟨e1, e2⟩ := mask_fs s (l.map (·.1)) (bl.map (·.1))
  have f1 : ∀ t, (s.mask (l.map (·.1)) (bl.map (·.1))).fs.tmp t = (lay n l bl).fs.tmp t := by
    intro t
    rw [e1, lay_tmp, find_of_map (fun t => s.tmps.getD t .any) l h1 t]
    by_cases hc : (l.map (·.1)).contains t = true
    · rw [if_pos hc, if_pos hc]
      by_cases ht : t < n
      · rw [if_pos ht]; rfl
      · rw [if_neg ht]
        show s.tmps.getD t .any = .any
        rw [List.getD_eq_getElem?_getD, List.getElem?_eq_none (by omega)]; rfl
    · rw [if_neg hc, if_neg hc]; split <;> rfl
  have f2 : ∀ b, (s.mask (l.map (·.1)) (bl.map (·.1))).fs.blk b = (lay n l bl).fs.blk b := by
    intro b
    rw [e2]
    have h2' : (bl.map fun p => (p.1, some p.2)).map (fun p => s.blks.getD p.1 none) = (bl.map fun p => (p.1, some p.2)).map (·.2) := by simpa [List.map_map, Function.comp] using h2
    have := find_of_map (fun b => s.blks.getD b none) (bl.map fun p => (p.1, some p.2)) h2' b
    rw [List.find?_map] at this
    simp only [List.map_map] at this
    have e3 : ((fun x : Nat × Option (List D) => x.1) ∘ fun p : Nat × List D => (p.1, some p.2)) = fun p => p.1 := rfl
    have e4 : ((fun p : Nat × Option (List D) => p.1 == b) ∘ fun p : Nat × List D => (p.1, some p.2)) = fun p => p.1 == b := rfl
    rw [e3, e4] at this
    rw [lay_blk]
    by_cases hc : (bl.map (·.1)).contains b = true
    · rw [if_pos hc] at this ⊢
      rw [if_pos (topOf_lt hc)]
      cases hq : bl.find? (fun p => p.1 == b) with
      | none => rw [hq] at this; simp at this
      | some p => rw [hq] at this; simp at this ⊢; exact this.symm
    · rw [if_neg hc] at this ⊢
      cases hq : bl.find? (fun p => p.1 == b) with
      | some p => rw [hq] at this; simp at this
      | none => split <;> rfl
  show (⟨(s.mask (l.map (·.1)) (bl.map (·.1))).fs.tmp, (s.mask (l.map (·.1)) (bl.map (·.1))).fs.blk⟩ : FS) = ⟨(lay n l bl).fs.tmp, (lay n l bl).fs.blk⟩
  rw [funext f1, funext f2]

abbrev Out (P : Program) (Good : World → Prop) := XEnd × St × List (Item P Good) × List (Got × Got)

/-- Rounds of a loop, one behind the other, till one of them leaves. -/
def iter (g : St → List (Item P Good) → Option (Out P Good)) : Nat → St → List (Item P Good) → Option (Out P Good)
  | 0, _, _ => none
  | m + 1, s, tr => match g s tr with
    | some (.normal, s1, tr1, e1) => match iter g m s1 tr1 with
      | some (e, s2, tr2, e2) => some (e, s2, tr2, e1 ++ e2)
      | none => none
    | r => r
/-- A loop: by what the prover handed, or round by round. -/
def runLoop (gb : Nat) (k : Code) (g : St → List (Item P Good) → Option (Out P Good)) (m : Nat) (s : St) (tr : List (Item P Good)) : Option (Out P Good) :=
  match tr with
  | .code (n := n) (gb := gb') (k := k') (l := l) (bl := bl) (e := e) (s' := s') _ :: tr' =>
    if maskOk gb (l.map (·.1)) (bl.map (·.1)) s && s'.tmps.length == s.tmps.length then
      some (e, s', tr', [(.code k s.tmps.length gb (l.map fun p => s.tmps.getD p.1 .any) (bl.map fun p => s.blks.getD p.1 none), .code k' n gb' (l.map (·.2)) (bl.map fun p => some p.2))]) else none
  | _ => iter g m s tr
/-- The results of a function off its frame, own places among them where one alone comes back. -/
def resultD (P : Program) (s : St) : ResultVar → Option D
  | .tmp t => some (s.tmps.getD t .any)
  | .cell x t => match tySize P t, tyAgg P t, s.tmps.getD x .any with
    | some sz, some ag, .ptr b off => match s.blks.getD b none with
      | some cs => if Nat.blt 0 sz && Nat.ble (off + sz) cs.length then some (if ag then .agg ((cs.drop off).take sz) else (cs.drop off).headD .any) else none
      | none => none
    | some sz, some ag, .rptr cs => if Nat.blt 0 sz && Nat.ble sz cs.length then some (if ag then .agg (cs.take sz) else cs.headD .any) else none
    | _, _, _ => none
def resultsD (P : Program) (s : St) : List ResultVar → Option (List D)
  | [] => some []
  | r :: rs => match resultD P s r, resultsD P s rs with
    | some d, some ds => some (d :: ds)
    | _, _ => none
/-- One result stands alone; several make a tuple. -/
def packD : List D → D
  | [d] => d
  | ds => .tup ds
def packV : List Value → Value
  | [v] => v
  | vs => .tuple vs.toArray
/-- The frame at the beginning. -/
def startS (n : Nat) (args : List D) (blks : List (Option (List D))) : St := ⟨args ++ List.replicate (n - args.length) (.lit undef), blks⟩
abbrev Runner (P : Program) (Good : World → Prop) := List Nat → Nat → Code → St → List (Item P Good) → Option (Out P Good)
/-- A callee is run in place. -/
def inlOf (P : Program) {Good : World → Prop} (g : Runner P Good) : Inline P Good := fun ro fn args blks tr =>
  match fn.body with
  | some k => if Nat.ble args.length fn.ntmps then
      match g ro blks.length k (startS fn.ntmps args blks) tr with
      | some (.normal, s, tr', eqs) | some (.ret, s, tr', eqs) => match resultsD P s fn.results.toList with
        | some ds => if ds.length == 1 || ds.all (fun d => d.ref.isNone) then some (packD ds, s.blks, tr', eqs) else none
        | none => none
      | _ => none
    else none
  | none => none
def runC (P : Program) {Good : World → Prop} : Nat → Runner P Good
  | 0, _, _, _, _, _ => none
  | m + 1, ro, gb, k, s, tr => match tr with
    | .freeze b :: tr1 => match s.blks.getD b none with
      | some cs => if Nat.ble gb b then match runC P m ro gb k (s.freeze b cs) tr1 with
          | some (e, s', tr', eqs) => some (e, s', tr', (.p True, .p True) :: eqs)
          | none => none
        else none
      | none => none
    | tr => match k with
      | .skip => some (.normal, s, tr, [])
      | .ret => some (.ret, s, tr, [])
      | .exit id => some (.exit id, s, tr, [])
      | .seq x y => match runC P m ro gb x s tr with
        | some (.normal, s1, tr1, e1) => match runC P m ro gb y s1 tr1 with
          | some (e, s2, tr2, e2) => some (e, s2, tr2, e1 ++ e2)
          | none => none
        | r => r
      | .cond x a b => match s.fs.ev x with
        | .lit (.bool true) => runC P m ro gb a s tr
        | .lit (.bool false) => runC P m ro gb b s tr
        | _ => none
      | .block id x => match runC P m ro gb x s tr with
        | some (.exit id', s1, tr1, e1) => if id' == id then some (.normal, s1, tr1, e1) else some (.exit id', s1, tr1, e1)
        | r => r
      | .region _ ops draw => match runOps P (inlOf P (runC P m)) ops ro gb ops.toList s tr with
        | some (s', tr', eqs, recs) => if draw then (if P.follows .mixedOrders && drawCheck ops s.blks.length ops.toList recs then some (.normal, s', tr', eqs) else none) else some (.normal, s', tr', eqs)
        | none => none
      | .loop x => runLoop gb (.loop x) (runC P m ro gb x) m s tr
      | _ => none

def XEnd.toExit : XEnd → Exit
  | .normal => .normal
  | .exit id => .exit id
  | .ret => .ret

/-- What a run shows of a piece of code. -/
def Shows (P : Program) (Good : World → Prop) (gb : Nat) (k : Code) (s : St) (e : XEnd) (s' : St) : Prop :=
  s'.tmps.length = s.tmps.length ∧ ∀ (c : Ctx) (Q : Exit → Act → World → Prop) (a : Act) (w : World), c.P = P → c.Good = Good → c.Good c.w0 → c.gb ≤ gb → Rel c s.tmps.length s.fs a w →
    (∀ a' w', Rel c s.tmps.length s'.fs a' w' → Q e.toExit a' w') → k.wp P Q a w

theorem abs_shows {n gb : Nat} {k : Code} {s s' : St} {e : XEnd} (h : Abs P Good n gb k s e s') (hn : s.tmps.length = n) (hn' : s'.tmps.length = n) : Shows P Good gb k s e s' := by
  refine ⟨by omega, fun c Q a w h1 h2 h3 hg h4 h5 => ?_⟩
  subst hn
  refine h c Q a w h1 h2 h3 hg h4 fun a' w' h' => ?_
  have := h5 a' w' h'
  cases e <;> exact this
theorem shows_abs {gb : Nat} {k : Code} {s s' : St} {e : XEnd} (h : Shows P Good gb k s e s') : Abs P Good s.tmps.length gb k s e s' := by
  intro c Q a w h1 h2 h3 hg h4 h5
  refine h.2 c Q a w h1 h2 h3 hg h4 fun a' w' h' => ?_
  have := h5 a' w' h'
  cases e <;> exact this

theorem iter_sound {gb : Nat} {body : Code} {g : St → List (Item P Good) → Option (Out P Good)}
    (hg : ∀ s tr e s' tr' eqs, g s tr = some (e, s', tr', eqs) → Agree eqs → Shows P Good gb body s e s') :
    ∀ (m : Nat) (s : St) (tr : List (Item P Good)) (e : XEnd) (s' : St) (tr' : List (Item P Good)) (eqs : List (Got × Got)), iter g m s tr = some (e, s', tr', eqs) → Agree eqs →
      s'.tmps.length = s.tmps.length ∧ e ≠ .normal ∧ ∀ (c : Ctx) (Q : Exit → Act → World → Prop) (a : Act) (w : World), c.P = P → c.Good = Good → c.Good c.w0 → c.gb ≤ gb → Rel c s.tmps.length s.fs a w →
        (∀ a' w', Rel c s.tmps.length s'.fs a' w' → Q e.toExit a' w') → Code.rounds P body Q m a w
  | 0, s, tr, e, s', tr', eqs, h, _ => by simp [iter] at h
  | m + 1, s, tr, e, s', tr', eqs, h, he => by
    simp only [iter] at h
    split at h
    · rename_i s1 tr1 e1 h1
      split at h
      · rename_i e2' s2 tr2 e2 h2
        simp only [Option.some.injEq, Prod.mk.injEq] at h
        obtain ⟨rfl, rfl, rfl, rfl⟩ := h
        obtain ⟨he1, he2⟩ := he.append
        obtain ⟨l1, w1⟩ := hg _ _ _ _ _ _ h1 he1
        obtain ⟨l2, n2, w2⟩ := iter_sound hg m _ _ _ _ _ _ h2 he2
        refine ⟨by omega, n2, fun c Q a w q1 q2 q3 qg q4 q5 => ?_⟩
        rw [rounds_succ]
        exact w1 c _ a w q1 q2 q3 qg q4 fun a' w' h' => w2 c Q a' w' q1 q2 q3 qg (by rw [l1]; exact h') (by rw [l1]; exact q5)
      · cases h
    · rename_i hne
      obtain ⟨l1, w1⟩ := hg _ _ _ _ _ _ h he
      have hnn : e ≠ .normal := by rintro rfl; exact hne _ _ _ h
      refine ⟨l1, hnn, fun c Q a w q1 q2 q3 qg q4 q5 => ?_⟩
      rw [rounds_succ]
      refine w1 c _ a w q1 q2 q3 qg q4 fun a' w' h' => ?_
      have := q5 a' w' h'
      cases e with
      | normal => exact absurd rfl hnn
      | exit id => exact this
      | ret => exact this

/-! ### Results. -/
theorem resultD_sound {c : Ctx} {n : Nat} {s : St} {a : Act} {w : World} {β : Nat → Nat} {X : Nat → Prop} (h : RelB c n s.fs a w β X) {r : ResultVar} {d : D} (e : resultD c.P s r = some d) :
    ∃ v, ((match r with | .tmp t => pure (a.tmps.getD t undef) | .cell x t => do loadVar t (← asAddr (a.tmps.getD x undef))) : Sem Value).run c.P w = .ok v w ∧ RepV β w X v d ∧ ∀ b, d.ref = some b → (s.fs.blk b).isSome = true := by
  unfold resultD at e
  split at e
  · rename_i t
    simp only [Option.some.injEq] at e
    subst e
    exact ⟨_, rfl, h.tmp t, h.nd t⟩
  · rename_i x t
    have hv := h.tmp x
    split at e
    · rename_i sz ag b off hs ha hx
      split at e
      · rename_i cs hb
        split at e
        · rename_i hc
          simp only [Bool.and_eq_true, Nat.blt_eq, Nat.ble_eq] at hc
          simp only [Option.some.injEq] at e
          subst e
          have hx' : s.fs.tmp x = .ptr b off := hx
          rw [hx'] at hv
          obtain ⟨us, e2, e3⟩ := own_cells h (off := off) hb
          obtain ⟨v, hrun, hrep⟩ := load_run hs ha e2 e3 hc.1 (by simp; omega)
          exact ⟨v, by simp [ptr_val hv, asAddr, hrun], .p hrep, fun b hb => by rw [repP_ref hrep] at hb; cases hb⟩
        · cases e
      · cases e
    · rename_i sz ag cs hs ha hx
      split at e
      · rename_i hc
        simp only [Bool.and_eq_true, Nat.blt_eq, Nat.ble_eq] at hc
        simp only [Option.some.injEq] at e
        subst e
        have hx' : s.fs.tmp x = .rptr cs := hx
        rw [hx'] at hv
        obtain ⟨ad, us, e1, e2, e3⟩ := rptr_cells (hv.pure rfl)
        obtain ⟨v, hrun, hrep⟩ := load_run hs ha e2 (fun i hi => (e3 i hi).2) hc.1 hc.2
        exact ⟨v, by simp [e1, asAddr, hrun], .p hrep, fun b hb => by rw [repP_ref hrep] at hb; cases hb⟩
      · cases e
    · cases e
theorem resultsD_sound {c : Ctx} {n : Nat} {s : St} {a : Act} {w : World} {β : Nat → Nat} {X : Nat → Prop} (h : RelB c n s.fs a w β X) :
    ∀ (rs : List ResultVar) (ds : List D), resultsD c.P s rs = some ds →
      ∃ vs, (rs.mapM fun r => ((match r with | .tmp t => pure (a.tmps.getD t undef) | .cell x t => do loadVar t (← asAddr (a.tmps.getD x undef))) : Sem Value)).run c.P w = .ok vs w ∧
        vs.length = ds.length ∧ (∀ i (h : i < vs.length) (h' : i < ds.length), RepV β w X vs[i] ds[i]) ∧ ∀ d ∈ ds, ∀ b, d.ref = some b → (s.fs.blk b).isSome = true
  | [], ds, e => by
    simp only [resultsD, Option.some.injEq] at e
    subst e
    exact ⟨[], by simp, rfl, fun i h => absurd h (by simp), fun d h => by simp at h⟩
  | r :: rs, ds, e => by
    simp only [resultsD] at e
    split at e
    · rename_i d ds' e1 e2
      simp only [Option.some.injEq] at e
      subst e
      obtain ⟨v, h1, h2, hl⟩ := resultD_sound h e1
      obtain ⟨vs, h3, h4, h5, h6⟩ := resultsD_sound h rs ds' e2
      refine ⟨v :: vs, by simp only [List.mapM_cons, Sem.run_bind, h1, h3, Result.andThen_ok, Sem.run_pure], by simp [h4], fun i hi hi' => ?_, fun d' hd' b hb => ?_⟩
      · cases i with
        | zero => exact h2
        | succ i => simpa using h5 i (by simpa using hi) (by simpa using hi')
      · rcases List.mem_cons.1 hd' with rfl | hd'
        · exact hl b hb
        · exact h6 d' hd' b hb
    · cases e
theorem pack_reps {w : World} {F : Nat → Prop} {vs : List Value} {ds : List D} (h : Reps w F vs ds) : RepP w F (packV vs) (packD ds) := by
  match vs, ds, h with
  | [v], [d], h2 => exact h2.head
  | [], [], h2 => exact .tup [] [] h2.1 h2.2
  | v :: v' :: vs, d :: d' :: ds, h2 => exact .tup _ _ h2.1 h2.2
  | [], d :: ds, h2 => have := h2.1; simp at this
  | v :: vs, [], h2 => have := h2.1; simp at this
  | [v], d :: d' :: ds, h2 => have := h2.1; simp at this
  | v :: v' :: vs, [d], h2 => have := h2.1; simp at this
theorem results_run {c : Ctx} {n : Nat} {s : St} {a : Act} {w : World} {β : Nat → Nat} {X : Nat → Prop} (h : RelB c n s.fs a w β X) {fn : Func} {ds : List D} (e : resultsD c.P s fn.results.toList = some ds) :
    ∃ vs, (results fn a.tmps).run c.P w = .ok (packV vs) w ∧
      vs.length = ds.length ∧ (∀ i (h : i < vs.length) (h' : i < ds.length), RepV β w X vs[i] ds[i]) ∧ ∀ d ∈ ds, ∀ b, d.ref = some b → (s.fs.blk b).isSome = true := by
  obtain ⟨vs, h1, h2, h3, h4⟩ := resultsD_sound h _ _ e
  have hm : (fn.results.mapM fun r => ((match r with | .tmp t => pure (a.tmps.getD t undef) | .cell x t => do loadVar t (← asAddr (a.tmps.getD x undef))) : Sem Value)).run c.P w = .ok vs.toArray w := by
    rw [Array.mapM_eq_mapM_toList, Sem.run_map, h1]; rfl
  refine ⟨vs, ?_, h2, h3, h4⟩
  have e2 : packV vs = if h : vs.toArray.size = 1 then vs.toArray[0] else .tuple vs.toArray := by
    match vs with
    | [] => rfl
    | [v] => rfl
    | v :: v' :: vs =>
      rw [dif_neg (by simp)]; rfl
  rw [e2]
  unfold results
  rw [Sem.run_bind]
  exact congrArg (fun r => Result.andThen r fun (a : Array Value) w' => Result.ok (if h : a.size = 1 then a[0] else Value.tuple a) w') hm

/-- The frame of a callee at its beginning. -/
theorem start_tmp {Q' : Value → D → Prop} {n : Nat} {vals : List Value} {args : List D} {blks : List (Option (List D))} (hl : vals.length = args.length) (hn : args.length ≤ n)
    (h1 : ∀ i (h : i < vals.length) (h' : i < args.length), Q' vals[i] args[i]) (h2 : Q' undef (.lit undef)) (h3 : Q' undef .any) (t : Nat) :
    Q' ((vals.toArray ++ Array.replicate (n - vals.toArray.size) undef).getD t undef) ((startS n args blks).fs.tmp t) := by
  show Q' _ ((args ++ List.replicate (n - args.length) (D.lit undef)).getD t .any)
  by_cases ht : t < args.length
  · have e1 : (args ++ List.replicate (n - args.length) (D.lit undef)).getD t .any = args[t] := by simp [List.getD_eq_getElem?_getD, List.getElem?_append_left ht, ht]
    have e2 : (vals.toArray ++ Array.replicate (n - vals.toArray.size) undef).getD t undef = vals[t] := by
      have : t < vals.length := by omega
      simp [Array.getD_eq_getD_getElem?, Array.getElem?_append, this]
    rw [e1, e2]
    exact h1 t (by omega) ht
  · have e2 : (vals.toArray ++ Array.replicate (n - vals.toArray.size) undef).getD t undef = undef := by
      have : ¬ t < vals.length := by omega
      simp [Array.getD_eq_getD_getElem?, Array.getElem?_append, this, Array.getElem?_replicate]
      split <;> rfl
    rw [e2]
    by_cases h2' : t < n
    · have e1 : (args ++ List.replicate (n - args.length) (D.lit undef)).getD t .any = .lit undef := by
        rw [List.getD_eq_getElem?_getD, List.getElem?_append_right (by omega), List.getElem?_replicate, if_pos (by omega)]; rfl
      rw [e1]; exact h2
    · have e1 : (args ++ List.replicate (n - args.length) (D.lit undef)).getD t .any = .any := by
        rw [List.getD_eq_getElem?_getD, List.getElem?_append_right (by omega), List.getElem?_replicate, if_neg (by omega)]; rfl
      rw [e1]; exact h3
theorem start_ref {n : Nat} {args : List D} {blks : List (Option (List D))} {p : Nat → Prop} (h : ∀ d ∈ args, ∀ b, d.ref = some b → p b) : ∀ t b, ((startS n args blks).fs.tmp t).ref = some b → p b := by
  intro t b hb
  have hb' : ((args ++ List.replicate (n - args.length) (D.lit undef)).getD t .any).ref = some b := hb
  by_cases ht : t < args.length
  · have e1 : (args ++ List.replicate (n - args.length) (D.lit undef)).getD t .any = args[t] := by simp [List.getD_eq_getElem?_getD, List.getElem?_append_left ht, ht]
    rw [e1] at hb'
    exact h _ (List.getElem_mem _) b hb'
  · rw [List.getD_eq_getElem?_getD, List.getElem?_append_right (by omega), List.getElem?_replicate] at hb'
    split at hb' <;> simp [D.ref] at hb'
theorem start_len {n : Nat} {args : List D} {blks : List (Option (List D))} (h : args.length ≤ n) : (startS n args blks).tmps.length = n := by simp [startS]; omega

/-- A callee that is run in place. -/
theorem inlOf_ok {g : Runner P Good} (hg : ∀ ro gb k s tr e s' tr' eqs, g ro gb k s tr = some (e, s', tr', eqs) → Agree eqs → Shows P Good gb k s e s') : InlOk P Good (inlOf P g) := by
  intro ro fn args blks tr d blks' tr' eqs h he
  unfold inlOf at h
  split at h
  · rename_i k hk
    split at h
    · rename_i hle
      rw [Nat.ble_eq] at hle
      have key : ∀ e s ds, g ro blks.length k (startS fn.ntmps args blks) tr = some (e, s, tr', eqs) → (e = .normal ∨ e = .ret) → resultsD P s fn.results.toList = some ds →
          (ds.length == 1 || ds.all (fun d => d.ref.isNone)) = true → Inl P Good fn args blks (packD ds) s.blks := by
        intro e s ds hr hend hds hpure f hf c w β X vals q1 q2 q3 q4 hrel hvl hreps hlive
        subst q1
        have hs := hg _ _ _ _ _ _ _ _ _ hr he
        have hlen := start_len (blks := blks) hle
        refine calls_of_wp hf hk ?_
        refine hs.2 c _ _ w rfl q2 q3 q4 ⟨β, X, rfl, ?_, fun t => ?_, ?_, hrel.blk, hrel.inj, hrel.F, hrel.Flt, hrel.Xlt, hrel.below, hrel.gh, hrel.ghnd⟩ fun a' w' h' => ?_
        · rw [hlen]; simp; omega
        · exact start_tmp (Q' := fun v d => RepV β w X v d) hvl hle hreps (.p (.lit _)) (.p (.any _)) t
        · exact start_ref (p := fun b => (((startS fn.ntmps args blks).fs).blk b).isSome = true) hlive
        · obtain ⟨β', X', hB⟩ := h'
          obtain ⟨vs, h1, h2, h3, h4⟩ := results_run hB hds
          have hpost : a'.defers = [] ∧ ∃ v, (results fn a'.tmps).run c.P w' = .ok v w' ∧ (∃ v' β' X', Ending.returned v = .returned v' ∧ RelB c 0 ⟨fun _ => .any, fun b => s.blks.getD b none⟩ ⟨#[], []⟩ w' β' X' ∧ RepV β' w' X' v' (packD ds) ∧
              ∀ b, (packD ds).ref = some b → (s.blks.getD b none).isSome = true) := by
            refine ⟨hB.defers, packV vs, h1, packV vs, β', X', rfl, ⟨rfl, rfl, fun t => .p (.any _), fun t b hb => by simp [D.ref] at hb, hB.blk, hB.inj, hB.F, hB.Flt, hB.Xlt, hB.below, hB.gh, hB.ghnd⟩, ?_⟩
            by_cases hone : ds.length = 1
            · obtain ⟨d, rfl⟩ := List.length_eq_one_iff.1 hone
              obtain ⟨v, rfl⟩ := List.length_eq_one_iff.1 (h2.trans hone)
              exact ⟨h3 0 (by simp) (by simp), h4 d (by simp)⟩
            · have hall : ∀ d ∈ ds, d.ref = none := by
                simp only [Bool.or_eq_true, beq_iff_eq, hone, false_or, List.all_eq_true] at hpure
                intro d hd
                simpa using hpure d hd
              have hreps : Reps w' X' vs ds := ⟨h2, fun i hi hi' => (h3 i hi hi').pure (hall _ (List.getElem_mem _))⟩
              have := pack_reps hreps
              exact ⟨.p this, fun b hb => by rw [repP_ref this] at hb; cases hb⟩
          rcases hend with rfl | rfl <;> exact hpost
      split at h
      · rename_i s tr2 eqs2 hr
        split at h
        · rename_i ds hds
          split at h
          · rename_i hp
            simp only [Option.some.injEq, Prod.mk.injEq] at h
            obtain ⟨rfl, rfl, rfl, rfl⟩ := h
            exact key _ _ _ hr (.inl rfl) hds hp
          · cases h
        · cases h
      · rename_i s tr2 eqs2 hr
        split at h
        · rename_i ds hds
          split at h
          · rename_i hp
            simp only [Option.some.injEq, Prod.mk.injEq] at h
            obtain ⟨rfl, rfl, rfl, rfl⟩ := h
            exact key _ _ _ hr (.inr rfl) hds hp
          · cases h
        · cases h
      · cases h
    · cases h
  · cases h

theorem runC_sound (hG : Steady Good) : ∀ (m : Nat) (ro : List Nat) (gb : Nat) (k : Code) (s : St) (tr : List (Item P Good)) (e : XEnd) (s' : St) (tr' : List (Item P Good)) (eqs : List (Got × Got)),
    runC P m ro gb k s tr = some (e, s', tr', eqs) → Agree eqs → Shows P Good gb k s e s'
  | 0, ro, gb, k, s, tr, e, s', tr', eqs, h, _ => by simp [runC] at h
  | m + 1, ro, gb, k, s, tr, e, s', tr', eqs, h, he => by
    have ih := runC_sound hG m
    unfold runC at h
    split at h
    · rename_i b tr1
      split at h
      · rename_i cs hcs
        split at h
        · rename_i hle
          rw [Nat.ble_eq] at hle
          split at h
          · rename_i e2 s2 tr2 eqs2 h2
            simp only [Option.some.injEq, Prod.mk.injEq] at h
            obtain ⟨rfl, rfl, rfl, rfl⟩ := h
            obtain ⟨l1, w1⟩ := ih _ _ _ _ _ _ _ _ _ h2 (fun x hx => he x (List.mem_cons_of_mem _ hx))
            have hl : (s.freeze b cs).tmps.length = s.tmps.length := by simp [St.freeze]
            rw [hl] at l1 w1
            refine ⟨l1, fun c Q a w q1 q2 q3 qg q4 q5 => w1 c Q a w q1 q2 q3 qg ?_ q5⟩
            obtain ⟨β, X, hB⟩ := q4
            rw [freeze_fs hcs]
            exact ⟨β, _, hB.freeze (b := b) hcs (by omega)⟩
          · cases h
        · cases h
      · cases h
    · split at h
      · simp only [Option.some.injEq, Prod.mk.injEq] at h
        obtain ⟨rfl, rfl, rfl, rfl⟩ := h
        exact ⟨rfl, fun c Q a w _ _ _ _ h4 h5 => wp_skip (h5 a w h4)⟩
      · simp only [Option.some.injEq, Prod.mk.injEq] at h
        obtain ⟨rfl, rfl, rfl, rfl⟩ := h
        exact ⟨rfl, fun c Q a w _ _ _ _ h4 h5 => wp_ret (h5 a w h4)⟩
      · simp only [Option.some.injEq, Prod.mk.injEq] at h
        obtain ⟨rfl, rfl, rfl, rfl⟩ := h
        exact ⟨rfl, fun c Q a w _ _ _ _ h4 h5 => wp_exit (h5 a w h4)⟩
      · rename_i x y
        split at h
        · rename_i s1 tr1 e1 h1
          split at h
          · rename_i e2' s2 tr2 e2 h2
            simp only [Option.some.injEq, Prod.mk.injEq] at h
            obtain ⟨rfl, rfl, rfl, rfl⟩ := h
            obtain ⟨he1, he2⟩ := he.append
            obtain ⟨l1, w1⟩ := ih _ _ _ _ _ _ _ _ _ h1 he1
            obtain ⟨l2, w2⟩ := ih _ _ _ _ _ _ _ _ _ h2 he2
            refine ⟨by omega, fun c Q a w q1 q2 q3 qg q4 q5 => wp_seq ?_⟩
            exact w1 c _ a w q1 q2 q3 qg q4 fun a' w' h' => w2 c Q a' w' q1 q2 q3 qg (by rw [l1]; exact h') (by rw [l1]; exact q5)
          · cases h
        · rename_i hne
          obtain ⟨l1, w1⟩ := ih _ _ _ _ _ _ _ _ _ h he
          refine ⟨l1, fun c Q a w q1 q2 q3 qg q4 q5 => wp_seq ?_⟩
          refine w1 c _ a w q1 q2 q3 qg q4 fun a' w' h' => ?_
          have := q5 a' w' h'
          cases e with
          | normal => exact absurd h (hne _ _ _)
          | exit id => exact this
          | ret => exact this
      · rename_i x k1 k2
        split at h
        · rename_i hx
          obtain ⟨l1, w1⟩ := ih _ _ _ _ _ _ _ _ _ h he
          refine ⟨l1, fun c Q a w q1 q2 q3 qg q4 q5 => wp_cond_true ?_ (w1 c Q a w q1 q2 q3 qg q4 q5)⟩
          obtain ⟨β, X, hB⟩ := q4
          exact ev_val hB (by rw [hx]; rfl)
        · rename_i hx
          obtain ⟨l1, w1⟩ := ih _ _ _ _ _ _ _ _ _ h he
          refine ⟨l1, fun c Q a w q1 q2 q3 qg q4 q5 => wp_cond_false ?_ (w1 c Q a w q1 q2 q3 qg q4 q5)⟩
          obtain ⟨β, X, hB⟩ := q4
          exact ev_val hB (by rw [hx]; rfl)
        · cases h
      · rename_i id x
        split at h
        · rename_i id' s1 tr1 e1 h1
          split at h
          · rename_i hid
            simp only [beq_iff_eq] at hid
            subst hid
            simp only [Option.some.injEq, Prod.mk.injEq] at h
            obtain ⟨rfl, rfl, rfl, rfl⟩ := h
            obtain ⟨l1, w1⟩ := ih _ _ _ _ _ _ _ _ _ h1 he
            refine ⟨l1, fun c Q a w q1 q2 q3 qg q4 q5 => wp_block ?_⟩
            refine w1 c _ a w q1 q2 q3 qg q4 fun a' w' h' => ?_
            show (if id' = id' then Q .normal a' w' else Q (.exit id') a' w')
            rw [if_pos rfl]; exact q5 a' w' h'
          · rename_i hid
            simp only [Option.some.injEq, Prod.mk.injEq] at h
            obtain ⟨rfl, rfl, rfl, rfl⟩ := h
            obtain ⟨l1, w1⟩ := ih _ _ _ _ _ _ _ _ _ h1 he
            refine ⟨l1, fun c Q a w q1 q2 q3 qg q4 q5 => wp_block ?_⟩
            refine w1 c _ a w q1 q2 q3 qg q4 fun a' w' h' => ?_
            show (if id' = id then Q .normal a' w' else Q (.exit id') a' w')
            rw [if_neg (by simpa using hid)]; exact q5 a' w' h'
        · rename_i hne
          obtain ⟨l1, w1⟩ := ih _ _ _ _ _ _ _ _ _ h he
          refine ⟨l1, fun c Q a w q1 q2 q3 qg q4 q5 => wp_block ?_⟩
          refine w1 c _ a w q1 q2 q3 qg q4 fun a' w' h' => ?_
          have := q5 a' w' h'
          cases e with
          | normal => exact this
          | exit id => exact absurd h (hne _ _ _ _)
          | ret => exact this
      · rename_i id ops draw
        split at h
        · rename_i s1 tr1 eqs1 recs h1
          split at h
          · rename_i hd
            split at h
            · rename_i hck
              simp only [Bool.and_eq_true] at hck
              simp only [Option.some.injEq, Prod.mk.injEq] at h
              obtain ⟨rfl, rfl, rfl, rfl⟩ := h
              refine ⟨runOps_len _ _ _ _ _ _ _ h1, fun c Q a w q1 q2 q3 qg q4 q5 => ?_⟩
              subst hd
              exact draw_sound (inlOf_ok ih) qg q1 q2 hG q3 hck.1 h1 he hck.2 q4 q5
            · cases h
          · rename_i hd
            have hd' : draw = false := by simpa using hd
            subst hd'
            simp only [Option.some.injEq, Prod.mk.injEq] at h
            obtain ⟨rfl, rfl, rfl, rfl⟩ := h
            exact ⟨runOps_len _ _ _ _ _ _ _ h1, fun c Q a w q1 q2 q3 qg q4 q5 => wp_region_list (runOps_sound (inlOf_ok ih) q1 q2 hG q3 qg _ _ _ _ _ _ _ a w h1 he q4 q5)⟩
        · cases h
      · rename_i x
        unfold runLoop at h
        split at h
        · rename_i n gb' k' l bl e' s2 habs tr2 _
          split at h
          · rename_i hok
            simp only [Bool.and_eq_true, beq_iff_eq] at hok
            simp only [Option.some.injEq, Prod.mk.injEq] at h
            obtain ⟨rfl, rfl, rfl, rfl⟩ := h
            have hag := he _ (List.mem_cons_self ..)
            simp only [Got.code.injEq] at hag
            obtain ⟨rfl, rfl, rfl, g1, g2⟩ := hag
            refine ⟨hok.2, fun c Q a w q1 q2 q3 qg q4 q5 => ?_⟩
            have q6 := q4.mask qg hok.1
            rw [mask_lay rfl g1 g2] at q6
            refine habs c Q a w q1 q2 q3 qg q6 fun a' w' h' => ?_
            have := q5 a' w' h'
            cases e' <;> exact this
          · cases h
        · obtain ⟨l1, n1, w1⟩ := iter_sound (fun s tr e s' tr' eqs hh ha => ih ro gb x s tr e s' tr' eqs hh ha) m s tr e s' tr' eqs h he
          exact ⟨l1, fun c Q a w q1 q2 q3 qg q4 q5 => wp_loop_rounds m (w1 c Q a w q1 q2 q3 qg q4 q5)⟩
      · cases h

/-! ### From runs to contracts. -/
def Item.says : Item P Good → Got
  | .call (f := f) (args := args) _ => .call f args
  | .eq _ (d := d) _ => .d d
  | .prop (p := p) _ => .p p
  | .code (n := n) (gb := gb) (k := k) (l := l) (bl := bl) _ => .code k n gb (l.map (·.2)) (bl.map fun p => some p.2)
  | .callN (f := f) (args := args) _ => .call f args
  | .inl _ (f := f) _ => .call f []
  | .freeze _ => .p True
def said (tr : List (Item P Good)) : List (Got × Got) := tr.map fun i => (i.says, i.says)
theorem agree_said (tr : List (Item P Good)) : Agree (said tr) := by
  intro e he
  simp only [said, List.mem_map] at he
  obtain ⟨i, _, rfl⟩ := he
  rfl

theorem Abs.of_run (hG : Steady Good) {ro : List Nat} {gb m : Nat} {k : Code} {s s' : St} {e : XEnd} (tr : List (Item P Good)) (h : runC P m ro gb k s tr = some (e, s', [], said tr)) :
    Abs P Good s.tmps.length gb k s e s' := shows_abs (runC_sound hG m ro gb k s tr e s' [] _ h (agree_said tr))
theorem Shows.of_run (hG : Steady Good) {ro : List Nat} {gb m : Nat} {k : Code} {s s' : St} {e : XEnd} (tr : List (Item P Good)) (h : runC P m ro gb k s tr = some (e, s', [], said tr)) :
    Shows P Good gb k s e s' := runC_sound hG m ro gb k s tr e s' [] _ h (agree_said tr)

/-- A function's run. -/
def runFn (P : Program) {Good : World → Prop} (ro : List Nat) (m : Nat) (fn : Func) (args : List D) (tr : List (Item P Good)) : Option (D × List (Item P Good) × List (Got × Got)) :=
  match fn.body with
  | some k => if Nat.ble args.length fn.ntmps then
      match runC P m ro 0 k (startS fn.ntmps args []) tr with
      | some (.normal, s, tr', eqs) | some (.ret, s, tr', eqs) => match resultsD P s fn.results.toList with
        | some ds => some (packD (ds.map (D.rowOf s.fs.blk)), tr', eqs)
        | none => none
      | _ => none
    else none
  | none => none

/-- ████ A contract off a run. -/
theorem Spec.of_run (hG : Steady Good) {f : FuncId} {fn : Func} (hf : P.funcs[f]? = some fn) {ro : List Nat} {m : Nat} {args : List D} {r : D} (tr : List (Item P Good))
    (h : runFn P ro m fn args tr = some (r, [], said tr)) : Spec P Good f args r := by
  intro w F vals hgood hargs hF
  unfold runFn at h
  split at h
  · rename_i k hk
    split at h
    · rename_i hle
      rw [Nat.ble_eq] at hle
      have key : ∀ e s, runC P m ro 0 k (startS fn.ntmps args []) tr = some (e, s, [], said tr) → (e = .normal ∨ e = .ret) → (∃ ds, resultsD P s fn.results.toList = some ds ∧ packD (ds.map (D.rowOf s.fs.blk)) = r) →
          Calls P f vals.toArray w fun e w' => ∃ v, e = .returned v ∧ RepP w' F v r ∧ Below w.heap.size w w' ∧ Good w' := by
        intro e s hr he hres
        obtain ⟨ds, hds, rfl⟩ := hres
        have hs := runC_sound hG m ro 0 k _ tr e s [] _ hr (agree_said tr)
        have hlen := start_len (blks := []) hle
        refine calls_of_wp hf hk ?_
        let c : Ctx := ⟨P, Good, F, w, [], 0⟩
        have hnone : ∀ b, (startS fn.ntmps args []).fs.blk b = none := fun b => by simp [startS, St.fs]
        refine hs.2 c _ _ w rfl rfl hgood (Nat.le_refl _) ⟨fun _ => 0, F, rfl, ?_, fun t => ?_, ?_, fun b cs hb => ?_, fun b b' hb => ?_, fun _ h => h, hF, hF, Below.refl _ _, fun p hp => ?_, fun p hp => ?_⟩ fun a' w' hrel => ?_
        · rw [hlen]; have := hargs.1; simp; omega
        · exact start_tmp (Q' := fun v d => RepV (fun _ => 0) w F v d) hargs.1 hle (fun i h1 h2 => .p (hargs.2 i h1 h2)) (.p (.lit _)) (.p (.any _)) t
        · refine start_ref fun d hd b hb => ?_
          obtain ⟨i, hi, rfl⟩ := List.mem_iff_getElem.1 hd
          rw [repP_ref (hargs.2 i (by rw [hargs.1]; exact hi) hi)] at hb; cases hb
        · rw [hnone] at hb; cases hb
        · rw [hnone] at hb; cases hb
        · cases hp
        · cases hp
        · obtain ⟨β, X, hB⟩ := hrel
          obtain ⟨vs, h1, h2, h3, h4⟩ := results_run (c := c) hB hds
          have hreps : Reps w' F vs (ds.map (D.rowOf s.fs.blk)) := by
            refine ⟨by simpa using h2, fun i hi hi' => ?_⟩
            rw [List.getElem_map]
            have hi2 : i < ds.length := by rw [← h2]; exact hi
            refine rowOf_rep hB (h3 i hi hi2) hB.F fun b hb k hk he => ?_
            obtain ⟨cs, hcs⟩ := Option.isSome_iff_exists.1 (h4 _ (List.getElem_mem _) b hb)
            have h5 := (hB.blk b cs hcs).1
            have h6 := hB.Flt k hk
            omega
          have hpost : a'.defers = [] ∧ ∃ v, (results fn a'.tmps).run P w' = .ok v w' ∧ (∃ v', Ending.returned v = .returned v' ∧ RepP w' F v' (packD (ds.map (D.rowOf s.fs.blk))) ∧ Below w.heap.size w w' ∧ Good w') :=
            ⟨hB.defers, packV vs, h1, packV vs, rfl, pack_reps hreps, hB.below, hB.good hG hgood⟩
          rcases he with rfl | rfl <;> exact hpost
      split at h
      · rename_i s tr' eqs hr
        split at h
        · rename_i ds hds
          simp only [Option.some.injEq, Prod.mk.injEq] at h
          obtain ⟨rfl, rfl, rfl⟩ := h
          exact key _ _ hr (.inl rfl) ⟨ds, hds, rfl⟩
        · cases h
      · rename_i s tr' eqs hr
        split at h
        · rename_i ds hds
          simp only [Option.some.injEq, Prod.mk.injEq] at h
          obtain ⟨rfl, rfl, rfl⟩ := h
          exact key _ _ hr (.inr rfl) ⟨ds, hds, rfl⟩
        · cases h
      · cases h
    · cases h
  · cases h

theorem slc_back {β : Nat → Nat} {w : World} {X : Nat → Prop} {v : Value} {b off len cap : Nat} (h : RepV β w X v (.slc b off len cap)) : v = .slice (some ⟨β b, off, none⟩) len cap ∧ cap ≤ maxLen := by
  cases h with
  | p hp => cases hp
  | slc _ _ _ _ _ h2 => exact ⟨rfl, h2⟩
/-- ████ The same where a slice over a new row of cells comes back. -/
theorem SpecN.of_run (hG : Steady Good) {f : FuncId} {fn : Func} (hf : P.funcs[f]? = some fn) {k : Code} (hk : fn.body = some k) {ro : List Nat} {m : Nat} {args : List D} {n : Nat} {cs : List D} {t : Tmp} (hle : args.length ≤ fn.ntmps) (hres : fn.results = #[.tmp t]) {e : XEnd} {b : Nat} (tr : List (Item P Good))
    (h : ((runC P m ro 0 k (startS fn.ntmps args []) tr).map fun o => (o.1, o.2.1.tmps.getD t .any, o.2.1.blks.getD b none, o.2.2.1, o.2.2.2)) = some (e, .slc b 0 n n, some cs, [], said tr)) (he : e = .normal ∨ e = .ret) : SpecN P Good f args n cs := by
  intro w F vals hgood hargs hF
  cases hr : runC P m ro 0 k (startS fn.ntmps args []) tr with
  | none => rw [hr] at h; cases h
  | some o =>
    obtain ⟨e1, s, tr1, eqs1⟩ := o
    rw [hr] at h
    simp only [Option.map_some, Option.some.injEq, Prod.mk.injEq] at h
    obtain ⟨rfl, hd, hc, rfl, rfl⟩ := h
    have hs := runC_sound hG m ro 0 k _ tr e1 s [] _ hr (agree_said tr)
    have hlen := start_len (blks := []) hle
    refine calls_of_wp hf hk ?_
    let c : Ctx := ⟨P, Good, F, w, [], 0⟩
    have hnone : ∀ b, (startS fn.ntmps args []).fs.blk b = none := fun b => by simp [startS, St.fs]
    refine hs.2 c _ _ w rfl rfl hgood (Nat.le_refl _) ⟨fun _ => 0, F, rfl, ?_, fun t => ?_, ?_, fun b cs hb => ?_, fun b b' hb => ?_, fun _ h => h, hF, hF, Below.refl _ _, fun p hp => ?_, fun p hp => ?_⟩ fun a' w' hrel => ?_
    · rw [hlen]; have := hargs.1; simp; omega
    · exact start_tmp (Q' := fun v d => RepV (fun _ => 0) w F v d) hargs.1 hle (fun i h1 h2 => .p (hargs.2 i h1 h2)) (.p (.lit _)) (.p (.any _)) t
    · refine start_ref fun d hd b hb => ?_
      obtain ⟨i, hi, rfl⟩ := List.mem_iff_getElem.1 hd
      rw [repP_ref (hargs.2 i (by rw [hargs.1]; exact hi) hi)] at hb; cases hb
    · rw [hnone] at hb; cases hb
    · rw [hnone] at hb; cases hb
    · cases hp
    · cases hp
    · obtain ⟨β, X, hB⟩ := hrel
      have hv := hB.tmp t
      have hd' : s.fs.tmp t = .slc b 0 n n := hd
      rw [hd'] at hv
      obtain ⟨q1, q2, us, ty, q3, q4, q5⟩ := hB.blk b cs hc
      have hpost : a'.defers = [] ∧ ∃ v, (results fn a'.tmps).run P w' = .ok v w' ∧ ∃ k us ty, Ending.returned v = .returned (.slice (some ⟨k, 0, none⟩) n n) ∧ n ≤ maxLen ∧ w.heap.size ≤ k ∧ w'.heap[k]? = some (.cells us ty (0, 0)) ∧ cs.length ≤ us.size ∧
          Reps w' (fun j => F j ∨ j = k) (us.toList.take cs.length) cs ∧ Below w.heap.size w w' ∧ Good w' := by
        have hds : resultsD c.P s fn.results.toList = some [.slc b 0 n n] := by rw [hres]; simp only [resultsD, resultD, hd]
        obtain ⟨vs, h1, h2, h3, h4⟩ := results_run (c := c) hB hds
        obtain ⟨v, rfl⟩ := List.length_eq_one_iff.1 h2
        have hv2 := h3 0 (by simp) (by simp)
        refine ⟨hB.defers, v, h1, β b, us, ty, ?_, ?_, q1, q3, q4, q5.mono (fun a u ha hx => ⟨ha, ?_⟩), hB.below, hB.good hG hgood⟩
        · have hv3 : RepV β w' X v (.slc b 0 n n) := hv2
          rw [(slc_back hv3).1]
        · exact (slc_back hv).2
        · rintro (hx2 | hx2)
          · exact hx (hB.F _ hx2)
          · exact hx (by rw [hx2]; exact q2)
      rcases he with rfl | rfl <;> exact hpost

/-- ████ A loop: 'inv' are the frames at the heads of rounds; each round comes to another head that is nearer, or leaves. -/
theorem Shows.loop {ι : Type} {gb : Nat} {body : Code} (R : ι → Prop) (inv : ι → St) (μ : ι → Nat) {n : Nat} {e : XEnd} {s' : St} (hlen : ∀ i, (inv i).tmps.length = n) (he : e ≠ .normal)
    (round : ∀ i, R i → (∃ j s1 kT kB, R j ∧ μ j < μ i ∧ Shows P Good gb body (inv i) .normal s1 ∧ maskOk gb kT kB s1 = true ∧ (s1.mask kT kB).fs = (inv j).fs) ∨
      (∃ s1 kT kB, Shows P Good gb body (inv i) e s1 ∧ maskOk gb kT kB s1 = true ∧ (s1.mask kT kB).fs = s'.fs)) (i : ι) (hi : R i) : Abs P Good n gb (.loop body) (inv i) e s' := by
  intro c Q a w h1 h2 h3 hg h4 h5
  have hend : ∀ a' w', Rel c n s'.fs a' w' → Q e.toExit a' w' := fun a' w' h' => by have := h5 a' w' h'; cases e <;> exact this
  refine wp_loop_ghost (fun k a w => ∃ i, μ i = k ∧ R i ∧ Rel c n (inv i).fs a w) (μ i) ⟨i, rfl, hi, h4⟩ fun k a w hk => ?_
  obtain ⟨i, rfl, hi, h4⟩ := hk
  rcases round i hi with ⟨j, s1, kT, kB, hj, hlt, hsh, hok, hm⟩ | ⟨s1, kT, kB, hsh, hok, hm⟩
  · refine hsh.2 c _ a w h1 h2 h3 hg (by rw [hlen]; exact h4) fun a' w' h' => ?_
    rw [hlen] at h'
    exact ⟨μ j, hlt, j, rfl, hj, by rw [← hm]; exact h'.mask hg hok⟩
  · refine hsh.2 c _ a w h1 h2 h3 hg (by rw [hlen]; exact h4) fun a' w' h' => ?_
    rw [hlen] at h'
    have := hend a' w' (by rw [← hm]; exact h'.mask hg hok)
    cases e with
    | normal => exact absurd rfl he
    | exit id => exact this
    | ret => exact this
end Lw
