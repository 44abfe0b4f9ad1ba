/- Regions whose order is open: every order that the edges allow comes to the frame of the text's order, if 'drawOk' says so. No condition. -/
import Derived.Test.YtfdllnbmjlhliaaGreatDoorLwF
import Derived.Orders
namespace Lw
open Go Go.RowKit

variable {P : Program} {Good : World → Prop}

/-! ### The effect of an operation depends on what it looks at alone. -/
theorem map_ev_congr {ρ ρ' : Operand → D} {l : List Operand} (h : ∀ x ∈ l, ρ x = ρ' x) : l.map ρ = l.map ρ' := List.map_congr_left h
theorem parts_congr {ρ ρ' : Operand → D} {l : List (Nat × Operand)} (h : ∀ x ∈ l.map (·.2), ρ x = ρ' x) : (l.map fun p => (p.1, ρ p.2)) = l.map fun p => (p.1, ρ' p.2) :=
  List.map_congr_left fun p hp => by rw [h p.2 (List.mem_map_of_mem hp)]
theorem eff_congr {o : Oper} {ρ ρ' : Operand → D} {blk blk' : Nat → Option (List D)} {nb : Nat} {ro : Bool} {gb : Nat} (hρ : ∀ x ∈ o.op.operands.toList, ρ x = ρ' x)
    (hb : ∀ b, accOf o ρ = some b → blk b = blk' b) (hap : ∀ k b n sz rest, o.op = .call k → k.callee = .builtin .append → k.args.toList.map ρ ≠ .gsl b n sz :: rest) :
    eff P o ρ blk nb ro gb = eff P o ρ' blk' nb ro gb := by
  unfold eff
  cases hop : o.op <;> simp only [hop, Op.operands] at hρ <;> try dsimp only
  case move x => rw [hρ x (by simp)]
  case assign x => rw [hρ x (by simp)]
  case pick k x y => rw [hρ k (by simp), hρ x (by simp), hρ y (by simp)]
  case box t x => rw [hρ x (by simp)]
  case build t parts => rw [parts_congr (by simpa using hρ)]
  case buildSlice t len parts => rw [parts_congr (by simpa using hρ)]
  case load t x =>
    have hx := hρ x (by simp)
    rw [← hx]
    cases hpx : ρ x with
    | ptr b off => have e := hb b (by simp [accOf, hop, hpx]); simp only [e]
    | _ => rfl
  case store t x y =>
    have hx := hρ x (by simp)
    rw [← hx, ← hρ y (by simp)]
    cases hpx : ρ x with
    | ptr b off =>
      have e := hb b (by simp [accOf, hop, hpx])
      cases (ρ y).cells with
      | none => rfl
      | some ds => cases tySize P t with
        | none => rfl
        | some sz => simp only [e]
    | _ => rfl
  case binOp op t x y u => rw [hρ x (by simp), hρ y (by simp)]
  case unOp op t x => rw [hρ x (by simp)]
  case convert t u x => rw [hρ x (by simp)]
  case makeInterface t x => rw [hρ x (by simp)]
  case typeAssert x t u ok => rw [hρ x (by simp)]
  case fieldAddr t x f => rw [hρ x (by simp)]
  case field t x f => rw [hρ x (by simp)]
  case indexAddr t x ix => rw [hρ x (by simp), hρ ix (by simp)]
  case index t x ix => rw [hρ x (by simp), hρ ix (by simp)]
  case extract x i => rw [hρ x (by simp)]
  case makeSlice t l k => rw [hρ l (by simp), hρ k (by simp)]
  case slice t x lo hi mx =>
    cases mx with
    | some m => rfl
    | none =>
      have hx := hρ x (by simp)
      cases lo with
      | none => cases hi with
        | none => simp only [hx]
        | some hi => have h1 := hρ hi (by simp); simp only [hx, h1]
      | some lo =>
        have h0 := hρ lo (by simp)
        cases hi with
        | none => simp only [hx, h0]
        | some hi => have h1 := hρ hi (by simp); simp only [hx, h0, h1]
  case call k =>
    simp only [Call.operands] at hρ
    have ha : k.args.toList.map ρ = k.args.toList.map ρ' := map_ev_congr fun x hx => hρ x (by simp; exact .inr (by simpa using hx))
    have hap' := fun b n sz rest => hap k b n sz rest hop
    rw [ha] at hap' ⊢
    cases hk : k.callee with
    | value f => have := hρ f (by simp [hk]); simp only [this]
    | invoke r m => rfl
    | builtin b =>
      cases b <;> try rfl
      case append =>
        have hap2 := fun b n sz rest => hap' b n sz rest hk
        generalize k.args.toList.map ρ' = l at hap2
        generalize k.argTypes.toList = ts
        match l, ts, hap2 with
        | [], _, _ => rfl
        | [x], _, _ => rfl
        | [x, y], [], _ => cases y <;> rfl
        | [x, y], [t], _ => cases y <;> rfl
        | [x, y], t :: t' :: t'' :: r, _ => cases y <;> rfl
        | [x, y], [t, t'], hap2 =>
          cases y <;> try rfl
          case row m f ys =>
            cases x with
            | gsl b n sz => exact absurd rfl (hap2 b n sz _)
            | row _ full _ => cases full <;> rfl
            | _ => rfl
        | x :: y :: z :: r, [], _ => cases y <;> rfl
        | x :: y :: z :: r, [t], _ => cases y <;> rfl
        | x :: y :: z :: r, [t, t'], _ => cases y <;> rfl
        | x :: y :: z :: r, t :: t' :: t'' :: r', _ => cases y <;> rfl
theorem guard_congr {ops : Array Oper} {o : Oper} {tmp tmp' : Nat → D} (h : ∀ j want t, o.guard = some (j, want) → (ops[j]?).bind (·.dst) = some t → tmp t = tmp' t) :
    guardSays ops o tmp = guardSays ops o tmp' := by
  unfold guardSays
  split
  · rfl
  · rename_i j want hg
    split
    · rename_i t ht
      rw [h j want t hg ht]
    · rfl
theorem eff_congr' {o : Oper} {ρ ρ' : Operand → D} {blk blk' : Nat → Option (List D)} {nb : Nat} {ro : Bool} {gb : Nat} {E : Eff} {nd : Need} (hρ : ∀ x ∈ o.op.operands.toList, ρ x = ρ' x)
    (hb : ∀ b, accOf o ρ = some b → blk b = blk' b) (h : eff P o ρ blk nb ro gb = some (E, nd)) (hE : ∀ b cs d, E ≠ .grow b cs d) : eff P o ρ' blk' nb ro gb = some (E, nd) := by
  rw [← h]
  refine (eff_congr hρ hb fun k b n sz rest ho hk hl => ?_).symm
  unfold eff at h
  simp only [ho, hk, hl] at h
  repeat' split at h
  all_goals first | (cases h; done) | skip
  all_goals (rename_i hx _; first | (simp only [Option.some.injEq, Prod.mk.injEq] at h; exact hE _ _ _ h.1.symm) | (simp at hx; done) | skip)
  all_goals first | (simp only [Option.some.injEq, Prod.mk.injEq] at h; exact hE _ _ _ h.1.symm) | skip
theorem opRec_congr {inl : Inline P Good} {ops : Array Oper} {o : Oper} {ro : List Nat} {gb : Nat} {s s' : FS} {blks : List (Option (List D))} {tr tr' : List (Item P Good)} {R : Rec} {eqs : List (Got × Got)}
    (hg : ∀ j want t, o.guard = some (j, want) → (ops[j]?).bind (·.dst) = some t → s.tmp t = s'.tmp t)
    (hρ : ∀ x ∈ o.op.operands.toList, s.ev x = s'.ev x) (hb : ∀ b, accOf o s.ev = some b → s.blk b = s'.blk b)
    (h : opRec P inl ops o ro gb s blks tr = some (R, tr', eqs)) (hR : R.plain = true) : opRec P inl ops o ro gb s' blks tr = some (R, tr', eqs) := by
  unfold opRec at h ⊢
  rw [← guard_congr hg]
  split at h
  · rename_i hgd
    split at h
    · rename_i E nd hE
      split at h
      · rename_i tr1 eqs1 hn
        split at h
        · rename_i R2 tr2 eqs2 hm
          simp only [Option.some.injEq, Prod.mk.injEq] at h
          obtain ⟨rfl, rfl, rfl⟩ := h
          have hm' : meetEff inl s'.blk blks o.dst E tr1 = some (R2, tr2, eqs2) := by
            cases E with
            | call f args =>
              simp only [meetEff] at hm ⊢
              split at hm
              · split at hm
                · split at hm
                  · simp only [Option.some.injEq, Prod.mk.injEq] at hm; obtain ⟨rfl, -, -⟩ := hm; cases hR
                  · cases hm
                · rename_i hown; rw [if_neg hown]; exact hm
              · exact hm
              · split at hm
                · simp only [Option.some.injEq, Prod.mk.injEq] at hm; obtain ⟨rfl, -, -⟩ := hm; cases hR
                · cases hm
              · cases hm
            | val d => exact hm
            | new b cs d => exact hm
            | store b off ds => exact hm
            | grow b cs d => exact hm
          have hng : ∀ b cs d, E ≠ .grow b cs d := by
            rintro b cs d rfl
            simp only [meetEff, Option.some.injEq, Prod.mk.injEq] at hm
            obtain ⟨rfl, -, -⟩ := hm; cases hR
          simp only [eff_congr' hρ hb hE hng, hn, hm']
        · cases h
      · cases h
    · cases h
  · exact h
  · cases h

/-! ### Ancestors. -/
def depsOf (o : Oper) : List Nat := (o.after.toList.filter fun e => Region.binds .any e).map (·.on)
def ancOf (acc : List Nat) (ds : List Nat) : Nat := ds.foldl (fun s d => s ||| (2 ^ d ||| acc.getD d 0)) 0
def ancs : List Oper → List Nat → List Nat
  | [], acc => acc
  | o :: rest, acc => ancs rest (acc ++ [ancOf acc (depsOf o)])

theorem ancOf_bit (acc : List Nat) : ∀ (ds : List Nat) (z k : Nat), (ds.foldl (fun s d => s ||| (2 ^ d ||| acc.getD d 0)) z).testBit k = true → z.testBit k = true ∨ ∃ d ∈ ds, k = d ∨ (acc.getD d 0).testBit k = true
  | [], z, k, h => .inl h
  | d :: ds, z, k, h => by
    rcases ancOf_bit acc ds _ k h with h1 | ⟨e, he, h2⟩
    · rw [Nat.testBit_or, Nat.testBit_or, Bool.or_eq_true, Bool.or_eq_true] at h1
      rcases h1 with h1 | h1 | h1
      · exact .inl h1
      · rw [Nat.testBit_two_pow] at h1
        exact .inr ⟨d, by simp, .inl (by simpa using h1 : d = k).symm⟩
      · exact .inr ⟨d, by simp, .inr h1⟩
    · exact .inr ⟨e, by simp [he], h2⟩
/-- What every list of ancestors says. -/
def AncOk (l : List Oper) (acc : List Nat) : Prop :=
  acc.length ≤ l.length ∧ ∀ i (h : i < acc.length) (h' : i < l.length) k, (acc.getD i 0).testBit k = true → ∃ d ∈ depsOf l[i], k = d ∨ (d < i ∧ (acc.getD d 0).testBit k = true)
theorem ancs_ok (l : List Oper) : ∀ (rest : List Oper) (pre : List Oper) (acc : List Nat), l = pre ++ rest → acc.length = pre.length → AncOk l acc → (∀ i (h : i < l.length), ∀ d ∈ depsOf l[i], d < i) →
    AncOk l (ancs rest acc) ∧ (ancs rest acc).length = l.length
  | [], pre, acc, hl, hlen, hok, _ => ⟨hok, by rw [hl]; simpa [ancs] using hlen⟩
  | o :: rest, pre, acc, hl, hlen, hok, ht => by
    have hi : acc.length < l.length := by rw [hl, hlen]; simp
    have ho : l[acc.length] = o := by simp [hl, hlen]
    refine ancs_ok l rest (pre ++ [o]) _ (by rw [hl]; simp) (by simp [hlen]) ⟨by simp; omega, fun i h h' k hk => ?_⟩ ht
    have get : ∀ d, d < acc.length → (acc ++ [ancOf acc (depsOf o)]).getD d 0 = acc.getD d 0 := fun d hd => by simp [List.getD_eq_getElem?_getD, List.getElem?_append_left hd]
    by_cases hlt : i < acc.length
    · rw [get i hlt] at hk
      obtain ⟨d, hd, h1⟩ := hok.2 i hlt h' k hk
      refine ⟨d, hd, ?_⟩
      rcases h1 with h1 | ⟨h1, h2⟩
      · exact .inl h1
      · exact .inr ⟨h1, by rw [get d (by omega)]; exact h2⟩
    · have : i = acc.length := by simp at h; omega
      subst this
      have hg : (acc ++ [ancOf acc (depsOf o)]).getD acc.length 0 = ancOf acc (depsOf o) := by simp [List.getD_eq_getElem?_getD]
      rw [hg] at hk
      rcases ancOf_bit acc _ 0 k hk with h1 | ⟨d, hd, h1⟩
      · simp at h1
      · rw [ho]
        refine ⟨d, hd, ?_⟩
        rcases h1 with h1 | h1
        · exact .inl h1
        · have hdl := ht acc.length hi d (by rw [ho]; exact hd)
          exact .inr ⟨hdl, by rw [get d hdl]; exact h1⟩

/-- Closed under the edges: then closed under ancestors. -/
theorem anc_closed {l : List Oper} {acc : List Nat} (hok : AncOk l acc) (hlen : acc.length = l.length) {L : Nat → Bool} (hcl : ∀ j (h : j < l.length), L j = true → ∀ d ∈ depsOf l[j], L d = true)  : ∀ i (h : i < l.length), (∀ d ∈ depsOf l[i], L d = true) → ∀ k, (acc.getD i 0).testBit k = true → L k = true := by
  intro i
  induction i using Nat.strongRecOn with
  | _ i ih =>
    intro h hr k hk
    obtain ⟨d, hd, h1⟩ := hok.2 i (by omega) h k hk
    rcases h1 with h1 | ⟨h1, h2⟩
    · rw [h1]; exact hr d hd
    · exact ih d h1 (by omega) (hcl d (by omega) (hr d hd)) k h2

/-! ### The frame when some have been carried out. -/
def Rec.isNew : Rec → Nat → Bool
  | .new b' _ _, b => b' == b
  | .val _, _ => false
  | .store _ _ _, _ => false
  | .grow _ _ _, _ => false
  | .own _, _ => false
  | .inl _ _, _ => false
def Rec.isStore : Rec → Nat → Bool
  | .store b' _ _, b => b' == b
  | .val _, _ => false
  | .new _ _ _, _ => false
  | .grow _ _ _, _ => false
  | .own _, _ => false
  | .inl _ _, _ => false
def Rec.cs : Rec → List D
  | .new _ cs _ => cs
  | _ => []
def Rec.stored : Rec → List D → List D
  | .store _ off ds, cs => splice cs off ds
  | _, cs => cs
def sL (s0 : FS) (n m : Nat) (dst : Nat → Option Tmp) (R : Nat → Rec) (L : Nat → Bool) : FS where
  tmp := fun t => match (List.range m).find? (fun j => L j && (dst j == some t && Nat.blt t n)) with
    | some j => (R j).put
    | none => s0.tmp t
  blk := fun b =>
    let base := match (List.range m).find? (fun j => L j && (R j).isNew b) with
      | some j => some (R j).cs
      | none => s0.blk b
    (List.range m).foldl (fun c j => if L j && (R j).isStore b then c.map (R j).stored else c) base

theorem find_uniq {m : Nat} {p : Nat → Bool} {i : Nat} (hi : i < m) (hp : p i = true) (hu : ∀ j, j < m → p j = true → j = i) : (List.range m).find? p = some i := by
  cases h : (List.range m).find? p with
  | none =>
    have := List.find?_eq_none.1 h i (by simpa using hi)
    exact absurd hp this
  | some j =>
    have h1 := List.mem_of_find?_eq_some h
    have h2 := List.find?_some h
    rw [hu j (by simpa using h1) h2]
theorem find_none {m : Nat} {p : Nat → Bool} (h : ∀ j, j < m → p j = false) : (List.range m).find? p = none := by
  rw [List.find?_eq_none]
  intro x hx
  rw [h x (by simpa using hx)]; simp
theorem find_congr {m : Nat} {p q : Nat → Bool} (h : ∀ j, j < m → p j = q j) : (List.range m).find? p = (List.range m).find? q := by
  have : ∀ l : List Nat, (∀ j ∈ l, p j = q j) → l.find? p = l.find? q := by
    intro l hl
    induction l with
    | nil => rfl
    | cons x l ih => simp only [List.find?_cons, hl x (by simp), ih (fun j hj => hl j (by simp [hj]))]
  exact this _ fun j hj => h j (by simpa using hj)

theorem fold_congr {α : Type} {m : Nat} {p q : Nat → Bool} {f : Nat → α → α} {x : α} (h : ∀ j, j < m → p j = q j) :
    (List.range m).foldl (fun c j => if p j then f j c else c) x = (List.range m).foldl (fun c j => if q j then f j c else c) x := by
  induction m with
  | zero => rfl
  | succ m ih =>
    rw [List.range_succ, List.foldl_append, List.foldl_append, ih fun j hj => h j (by omega)]
    simp only [List.foldl_cons, List.foldl_nil, h m (by omega)]
theorem fold_none {α : Type} {m : Nat} {p : Nat → Bool} {f : Nat → α → α} {x : α} (h : ∀ j, j < m → p j = false) : (List.range m).foldl (fun c j => if p j then f j c else c) x = x := by
  induction m with
  | zero => rfl
  | succ m ih =>
    rw [List.range_succ, List.foldl_append, ih fun j hj => h j (by omega)]
    simp only [List.foldl_cons, List.foldl_nil, h m (by omega)]
    rfl
theorem fold_last {α : Type} {m i : Nat} {p q : Nat → Bool} {f : Nat → α → α} {x : α} (hi : i < m) (hp : p i = false) (hlow : ∀ j, j < m → p j = true → j < i) (hq : ∀ j, q j = (p j || j == i)) :
    (List.range m).foldl (fun c j => if q j then f j c else c) x = f i ((List.range m).foldl (fun c j => if p j then f j c else c) x) := by
  induction m with
  | zero => omega
  | succ m ih =>
    rw [List.range_succ, List.foldl_append, List.foldl_append]
    simp only [List.foldl_cons, List.foldl_nil]
    rcases Nat.lt_or_ge i m with h | h
    · rw [ih h fun j hj hpj => hlow j (by omega) hpj]
      have h1 : p m = false := by
        cases hh : p m with
        | false => rfl
        | true => have := hlow m (by omega) hh; omega
      have h2 : q m = false := by
        rw [hq, h1]
        have : (m == i) = false := by rw [beq_eq_false_iff_ne]; omega
        rw [this]; rfl
      rw [h1, h2]; rfl
    · have : i = m := by omega
      subst this
      have h2 : q i = true := by rw [hq]; simp
      rw [h2, hp]
      have : (List.range i).foldl (fun c j => if q j then f j c else c) x = (List.range i).foldl (fun c j => if p j then f j c else c) x := fold_congr fun j hj => by
        rw [hq]
        have : (j == i) = false := by rw [beq_eq_false_iff_ne]; omega
        rw [this, Bool.or_false]
      rw [this]; rfl
theorem fold_nothing {m : Nat} {p : Nat → Bool} {f : Nat → List D → List D} : (List.range m).foldl (fun c j => if p j then Option.map (f j) c else c) none = none := by
  induction m with
  | zero => rfl
  | succ m ih =>
    rw [List.range_succ, List.foldl_append, ih]
    simp only [List.foldl_cons, List.foldl_nil, Option.map_none]
    split <;> rfl

/-- The conditions. -/
structure DrawOk (s0 : FS) (m : Nat) (dst : Nat → Option Tmp) (reads : Nat → Tmp → Bool) (R : Nat → Rec) (acc : Nat → Option Nat) (anc : Nat → Nat → Bool) : Prop where
  cDst : ∀ i j t, i < m → j < m → dst i = some t → dst j = some t → i = j
  cStore : ∀ i j b, i < m → j < m → (R i).isStore b = true → (R j).isStore b = true → i = j ∨ (anc i j = true ∧ j < i) ∨ (anc j i = true ∧ i < j)
  cNew : ∀ i j b, i < m → j < m → (R i).isNew b = true → (R j).isNew b = true → i = j
  cFresh : ∀ i b, i < m → (R i).isNew b = true → s0.blk b = none
  cReads : ∀ i j t, i < m → j < m → reads i t = true → dst j = some t → j = i ∨ anc i j = true ∨ anc j i = true
  cStores : ∀ i j b, i < m → j < m → acc i = some b → (R j).isStore b = true → j = i ∨ anc i j = true ∨ anc j i = true
  cNews : ∀ i j b, i < m → j < m → acc i = some b → (R j).isNew b = true → anc i j = true
  cOwn : ∀ i b, i < m → (R i).isStore b = true → acc i = some b
  cPlain : ∀ i, i < m → (R i).plain = true

section step
variable {s0 : FS} {n m : Nat} {dst : Nat → Option Tmp} {reads : Nat → Tmp → Bool} {R : Nat → Rec} {acc : Nat → Option Nat} {anc : Nat → Nat → Bool}

/-- One more. -/
theorem sL_app (ok : DrawOk s0 m dst reads R acc anc) {L : Nat → Bool} {i : Nat} (hi : i < m) (hL : L i = false) (hcl : ∀ j, j < m → L j = true → ∀ k, anc j k = true → L k = true) :
    (sL s0 n m dst R L).app n (dst i) (R i) = sL s0 n m dst R (fun j => L j || j == i) := by
  have htmp : ∀ t, (sL s0 n m dst R (fun j => L j || j == i)).tmp t = if dst i = some t ∧ t < n then (R i).put else (sL s0 n m dst R L).tmp t := by
    intro t
    simp only [sL]
    by_cases hc : dst i = some t ∧ t < n
    · have hf : (List.range m).find? (fun j => (L j || j == i) && (dst j == some t && Nat.blt t n)) = some i := find_uniq hi (by simp [hc.1, hc.2]) (fun j hj hp => by
        simp only [Bool.and_eq_true, beq_iff_eq] at hp
        exact (ok.cDst i j t hi hj hc.1 hp.2.1).symm)
      rw [if_pos hc, hf]
    · rw [if_neg hc]
      congr 1
      refine find_congr fun j hj => ?_
      by_cases hji : j = i
      · subst hji
        have : (dst j == some t && Nat.blt t n) = false := by
          rw [Bool.and_eq_false_iff]
          by_cases h1 : dst j = some t
          · right
            have h2 : ¬ t < n := fun h2 => hc ⟨h1, h2⟩
            cases hb : Nat.blt t n with
            | false => rfl
            | true => rw [Nat.blt_eq] at hb; exact absurd hb h2
          · left; simpa using h1
        rw [this]; simp
      · have h9 : (j == i) = false := by simpa using hji
        simp only [h9, Bool.or_false]
  have hblk : ∀ b, (R i).isNew b = false → (R i).isStore b = false → (sL s0 n m dst R (fun j => L j || j == i)).blk b = (sL s0 n m dst R L).blk b := by
    intro b h1 h2
    simp only [sL]
    have e1 : (List.range m).find? (fun j => (L j || j == i) && (R j).isNew b) = (List.range m).find? (fun j => L j && (R j).isNew b) := find_congr fun j hj => by
      by_cases hji : j = i
      · subst hji; rw [h1]; simp
      · have h9 : (j == i) = false := by simpa using hji
        simp only [h9, Bool.or_false]
    rw [e1]
    exact fold_congr fun j hj => by
      by_cases hji : j = i
      · subst hji; rw [h2]; simp
      · have h9 : (j == i) = false := by simpa using hji
        simp only [h9, Bool.or_false]
  cases hR : R i with
  | grow b cs d => have := ok.cPlain i hi; rw [hR] at this; cases this
  | own d => have := ok.cPlain i hi; rw [hR] at this; cases this
  | inl bl d => have := ok.cPlain i hi; rw [hR] at this; cases this
  | val d =>
    have h1 : ∀ b, (R i).isNew b = false := fun b => by rw [hR]; rfl
    have h2 : ∀ b, (R i).isStore b = false := fun b => by rw [hR]; rfl
    have : (sL s0 n m dst R (fun j => L j || j == i)) = ⟨(sL s0 n m dst R (fun j => L j || j == i)).tmp, (sL s0 n m dst R (fun j => L j || j == i)).blk⟩ := rfl
    rw [this]
    simp only [FS.app, FS.put]
    congr 1
    · funext t; rw [htmp t, hR]; rfl
    · funext b; rw [hblk b (h1 b) (h2 b)]
  | new b0 cs d =>
    have hnost : ∀ j, j < m → (L j || j == i) = true → (R j).isStore b0 = false := by
      intro j hj hLj
      cases hs : (R j).isStore b0 with
      | false => rfl
      | true =>
        have ha := ok.cOwn j b0 hj hs
        have hanc := ok.cNews j i b0 hj hi ha (by rw [hR]; simp [Rec.isNew])
        by_cases hji : j = i
        · subst hji; rw [hR] at hs; simp [Rec.isStore] at hs
        · have hLj' : L j = true := by simpa [hji] using hLj
          have := hcl j hj hLj' i hanc
          rw [hL] at this; cases this
    have : (sL s0 n m dst R (fun j => L j || j == i)) = ⟨(sL s0 n m dst R (fun j => L j || j == i)).tmp, (sL s0 n m dst R (fun j => L j || j == i)).blk⟩ := rfl
    rw [this]
    simp only [FS.app, FS.put, FS.setBlk]
    congr 1
    · funext t; rw [htmp t, hR]; rfl
    · funext b
      by_cases hb : b = b0
      · subst hb
        rw [if_pos rfl]
        have hf : (List.range m).find? (fun j => (L j || j == i) && (R j).isNew b) = some i := find_uniq hi (by simp [hR, Rec.isNew]) (fun j hj hp => by
          simp only [Bool.and_eq_true] at hp
          exact (ok.cNew i j b hi hj (by rw [hR]; simp [Rec.isNew]) hp.2).symm)
        simp only [sL, hf, hR]
        rw [fold_none (fun j hj => by
            cases hq : (L j || j == i) with
            | false => rfl
            | true => simp [hnost j hj hq])]
        rfl
      · rw [if_neg hb, hblk b (by rw [hR]; simp [Rec.isNew, Ne.symm hb]) (by rw [hR]; rfl)]
  | store b0 off ds =>
    have : (sL s0 n m dst R (fun j => L j || j == i)) = ⟨(sL s0 n m dst R (fun j => L j || j == i)).tmp, (sL s0 n m dst R (fun j => L j || j == i)).blk⟩ := rfl
    rw [this]
    simp only [FS.app, FS.put, FS.setBlk]
    congr 1
    · funext t; rw [htmp t, hR]; rfl
    · funext b
      by_cases hb : b = b0
      · subst hb
        rw [if_pos rfl]
        have hlow : ∀ j, j < m → (L j && (R j).isStore b) = true → j < i := by
          intro j hj hp
          rw [Bool.and_eq_true] at hp
          rcases ok.cStore i j b hi hj (by rw [hR]; simp [Rec.isStore]) hp.2 with e | ⟨-, e⟩ | ⟨e, -⟩
          · subst e; rw [hL] at hp; cases hp.1
          · exact e
          · have := hcl j hj hp.1 i e
            rw [hL] at this; cases this
        have e1 : (List.range m).find? (fun j => (L j || j == i) && (R j).isNew b) = (List.range m).find? (fun j => L j && (R j).isNew b) := find_congr fun j hj => by
          by_cases hji : j = i
          · subst hji; rw [hR]; simp [Rec.isNew]
          · have h9 : (j == i) = false := by simpa using hji
            simp only [h9, Bool.or_false]
        simp only [sL, e1]
        rw [fold_last (p := fun j => L j && (R j).isStore b) (q := fun j => (L j || j == i) && (R j).isStore b) (f := fun j c => Option.map (R j).stored c) hi (by simp [hL]) hlow (fun j => by
          by_cases hji : j = i
          · subst hji; rw [hR]; simp [Rec.isStore]
          · have h9 : (j == i) = false := by simpa using hji
            simp only [h9, Bool.or_false])]
        rw [hR]; rfl
      · rw [if_neg hb, hblk b (by rw [hR]; rfl) (by rw [hR]; simp [Rec.isStore, Ne.symm hb])]

/-- What an operation looks at is the same, whoever else has been carried out, if all that it waits for has been. -/
theorem sL_tmp (ok : DrawOk s0 m dst reads R acc anc) {L L' : Nat → Bool} {i : Nat} (hi : i < m) (hL : L i = false) (hL' : L' i = false)
    (hr : ∀ k, anc i k = true → L k = true) (hr' : ∀ k, anc i k = true → L' k = true)
    (hcl : ∀ j, j < m → L j = true → ∀ k, anc j k = true → L k = true) (hcl' : ∀ j, j < m → L' j = true → ∀ k, anc j k = true → L' k = true) {t : Tmp} (ht : reads i t = true) :
    (sL s0 n m dst R L).tmp t = (sL s0 n m dst R L').tmp t := by
  simp only [sL]
  congr 1
  refine find_congr fun j hj => ?_
  by_cases hd : dst j = some t
  · rcases ok.cReads i j t hi hj ht hd with rfl | h | h
    · rw [hL, hL']
    · rw [hr j h, hr' j h]
    · have h1 : L j = false := by
        cases hq : L j with
        | false => rfl
        | true => have := hcl j hj hq i h; rw [hL] at this; cases this
      have h2 : L' j = false := by
        cases hq : L' j with
        | false => rfl
        | true => have := hcl' j hj hq i h; rw [hL'] at this; cases this
      rw [h1, h2]
  · have : (dst j == some t) = false := by simpa using hd
    rw [this]; simp
theorem sL_blk (ok : DrawOk s0 m dst reads R acc anc) {L L' : Nat → Bool} {i : Nat} (hi : i < m) (hL : L i = false) (hL' : L' i = false)
    (hr : ∀ k, anc i k = true → L k = true) (hr' : ∀ k, anc i k = true → L' k = true)
    (hcl : ∀ j, j < m → L j = true → ∀ k, anc j k = true → L k = true) (hcl' : ∀ j, j < m → L' j = true → ∀ k, anc j k = true → L' k = true) {b : Nat} (hb : acc i = some b) :
    (sL s0 n m dst R L).blk b = (sL s0 n m dst R L').blk b := by
  have e1 : (List.range m).find? (fun j => L j && (R j).isNew b) = (List.range m).find? (fun j => L' j && (R j).isNew b) := find_congr fun j hj => by
    cases hq : (R j).isNew b with
    | false => simp
    | true => have := ok.cNews i j b hi hj hb hq; rw [hr j this, hr' j this]
  simp only [sL]
  rw [e1]
  exact fold_congr fun j hj => by
    cases hq : (R j).isStore b with
    | false => simp
    | true =>
      rcases ok.cStores i j b hi hj hb hq with rfl | h | h
      · rw [hL, hL']
      · rw [hr j h, hr' j h]
      · have h1 : L j = false := by
          cases hq : L j with
          | false => rfl
          | true => have := hcl j hj hq i h; rw [hL] at this; cases this
        have h2 : L' j = false := by
          cases hq : L' j with
          | false => rfl
          | true => have := hcl' j hj hq i h; rw [hL'] at this; cases this
        rw [h1, h2]
theorem sL_fresh (ok : DrawOk s0 m dst reads R acc anc) {L : Nat → Bool} {i b : Nat} (hi : i < m) (hL : L i = false) (hb : (R i).isNew b = true) : (sL s0 n m dst R L).blk b = none := by
  have e1 : (List.range m).find? (fun j => L j && (R j).isNew b) = none := find_none fun j hj => by
    cases hq : (R j).isNew b with
    | false => simp
    | true => have := ok.cNew j i b hj hi hq hb; subst this; rw [hL]; rfl
  simp only [sL]
  rw [e1, ok.cFresh i b hi hb]
  exact fold_nothing
end step
end Lw
