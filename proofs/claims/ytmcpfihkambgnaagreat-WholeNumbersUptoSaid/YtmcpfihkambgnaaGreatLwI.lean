/- Runs of pieces of code, off the operations: regions, loops, callees. No condition. -/
import Derived.Test.YtmcpfihkambgnaaGreatLwE
namespace Lw
open Go Go.RowKit

variable {P : Program} {Good : World → Prop}

def readsOf (ops : Array Oper) (o : Oper) : List Tmp :=
  (o.op.operands.toList.filterMap fun | .tmp t => some t | _ => none) ++
    match o.guard with
    | some (j, _) => ((ops[j]?).bind (·.dst)).toList
    | none => []
structure Info where
  ix : Nat
  dst : Option Tmp
  reads : List Tmp
  rc : Rec
  acc : Option Nat
  anc : Nat
def infos (ops : Array Oper) : Nat → List Oper → List (Rec × Option Nat) → List Nat → List Info
  | i, o :: l, r :: rs, k :: ks => ⟨i, o.dst, readsOf ops o, r.1, r.2, k⟩ :: infos ops (i + 1) l rs ks
  | _, _, _, _ => []
def Info.lone (s0len : Nat) (x : Info) : Bool :=
  match x.rc with
  | .new b _ _ _ => Nat.ble s0len b
  | .store b _ _ _ _ => x.acc == some b
  | .val _ => true
  | .grow _ _ _ => false
  | .own _ => false
  | .inl _ _ _ => false
def Info.pair (x y : Info) : Bool :=
  (x.ix == y.ix ||
    ((match x.dst with | some t => !(y.dst == some t) | none => true) &&
     (match x.rc with | .store b _ _ _ _ => !(y.rc.isStore b) || ((x.anc.testBit y.ix && Nat.blt y.ix x.ix) || (y.anc.testBit x.ix && Nat.blt x.ix y.ix)) | .new b _ _ _ => !(y.rc.isNew b) | _ => true))) &&
  ((match y.dst with | some t => !(x.reads.contains t) | none => true) || (y.ix == x.ix || (x.anc.testBit y.ix || y.anc.testBit x.ix))) &&
  (match x.acc with
    | some b => (!(y.rc.isStore b) || (y.ix == x.ix || (x.anc.testBit y.ix || y.anc.testBit x.ix))) && (!(y.rc.isNew b) || x.anc.testBit y.ix)
    | none => true)
def topo : Nat → List Oper → Bool
  | _, [] => true
  | i, o :: l => (depsOf o).all (fun d => Nat.blt d i) && topo (i + 1) l
/-- How many of the first ones are so. -/
def leadL (p : Info → Bool) : List Info → Nat
  | [] => 0
  | x :: l => if p x then leadL p l + 1 else 0
/-- It waits for all that stand before it. -/
def Info.barred (x : Info) : Bool := Nat.beq x.anc (2 ^ x.ix - 1)
/-- The first ones may come in any order; each of the others waits for all that stand before it. -/
def drawCheck (ops : Array Oper) (s0len : Nat) (l : List Oper) (recs : List (Rec × Option Nat)) : Bool :=
  let xs := infos ops 0 l recs (ancs l [])
  let m := leadL (Info.lone s0len) xs
  topo 0 l && (((xs.take m).all fun x => (xs.take m).all fun y => x.pair y) && (xs.drop m).all Info.barred)
theorem leadL_le (p : Info → Bool) : ∀ l, leadL p l ≤ l.length
  | [] => Nat.le_refl _
  | x :: l => by
    have := leadL_le p l
    unfold leadL
    split
    · simp only [List.length_cons]; omega
    · exact Nat.zero_le _
theorem leadL_ok (p : Info → Bool) : ∀ (l : List Info) (j : Nat) (x : Info), j < leadL p l → l[j]? = some x → p x = true
  | [], j, x, h, e => by cases e
  | y :: l, j, x, h, e => by
    unfold leadL at h
    split at h
    · rename_i hp
      cases j with
      | zero => simp only [List.getElem?_cons_zero, Option.some.injEq] at e; rw [← e]; exact hp
      | succ j => exact leadL_ok p l j x (by omega) (by simpa using e)
    · omega

theorem infos_at {ops : Array Oper} : ∀ (i : Nat) (l : List Oper) (rs : List (Rec × Option Nat)) (ks : List Nat), rs.length = l.length → ks.length = l.length → ∀ j (h : j < l.length),
    (infos ops i l rs ks)[j]? = some ⟨i + j, l[j].dst, readsOf ops l[j], (rs.getD j (.val .any, none)).1, (rs.getD j (.val .any, none)).2, ks.getD j 0⟩
  | i, [], rs, ks, _, _, j, h => absurd h (by simp)
  | i, o :: l, [], ks, h1, _, j, h => by simp at h1
  | i, o :: l, r :: rs, [], _, h2, j, h => by simp at h2
  | i, o :: l, r :: rs, k :: ks, h1, h2, j, h => by
    cases j with
    | zero => simp [infos]
    | succ j =>
      have := infos_at (ops := ops) (i + 1) l rs ks (by simpa using h1) (by simpa using h2) j (by simpa using h)
      simp only [infos, List.getElem?_cons_succ]
      simpa [Nat.add_assoc, Nat.add_comm 1 j] using this
theorem infos_len {ops : Array Oper} : ∀ (i : Nat) (l : List Oper) (rs : List (Rec × Option Nat)) (ks : List Nat), rs.length = l.length → ks.length = l.length → (infos ops i l rs ks).length = l.length
  | i, [], rs, ks, _, _ => by simp [infos]
  | i, o :: l, [], ks, h1, _ => by simp at h1
  | i, o :: l, r :: rs, [], _, h2 => by simp at h2
  | i, o :: l, r :: rs, k :: ks, h1, h2 => by
    simp only [infos, List.length_cons]
    rw [infos_len (i + 1) l rs ks (by simpa using h1) (by simpa using h2)]
theorem topo_ok : ∀ (i : Nat) (l : List Oper), topo i l = true → ∀ j (h : j < l.length), ∀ d ∈ depsOf l[j], d < i + j
  | i, [], _, j, h => absurd h (by simp)
  | i, o :: l, ht, j, h => by
    simp only [topo, Bool.and_eq_true, List.all_eq_true, Nat.blt_eq] at ht
    cases j with
    | zero => intro d hd; exact ht.1 d hd
    | succ j => intro d hd; have := topo_ok (i + 1) l ht.2 j (by simpa using h) d hd; omega

theorem count_lt {l : List Nat} {p q : Nat → Bool} {i : Nat} (hi : i ∈ l) (hpi : p i = true) (hqi : q i = false) (h : ∀ j ∈ l, q j = true → p j = true) : l.countP q < l.countP p := by
  induction l with
  | nil => cases hi
  | cons x l ih =>
    have hle : l.countP q ≤ l.countP p := List.countP_mono_left fun j hj hq => h j (List.mem_cons_of_mem _ hj) hq
    by_cases hx : x = i
    · subst hx
      rw [List.countP_cons_of_neg (by rw [hqi]; simp), List.countP_cons_of_pos hpi]
      omega
    · have hil : i ∈ l := by
        rcases List.mem_cons.1 hi with h1 | h1
        · exact absurd h1.symm hx
        · exact h1
      have := ih hil fun j hj hq => h j (List.mem_cons_of_mem _ hj) hq
      rw [List.countP_cons, List.countP_cons]
      by_cases hqx : q x = true
      · rw [if_pos hqx, if_pos (h x (by simp) hqx)]; omega
      · rw [if_neg hqx]; omega

/-- The frame behind the first i operations. -/
def seqFS (n : Nat) (s : FSt) (dst : Nat → Option Tmp) (R : Nat → Rec) : Nat → FSt
  | 0 => s
  | i + 1 => (seqFS n s dst R i).app n (dst i) (R i)
theorem seqFS_shift (n : Nat) (s : FSt) (dst : Nat → Option Tmp) (R : Nat → Rec) (i : Nat) : seqFS n s dst R (i + 1) = seqFS n (s.app n (dst 0) (R 0)) (fun j => dst (j + 1)) (fun j => R (j + 1)) i := by
  induction i with
  | zero => rfl
  | succ i ih => rw [seqFS, ih]; rfl

/-- What a run in the order of the text tells of each operation. -/
theorem runOps_each {dr : Bool} {inl : Inline P Good} {ops : Array Oper} {ro : List Nat} {gb : Nat} : ∀ (l : List Oper) (s s' : St) (tr tr' : List (Item P Good)) (eqs : List (Got × Got)) (recs : List (Rec × Option Nat)),
      runOps P inl dr ops ro gb l s tr = some (s', tr', eqs, recs) → Agree eqs →
      recs.length = l.length ∧ s'.fs = seqFS s.tmps.length s.fs (fun j => (l[j]?).bind (·.dst)) (fun j => (recs.getD j (.val .any, none)).1) l.length ∧
      ∀ i (h : i < l.length), ∃ (si : St) (tri tri' : List (Item P Good)) (eqi : List (Got × Got)),
        opRec P inl ops l[i] ro gb (mxA dr gb si) si.fs si.blks si.nst tri = some ((recs.getD i (.val .any, none)).1, tri', eqi) ∧ Agree eqi ∧ (recs.getD i (.val .any, none)).2 = accOf l[i] si.fs.ev ∧
        si.fs = seqFS s.tmps.length s.fs (fun j => (l[j]?).bind (·.dst)) (fun j => (recs.getD j (.val .any, none)).1) i ∧ si.tmps.length = s.tmps.length
  | [], s, s', tr, tr', eqs, recs, hr, he => by
    simp only [runOps, Option.some.injEq, Prod.mk.injEq] at hr
    obtain ⟨rfl, rfl, rfl, rfl⟩ := hr
    exact ⟨rfl, rfl, fun i h => absurd h (by simp)⟩
  | o :: rest, s, s', tr, tr', eqs, recs, hr, he => by
    simp only [runOps] at hr
    split at hr
    · rename_i R tr1 eqs1 h1
      split at hr
      · rename_i s2 tr2 eqs2 recs2 h2
        simp only [Option.some.injEq, Prod.mk.injEq] at hr
        obtain ⟨rfl, rfl, rfl, rfl⟩ := hr
        obtain ⟨he1, he2⟩ := he.append
        obtain ⟨e1, e2⟩ := opRec_app h1
        obtain ⟨g1, g3, g4⟩ := runOps_each rest _ _ _ _ _ _ h2 he2
        rw [e2, e1] at g3 g4
        refine ⟨by simp [g1], ?_, fun i hi => ?_⟩
        · rw [g3]
          show _ = seqFS _ _ _ _ (rest.length + 1)
          rw [seqFS_shift]; rfl
        · cases i with
          | zero => exact ⟨s, tr, tr1, eqs1, h1, he1, rfl, rfl, rfl⟩
          | succ i =>
            obtain ⟨si, tri, tri', eqi, q1, q2, q3, q4, q5⟩ := g4 i (by simpa using hi)
            refine ⟨si, tri, tri', eqi, q1, q2, q3, ?_, q5⟩
            rw [q4, seqFS_shift]; rfl
      · cases hr
    · cases hr

/-- Regions whose order is open: the first m in any order, the others each behind all before them. F: the frame when some of the first ones have been carried out. -/
theorem draw_core {c : Ctx} {Q : Exit → Act → World → Prop} {id : Nat} {ops : Array Oper} {l : List Oper} (hl : ops.toList = l) {s : St} {sfin : FSt} {dst : Nat → Option Tmp} {R : Nat → Rec} {A : List Nat} {m : Nat} (hml : m ≤ l.length)
    (hm : c.P.follows .mixedOrders = true) (htop : ∀ i (h : i < l.length), ∀ d ∈ depsOf l[i], d < i)
    (hanc : ∀ (L : Nat → Bool), (∀ j (h : j < l.length), L j = true → ∀ d ∈ depsOf l[j], L d = true) → ∀ i (h : i < l.length), (∀ d ∈ depsOf l[i], L d = true) → ∀ k, (A.getD i 0).testBit k = true → L k = true)
    (hbarred : ∀ j (_ : m ≤ j) (_ : j < l.length), ∀ k, k < j → (A.getD j 0).testBit k = true)
    (F : (Nat → Bool) → FSt) (congrL : ∀ L L' : Nat → Bool, (∀ j, j < m → L j = L' j) → F L = F L')
    (hseq : ∀ i, i ≤ m → seqFS s.tmps.length s.fs dst R i = F (fun j => Nat.blt j i))
    (hfin : sfin = seqFS s.tmps.length s.fs dst R l.length)
    (hstep : ∀ (L : Nat → Bool) (i : Nat) (_ : i < m) (hi : i < l.length), L i = false → (∀ j (h : j < l.length), L j = true → ∀ d ∈ depsOf l[j], L d = true) → (∀ d ∈ depsOf l[i], L d = true) →
      ∀ (a : Act) (w : World), Rel c s.tmps.length (F L) a w → ∀ K : Act → World → Prop,
      (∀ a' w', Rel c s.tmps.length (F (fun j => L j || j == i)) a' w' → K a' w') → wpOpIn (Fw c.rd) 0 c.P ops Q i K a w)
    (hstepT : ∀ (i : Nat) (_ : i < l.length) (a : Act) (w : World), Rel c s.tmps.length (seqFS s.tmps.length s.fs dst R i) a w → ∀ K : Act → World → Prop,
      (∀ a' w', Rel c s.tmps.length (seqFS s.tmps.length s.fs dst R (i + 1)) a' w' → K a' w') → wpOpIn (Fw c.rd) 0 c.P ops Q i K a w)
    {a : Act} {w : World} (h : Rel c s.tmps.length s.fs a w) (hQ : ∀ a' w', Rel c s.tmps.length sfin a' w' → Q .normal a' w') : (Code.region id ops true).wpIn (Fw c.rd) 0 c.P Q a w := by
  have hget : ∀ i : Nat, ops[i]? = l[i]? := fun i => by rw [← hl]; simp
  have hsz : ops.size = l.length := by rw [← hl]; simp
  let St2 : Array Bool → Act → World → Prop := fun listed a w =>
    ((∀ j, m ≤ j → j < l.length → listed.getD j false = false) ∧ Rel c s.tmps.length (F (fun j => listed.getD j false)) a w) ∨
    (∃ t, m ≤ t ∧ t ≤ l.length ∧ (∀ j, j < l.length → listed.getD j false = Nat.blt j t) ∧ Rel c s.tmps.length (seqFS s.tmps.length s.fs dst R t) a w)
  have main : ∀ (fuel : Nat) (listed : Array Bool) (a : Act) (w : World), listed.size = l.length →
      (∀ j (h : j < l.length), listed.getD j false = true → ∀ d ∈ depsOf l[j], listed.getD d false = true) → (List.range l.length).countP (fun j => !listed.getD j false) ≤ fuel →
      St2 listed a w → wpAnyIn (Fw c.rd) 0 c.P .any ops Q fuel listed a w := by
    intro fuel
    have full : ∀ (listed : Array Bool) (a : Act) (w : World), (∀ i, i < l.length → listed.getD i false = true) → St2 listed a w → Q .normal a w := by
      intro listed a w hall hst
      refine hQ a w ?_
      rw [hfin]
      rcases hst with ⟨h1, h2⟩ | ⟨t, h1, h2, h3, h4⟩
      · have hm2 : m = l.length := by
          rcases Nat.lt_or_ge m l.length with h | h
          · have := h1 m (Nat.le_refl _) h
            rw [hall m h] at this; cases this
          · omega
        rw [← hm2, hseq m (Nat.le_refl _), congrL (fun j => Nat.blt j m) (fun j => listed.getD j false) fun j hj => by rw [hall j (by omega), Nat.blt_eq]; exact hj]
        exact h2
      · have ht2 : t = l.length := by
          rcases Nat.lt_or_ge t l.length with h | h
          · have := h3 t h
            rw [hall t h] at this
            have h5 : Nat.blt t t = true := this.symm
            rw [Nat.blt_eq] at h5; omega
          · omega
        rw [← ht2]; exact h4
    have done : ∀ (listed : Array Bool) (a : Act) (w : World), listed.size = l.length → Region.ready .any ops listed = [] →
        St2 listed a w → Q .normal a w := by
      intro listed a w hs hrdy hrel
      refine full listed a w ?_ hrel
      intro i
      induction i using Nat.strongRecOn with
      | _ i ih =>
        intro hi
        cases hq : listed.getD i false with
        | true => rfl
        | false =>
          have : i ∈ Region.ready .any ops listed := by
            rw [mem_ready]
            refine ⟨?_, l[i], by rw [hget]; simp [hi], fun e he' hb => ?_⟩
            · have : i < listed.size := by omega
              simp [Array.getD, this] at hq ⊢; exact hq
            · have hd : e.on ∈ depsOf l[i] := by
                simp only [depsOf, List.mem_map, List.mem_filter]
                exact ⟨e, ⟨by simpa using he', hb⟩, rfl⟩
              exact ih e.on (htop i hi _ hd) (by have := htop i hi _ hd; omega)
          rw [hrdy] at this; cases this
    induction fuel with
    | zero =>
      intro listed a w hs hcl hcnt hrel
      have hall : ∀ i, i < l.length → listed.getD i false = true := fun i hi => by
        cases hq : listed.getD i false with
        | true => rfl
        | false =>
          have : 0 < (List.range l.length).countP (fun j => !listed.getD j false) := List.countP_pos_iff.2 ⟨i, by simpa using hi, by rw [hq]; rfl⟩
          omega
      have hrdy : Region.ready .any ops listed = [] := by
        cases hq : Region.ready .any ops listed with
        | nil => rfl
        | cons i r =>
          have : i ∈ Region.ready .any ops listed := by rw [hq]; simp
          rw [mem_ready] at this
          obtain ⟨h1, o, h2, _⟩ := this
          have hi : i < l.length := by rw [hget] at h2; exact (List.getElem?_eq_some_iff.1 h2).1
          have h3 := hall i hi
          have : i < listed.size := by omega
          simp [Array.getD, this] at h1 h3
          rw [h1] at h3; cases h3
      exact ⟨hrdy, done listed a w hs hrdy hrel⟩
    | succ fuel ih =>
      intro listed a w hs hcl hcnt hrel
      refine ⟨fun hrdy => done listed a w hs hrdy hrel, fun i hi => ?_⟩
      rw [mem_ready] at hi
      obtain ⟨h1, o, h2, h3⟩ := hi
      rw [hget] at h2
      obtain ⟨hil, rfl⟩ := List.getElem?_eq_some_iff.1 h2
      have hisz : i < listed.size := by omega
      have hLi : listed.getD i false = false := by simp [Array.getD, hisz] at h1 ⊢; exact h1
      have hdeps : ∀ d ∈ depsOf l[i], listed.getD d false = true := by
        intro d hd
        simp only [depsOf, List.mem_map, List.mem_filter] at hd
        obtain ⟨e, ⟨he1, he2⟩, rfl⟩ := hd
        exact h3 e (by simpa using he1) he2
      have hset : ∀ j, (listed.setIfInBounds i true).getD j false = (listed.getD j false || j == i) := by
        intro j
        by_cases hji : i = j
        · subst hji; simp [Array.getD, hisz]
        · rw [getD_set_ne false hji]; simp [Ne.symm hji]
      have hancs := hanc (fun j => listed.getD j false) hcl i hil hdeps
      have next : ∀ a' w', St2 (listed.setIfInBounds i true) a' w' → wpAnyIn (Fw c.rd) 0 c.P .any ops Q fuel (listed.setIfInBounds i true) a' w' := by
        intro a' w' hst
        refine ih _ a' w' (by simpa using hs) (fun j hj hj2 d hd => ?_) ?_ hst
        · rw [hset] at hj2 ⊢
          rw [Bool.or_eq_true] at hj2 ⊢
          rcases hj2 with hj2 | hj2
          · exact .inl (hcl j hj hj2 d hd)
          · simp only [beq_iff_eq] at hj2; subst hj2; exact .inl (hdeps d hd)
        · have := count_lt (l := List.range l.length) (p := fun j => !listed.getD j false) (q := fun j => !(listed.setIfInBounds i true).getD j false) (i := i) (by simpa using hil) (by rw [hLi]; rfl) (by rw [hset]; simp)
            (fun j _ hq => by rw [hset] at hq; simp at hq ⊢; exact hq.1)
          omega
      -- number t is the next one, all before it have been carried out
      have step2 : (∀ j, j < l.length → listed.getD j false = Nat.blt j i) → m ≤ i → Rel c s.tmps.length (seqFS s.tmps.length s.fs dst R i) a w →
          wpOpIn (Fw c.rd) 0 c.P ops Q i (wpAnyIn (Fw c.rd) 0 c.P .any ops Q fuel (listed.setIfInBounds i true)) a w := by
        intro hl2 hmi hrel2
        refine hstepT i hil a w hrel2 _ fun a' w' h' => next a' w' (.inr ⟨i + 1, by omega, by omega, fun j hj => ?_, h'⟩)
        rw [hset, hl2 j hj, Bool.eq_iff_iff, Bool.or_eq_true, Nat.blt_eq, Nat.blt_eq, beq_iff_eq]
        omega
      rcases hrel with ⟨g1, g2⟩ | ⟨t, g1, g2, g3, g4⟩
      · rcases Nat.lt_or_ge i m with him | him
        · refine hstep (fun j => listed.getD j false) i him hil hLi hcl hdeps a w g2 _ fun a' w' h' => next a' w' (.inl ⟨fun j hj hj2 => ?_, ?_⟩)
          · rw [hset, g1 j hj hj2]
            simp only [Bool.false_or, beq_eq_false_iff_ne]; omega
          · have e : (fun j => (listed.setIfInBounds i true).getD j false) = fun j => listed.getD j false || j == i := funext hset
            rw [e]; exact h'
        · have hlow : ∀ j, j < i → listed.getD j false = true := fun j hj => hancs j (hbarred i him hil j hj)
          have him2 : i = m := by
            rcases Nat.lt_or_ge m i with h | h
            · have := g1 m (Nat.le_refl _) (by omega)
              rw [hlow m h] at this; cases this
            · omega
          subst him2
          refine step2 (fun j hj => ?_) (Nat.le_refl _) ?_
          · rcases Nat.lt_or_ge j i with h | h
            · rw [hlow j h]; exact (by rw [Nat.blt_eq]; exact h : Nat.blt j i = true).symm
            · rw [g1 j h hj]
              cases hq : Nat.blt j i with
              | false => rfl
              | true => rw [Nat.blt_eq] at hq; omega
          · rw [hseq i (Nat.le_refl _), congrL (fun j => Nat.blt j i) (fun j => listed.getD j false) fun j hj => by rw [hlow j hj, Nat.blt_eq]; exact hj]
            exact g2
      · have hti : t ≤ i := by
          rcases Nat.lt_or_ge i t with h | h
          · have := g3 i hil
            rw [hLi] at this
            have h6 : Nat.blt i t = true := by rw [Nat.blt_eq]; exact h
            rw [h6] at this; cases this
          · exact h
        have hlow : ∀ j, j < i → listed.getD j false = true := fun j hj => hancs j (hbarred i (by omega) hil j hj)
        have hit : i = t := by
          rcases Nat.lt_or_ge t i with h | h
          · have h7 := hlow t h
            rw [g3 t (by omega), Nat.blt_eq] at h7; omega
          · omega
        subst hit
        exact step2 g3 g1 g4
  refine wpIn_region_any hm ?_
  rw [hsz]
  refine main _ _ _ _ (by simp) (fun j hj hj2 => ?_) ?_ ?_
  · exfalso
    simp [Array.getD] at hj2
  · exact Nat.le_trans List.countP_le_length (by simp)
  · refine .inl ⟨fun j _ _ => by simp [Array.getD], ?_⟩
    have hz : (fun j => (Array.replicate l.length false).getD j false) = fun j => Nat.blt j 0 := by
      funext j
      have : Nat.blt j 0 = false := by cases hq : Nat.blt j 0 with | false => rfl | true => rw [Nat.blt_eq] at hq; omega
      rw [this]
      simp [Array.getD]
    rw [hz, ← hseq 0 (Nat.zero_le _)]
    obtain ⟨β, X, hB⟩ := h
    exact ⟨β, X, hB.grow ((Below.refl _ _).drew)⟩

theorem draw_sound {dr : Bool} {c : Ctx} {Q : Exit → Act → World → Prop} {inl : Inline P Good} (hinl : InlOk P Good inl) {gb : Nat} (hgb : c.gb ≤ gb) (hP : c.P = P) (hGd : c.Good = Good) (hG : Steady Good) (h0 : c.Good c.w0) (hm : P.follows .mixedOrders = true) {id : Nat} {ops : Array Oper} {ro : List Nat}
    {s s' : St} {tr tr' : List (Item P Good)} {eqs : List (Got × Got)} {recs : List (Rec × Option Nat)} {a : Act} {w : World}
    (hr : runOps P inl dr ops ro gb ops.toList s tr = some (s', tr', eqs, recs)) (he : Agree eqs) (hck : drawCheck ops s.blks.length ops.toList recs = true)
    (h : Rel c s.tmps.length s.fs a w) (hQ : ∀ a' w', Rel c s.tmps.length s'.fs a' w' → Q .normal a' w') : (Code.region id ops true).wpIn (Fw c.rd) 0 P Q a w := by
  obtain ⟨hlen, hfin, heach⟩ := runOps_each _ _ _ _ _ _ _ hr he
  generalize hl : ops.toList = l at *
  have hget : ∀ i : Nat, ops[i]? = l[i]? := fun i => by rw [← hl]; simp
  have hsz : ops.size = l.length := by rw [← hl]; simp
  simp only [drawCheck, Bool.and_eq_true, List.all_eq_true] at hck
  obtain ⟨ht, hpair, hbar⟩ := hck
  have htop : ∀ i (h : i < l.length), ∀ d ∈ depsOf l[i], d < i := fun i h d hd => by have := topo_ok 0 l ht i h d hd; omega
  obtain ⟨hok, hal⟩ := ancs_ok l l [] [] rfl rfl ⟨by simp, fun i h => absurd h (by simp)⟩ htop
  generalize hA : ancs l [] = A at *
  have hat := infos_at (ops := ops) 0 l recs A hlen hal
  have hxl := infos_len (ops := ops) 0 l recs A hlen hal
  simp only [Nat.zero_add] at hat
  have hlone := leadL_ok (Info.lone s.blks.length) (infos ops 0 l recs A)
  have hml := leadL_le (Info.lone s.blks.length) (infos ops 0 l recs A)
  generalize leadL (Info.lone s.blks.length) (infos ops 0 l recs A) = m at *
  rw [hxl] at hml
  have hmem : ∀ j (h : j < m) (h' : j < l.length), ⟨j, l[j].dst, readsOf ops l[j], (recs.getD j (.val .any, none)).1, (recs.getD j (.val .any, none)).2, A.getD j 0⟩ ∈ (infos ops 0 l recs A).take m := fun j h h' =>
    List.mem_iff_getElem?.2 ⟨j, by rw [List.getElem?_take, if_pos h]; exact hat j h'⟩
  have hbarred : ∀ j (h : m ≤ j) (h' : j < l.length), ∀ k, k < j → (A.getD j 0).testBit k = true := fun j h h' k hk => by
    have := hbar _ (List.mem_iff_getElem?.2 ⟨j - m, by rw [List.getElem?_drop, show m + (j - m) = j by omega]; exact hat j h'⟩)
    simp only [Info.barred] at this
    have e := Nat.eq_of_beq_eq_true this
    rw [e, Nat.testBit_two_pow_sub_one]
    simpa using hk
  generalize hdst : (fun j : Nat => (l[j]?).bind (fun x : Oper => x.dst)) = dst at *
  generalize hRR : (fun j : Nat => (recs.getD j (.val .any, none)).1) = R at *
  generalize hAC : (fun j : Nat => (recs.getD j ((.val .any, none) : Rec × Option Nat)).2) = acc
  have hdst' : ∀ i (h : i < l.length), l[i].dst = dst i := fun i h => by rw [← hdst]; simp [h]
  have hR' : ∀ i, (recs.getD i (.val .any, none)).1 = R i := fun i => by rw [← hRR]
  have hAC' : ∀ i, (recs.getD i (.val .any, none)).2 = acc i := fun i => by rw [← hAC]
  have ok : DrawOk s.fs m dst (fun i t => ((l[i]?).map fun o => (readsOf ops o).contains t) == some true) R acc (fun i j => (A.getD i 0).testBit j) := by
    have P2 : ∀ i j (hi0 : i < m) (hj0 : j < m) (hi : i < l.length) (hj : j < l.length), Info.pair ⟨i, dst i, readsOf ops l[i], R i, acc i, A.getD i 0⟩ ⟨j, dst j, readsOf ops l[j], R j, acc j, A.getD j 0⟩ = true := by
      intro i j hi0 hj0 hi hj
      have := hpair _ (hmem i hi0 hi) _ (hmem j hj0 hj)
      simpa only [hdst', hR', hAC'] using this
    have P1 : ∀ i (hi0 : i < m) (hi : i < l.length), Info.lone s.blks.length ⟨i, dst i, readsOf ops l[i], R i, acc i, A.getD i 0⟩ = true := by
      intro i hi0 hi
      have := hlone i _ hi0 (hat i hi)
      simpa only [hdst', hR', hAC'] using this
    refine ⟨fun i j t hi hj h1 h2 => ?_, fun i j b hi hj h1 h2 => ?_, fun i j b hi hj h1 h2 => ?_, fun i b hi h1 => ?_, fun i j t hi hj h1 h2 => ?_, fun i j b hi hj h1 h2 => ?_, fun i j b hi hj h1 h2 => ?_, fun i b hi h1 => ?_, fun i hi => ?_⟩
    · have hi' : i < l.length := by omega
      have hj' : j < l.length := by omega
      have := P2 i j hi hj hi' hj'
      simp only [Info.pair, Bool.and_eq_true, h1, h2] at this
      simpa using this.1.1
    · have hi' : i < l.length := by omega
      have hj' : j < l.length := by omega
      have := P2 i j hi hj hi' hj'
      cases hq : R i <;> simp only [hq, Rec.isStore, Bool.false_eq_true] at h1
      rename_i b' off ds d'
      simp only [beq_iff_eq] at h1
      subst h1
      simp only [Info.pair, Bool.and_eq_true, hq, h2] at this
      have h9 := this.1.1
      rcases (by simpa using h9 : i = j ∨ _ ∧ ((A.getD i 0).testBit j = true ∧ j < i ∨ (A.getD j 0).testBit i = true ∧ i < j)) with h9 | h9
      · exact .inl h9
      · exact .inr h9.2
    · have hi' : i < l.length := by omega
      have hj' : j < l.length := by omega
      have := P2 i j hi hj hi' hj'
      cases hq : R i <;> simp only [hq, Rec.isNew, Bool.false_eq_true] at h1
      rename_i b' off ds d'
      simp only [beq_iff_eq] at h1
      subst h1
      simp only [Info.pair, Bool.and_eq_true, hq, h2] at this
      simpa using this.1.1
    · have hi' : i < l.length := by omega
      have := P1 i hi hi'
      cases hq : R i <;> simp only [hq, Rec.isNew, Bool.false_eq_true] at h1
      simp only [beq_iff_eq] at h1
      subst h1
      simp only [Info.lone, hq, Nat.ble_eq] at this
      simp only [St.fs, List.getD_eq_getElem?_getD]
      rw [List.getElem?_eq_none (by omega)]; rfl
    · have hi' : i < l.length := by omega
      have hj' : j < l.length := by omega
      have := P2 i j hi hj hi' hj'
      have h1' : (readsOf ops l[i]).contains t = true := by simpa [hi'] using h1
      simp only [Info.pair, Bool.and_eq_true, h2, h1'] at this
      simpa using this.1.2
    · have hi' : i < l.length := by omega
      have hj' : j < l.length := by omega
      have := P2 i j hi hj hi' hj'
      simp only [Info.pair, Bool.and_eq_true, h1, h2] at this
      simpa using this.2.1
    · have hi' : i < l.length := by omega
      have hj' : j < l.length := by omega
      have := P2 i j hi hj hi' hj'
      simp only [Info.pair, Bool.and_eq_true, h1, h2] at this
      simpa using this.2.2
    · have hi' : i < l.length := by omega
      have := P1 i hi hi'
      cases hq : R i <;> simp only [hq, Rec.isStore, Bool.false_eq_true] at h1
      simp only [beq_iff_eq] at h1
      subst h1
      simpa [Info.lone, hq] using this
    · have hi' : i < l.length := by omega
      have := P1 i hi hi'
      cases hq : R i <;> simp [Info.lone, hq] at this <;> rfl
  have hanc : ∀ (L : Nat → Bool), (∀ j (h : j < l.length), L j = true → ∀ d ∈ depsOf l[j], L d = true) → ∀ i (h : i < l.length), (∀ d ∈ depsOf l[i], L d = true) → ∀ k, (A.getD i 0).testBit k = true → L k = true :=
    fun L hcl => anc_closed hok hal hcl
  have hpre : ∀ i, ∀ j (h : j < l.length), (Nat.blt j i) = true → ∀ d ∈ depsOf l[j], (Nat.blt d i) = true := fun i j h hj d hd => by
    rw [Nat.blt_eq] at hj ⊢
    have := htop j h d hd; omega
  have hseq : ∀ i, i ≤ m → seqFS s.tmps.length s.fs dst R i = sL s.fs s.tmps.length m dst R (fun j => Nat.blt j i) := by
    intro i
    induction i with
    | zero =>
      intro _
      have : ∀ j, Nat.blt j 0 = false := fun j => by cases hq : Nat.blt j 0 with | false => rfl | true => rw [Nat.blt_eq] at hq; omega
      have hz : (fun j => Nat.blt j 0) = fun _ => false := funext this
      rw [hz]
      simp only [seqFS, sL, Bool.false_and]
      have hf : ∀ x : Option (List D), (List.range m).foldl (fun c j => if false = true then Option.map (R j).stored c else c) x = x := fun x => fold_none (p := fun _ => false) (f := fun j c => Option.map (R j).stored c) (fun _ _ => rfl)
      rw [find_none (fun _ _ => rfl)]
      simp only [hf]
      have hz2 : ((List.range m).any fun _ => false) = false := by rw [List.any_eq_false]; intros; simp
      simp only [hz2, Bool.or_false]
    | succ i ih =>
      intro hi
      rw [seqFS, ih (by omega), sL_app ok (by omega) (by cases hq : Nat.blt i i with | false => rfl | true => rw [Nat.blt_eq] at hq; omega)
        (fun j hj hL k hk => hanc _ (hpre i) j (by omega) (hpre i j (by omega) hL) k hk)]
      congr 1
      funext j
      rw [Bool.eq_iff_iff, Bool.or_eq_true, Nat.blt_eq, Nat.blt_eq, beq_iff_eq]
      omega
  subst hP
  have hstep : ∀ (L : Nat → Bool) (i : Nat) (him : i < m) (hi : i < l.length), L i = false → (∀ j (h : j < l.length), L j = true → ∀ d ∈ depsOf l[j], L d = true) → (∀ d ∈ depsOf l[i], L d = true) →
      ∀ (a : Act) (w : World), Rel c s.tmps.length (sL s.fs s.tmps.length m dst R L) a w → ∀ K : Act → World → Prop,
      (∀ a' w', Rel c s.tmps.length (sL s.fs s.tmps.length m dst R (fun j => L j || j == i)) a' w' → K a' w') → wpOpIn (Fw c.rd) 0 c.P ops Q i K a w := by
    intro L i him hi hL hcl hrd a w hrel K hK
    obtain ⟨si, tri, tri', eqi, q1, q2, q3, q4, -⟩ := heach i hi
    rw [hR'] at q1
    rw [hAC'] at q3
    rw [hseq i (by omega)] at q4
    have hii : Nat.blt i i = false := by cases hq : Nat.blt i i with | false => rfl | true => rw [Nat.blt_eq] at hq; omega
    have hrd' : ∀ d ∈ depsOf l[i], Nat.blt d i = true := fun d hd => by rw [Nat.blt_eq]; exact htop i hi d hd
    have a1 := hanc L hcl i hi hrd
    have a2 := hanc _ (hpre i) i hi hrd'
    have c1 : ∀ j, j < m → L j = true → ∀ k, (A.getD j 0).testBit k = true → L k = true := fun j hj hLj => hanc L hcl j (by omega) (hcl j (by omega) hLj)
    have c2 : ∀ j, j < m → Nat.blt j i = true → ∀ k, (A.getD j 0).testBit k = true → Nat.blt k i = true := fun j hj hLj => hanc _ (hpre i) j (by omega) (hpre i j (by omega) hLj)
    have rd : ∀ t, t ∈ readsOf ops l[i] → (sL s.fs s.tmps.length m dst R (fun j => Nat.blt j i)).tmp t = (sL s.fs s.tmps.length m dst R L).tmp t := fun t ht =>
      sL_tmp (L := fun j => Nat.blt j i) (L' := L) ok him hii hL a2 a1 c2 c1 (by simp [hi, ht])
    have q1' : opRec c.P inl ops l[i] ro gb (mxA dr gb si) (sL s.fs s.tmps.length m dst R L) si.blks si.nst tri = some (R i, tri', eqi) := by
      rw [q4] at q1
      refine opRec_congr (fun j want t hg hd => rd t ?_) (fun x hx => ?_) (fun b hb => ?_) q1 (ok.cPlain i him)
      · simp [readsOf, hg, hd]
      · cases x with
        | tmp t => exact rd t (by simp only [readsOf, List.mem_append, List.mem_filterMap]; exact .inl ⟨.tmp t, hx, rfl⟩)
        | const v => rfl
        | global g => rfl
        | func f => rfl
      · rw [← q4, ← q3] at hb
        exact sL_blk (L := fun j => Nat.blt j i) (L' := L) ok him hii hL a2 a1 c2 c1 hb
    have hoi : ops[i]? = some l[i] := by rw [hget]; simp [hi]
    unfold wpOpIn
    simp only [hoi]
    have := opRec_soundIn (r := c.rd) hinl rfl hGd hG h0 hgb hrel q1' q2 (fun b cs d nf hb => sL_fresh ok him hL (by rw [hb]; simp [Rec.isNew])) (fun hb => by have := ok.cPlain i him; cases hRi : R i <;> rw [hRi] at this hb <;> first | (cases hb; done) | (cases this; done)) (Q := Q) (K := K) (fun a' w' h' => hK a' w' (by
      rw [hdst' i hi, sL_app ok him hL c1] at h'; exact h'))
    exact this
  -- one of those that wait for all before them
  have hstepT : ∀ (i : Nat) (hi : i < l.length) (a : Act) (w : World), Rel c s.tmps.length (seqFS s.tmps.length s.fs dst R i) a w → ∀ K : Act → World → Prop,
      (∀ a' w', Rel c s.tmps.length (seqFS s.tmps.length s.fs dst R (i + 1)) a' w' → K a' w') → wpOpIn (Fw c.rd) 0 c.P ops Q i K a w := by
    intro i hi a w hrel K hK
    obtain ⟨si, tri, tri', eqi, q1, q2, q3, q4, q5⟩ := heach i hi
    rw [hR'] at q1
    have hoi : ops[i]? = some l[i] := by rw [hget]; simp [hi]
    unfold wpOpIn
    simp only [hoi]
    rw [← q4] at hrel
    have := opRec_soundIn (r := c.rd) hinl rfl hGd hG h0 hgb hrel q1 q2 (fun b cs d nf hb => by rw [(opRec_new q1).1 b cs d nf hb]; exact blk_len_none si) (fun _ => ⟨fun b => rfl, fun b => rfl, by rw [← q5]; exact tmp_out si, mxA_ok _ si hgb⟩) (Q := Q) (K := K) (fun a' w' h' => hK a' w' (by
      rw [hdst' i hi, q4] at h'; exact h'))
    exact this
  -- what has been carried out: some of the first ones, or all before number t
  have congrL : ∀ (L L' : Nat → Bool), (∀ j, j < m → L j = L' j) → sL s.fs s.tmps.length m dst R L = sL s.fs s.tmps.length m dst R L' := by
    intro L L' hb
    simp only [sL]
    congr 1
    · funext t; congr 1; exact find_congr fun j hj => by rw [hb j hj]
    · funext b
      have e1 : (List.range m).find? (fun j => L j && (R j).isNew b) = (List.range m).find? (fun j => L' j && (R j).isNew b) := find_congr fun j hj => by rw [hb j hj]
      rw [e1]
      exact fold_congr fun j hj => by rw [hb j hj]
    · funext b
      congr 1
      exact any_congr fun j hj => by rw [hb j hj]
  exact draw_core (ops := ops) (A := A) hl hml hm htop hanc hbarred (fun L => sL s.fs s.tmps.length m dst R L) congrL hseq hfin hstep hstepT h hQ
/-! ### Regions of values alone, calls that leave the own blocks among them. -/
def Info.pairV (x y : Info) : Bool :=
  (x.ix == y.ix || (match x.dst with | some t => !(y.dst == some t) | none => true)) &&
  ((match y.dst with | some t => !(x.reads.contains t) | none => true) || (y.ix == x.ix || (x.anc.testBit y.ix || y.anc.testBit x.ix)))
def valCheck (ops : Array Oper) (l : List Oper) (recs : List (Rec × Option Nat)) : Bool :=
  let xs := infos ops 0 l recs (ancs l [])
  let m := leadL (fun x => x.rc.isVal) xs
  topo 0 l && (((xs.take m).all fun x => (xs.take m).all fun y => x.pairV y) && (xs.drop m).all Info.barred)
structure ValOk (m : Nat) (dst : Nat → Option Tmp) (reads : Nat → Tmp → Bool) (R : Nat → Rec) (anc : Nat → Nat → Bool) : Prop where
  cDst : ∀ i j t, i < m → j < m → dst i = some t → dst j = some t → i = j
  cReads : ∀ i j t, i < m → j < m → reads i t = true → dst j = some t → j = i ∨ anc i j = true ∨ anc j i = true
  cVal : ∀ i, i < m → (R i).isVal = true
def vL (s0 : FSt) (n m : Nat) (dst : Nat → Option Tmp) (R : Nat → Rec) (L : Nat → Bool) : FSt where
  tmp := fun t => match (List.range m).find? (fun j => L j && (dst j == some t && Nat.blt t n)) with
    | some j => (R j).put
    | none => s0.tmp t
  blk := s0.blk
  nst := s0.nst
section stepV
variable {s0 : FSt} {n m : Nat} {dst : Nat → Option Tmp} {reads : Nat → Tmp → Bool} {R : Nat → Rec} {anc : Nat → Nat → Bool}
theorem app_isVal (s : FSt) (n : Nat) (dst : Option Tmp) {R : Rec} (h : R.isVal = true) : s.app n dst R = s.put n dst R.put := by
  cases R <;> first | rfl | (cases h; done)
theorem vL_app (ok : ValOk m dst reads R anc) {L : Nat → Bool} {i : Nat} (hi : i < m) : (vL s0 n m dst R L).app n (dst i) (R i) = vL s0 n m dst R (fun j => L j || j == i) := by
  have htmp : ∀ t, (vL s0 n m dst R (fun j => L j || j == i)).tmp t = if dst i = some t ∧ t < n then (R i).put else (vL s0 n m dst R L).tmp t := by
    intro t
    simp only [vL]
    by_cases hc : dst i = some t ∧ t < n
    · have hf : (List.range m).find? (fun j => (L j || j == i) && (dst j == some t && Nat.blt t n)) = some i := find_uniq hi (by simp [hc.1, hc.2]) (fun j hj hp => by
        simp only [Bool.and_eq_true, beq_iff_eq] at hp
        exact (ok.cDst i j t hi hj hc.1 hp.2.1).symm)
      rw [if_pos hc, hf]
    · rw [if_neg hc]
      congr 1
      refine find_congr fun j hj => ?_
      by_cases hji : j = i
      · subst hji
        have : (dst j == some t && Nat.blt t n) = false := by
          rw [Bool.and_eq_false_iff]
          by_cases h1 : dst j = some t
          · right
            have h2 : ¬ t < n := fun h2 => hc ⟨h1, h2⟩
            cases hb : Nat.blt t n with
            | false => rfl
            | true => rw [Nat.blt_eq] at hb; exact absurd hb h2
          · left; simpa using h1
        rw [this]; simp
      · have h9 : (j == i) = false := by simpa using hji
        simp only [h9, Bool.or_false]
  rw [app_isVal _ _ _ (ok.cVal i hi)]
  have : (vL s0 n m dst R (fun j => L j || j == i)) = ⟨(vL s0 n m dst R (fun j => L j || j == i)).tmp, (vL s0 n m dst R L).blk, (vL s0 n m dst R L).nst⟩ := rfl
  rw [this]
  simp only [FSt.put]
  congr 1
  funext t; rw [htmp t]
theorem vL_tmp (ok : ValOk m dst reads R anc) {L L' : Nat → Bool} {i : Nat} (hi : i < m) (hL : L i = false) (hL' : L' i = false)
    (hr : ∀ k, anc i k = true → L k = true) (hr' : ∀ k, anc i k = true → L' k = true)
    (hcl : ∀ j, j < m → L j = true → ∀ k, anc j k = true → L k = true) (hcl' : ∀ j, j < m → L' j = true → ∀ k, anc j k = true → L' k = true) {t : Tmp} (ht : reads i t = true) :
    (vL s0 n m dst R L).tmp t = (vL s0 n m dst R L').tmp t := by
  simp only [vL]
  congr 1
  refine find_congr fun j hj => ?_
  by_cases hd : dst j = some t
  · rcases ok.cReads i j t hi hj ht hd with rfl | h | h
    · rw [hL, hL']
    · rw [hr j h, hr' j h]
    · have h1 : L j = false := by
        cases hq : L j with
        | false => rfl
        | true => have := hcl j hj hq i h; rw [hL] at this; cases this
      have h2 : L' j = false := by
        cases hq : L' j with
        | false => rfl
        | true => have := hcl' j hj hq i h; rw [hL'] at this; cases this
      rw [h1, h2]
  · have : (dst j == some t) = false := by simpa using hd
    rw [this]; simp
end stepV
theorem val_sound {c : Ctx} {Q : Exit → Act → World → Prop} {inl : Inline P Good} (hinl : InlOk P Good inl) {gb : Nat} (hgb : c.gb ≤ gb) (hP : c.P = P) (hGd : c.Good = Good) (hG : Steady Good) (h0 : c.Good c.w0) (hm : P.follows .mixedOrders = true) {id : Nat} {ops : Array Oper} {ro : List Nat}
    {s s' : St} {tr tr' : List (Item P Good)} {eqs : List (Got × Got)} {recs : List (Rec × Option Nat)} {a : Act} {w : World}
    (hr : runOps P inl true ops ro gb ops.toList s tr = some (s', tr', eqs, recs)) (he : Agree eqs) (hck : valCheck ops ops.toList recs = true)
    (h : Rel c s.tmps.length s.fs a w) (hQ : ∀ a' w', Rel c s.tmps.length s'.fs a' w' → Q .normal a' w') : (Code.region id ops true).wpIn (Fw c.rd) 0 P Q a w := by
  obtain ⟨hlen, hfin, heach⟩ := runOps_each _ _ _ _ _ _ _ hr he
  generalize hl : ops.toList = l at *
  have hget : ∀ i : Nat, ops[i]? = l[i]? := fun i => by rw [← hl]; simp
  simp only [valCheck, Bool.and_eq_true, List.all_eq_true] at hck
  obtain ⟨ht, hpair, hbar⟩ := hck
  have htop : ∀ i (h : i < l.length), ∀ d ∈ depsOf l[i], d < i := fun i h d hd => by have := topo_ok 0 l ht i h d hd; omega
  obtain ⟨hok, hal⟩ := ancs_ok l l [] [] rfl rfl ⟨by simp, fun i h => absurd h (by simp)⟩ htop
  generalize hA : ancs l [] = A at *
  have hat := infos_at (ops := ops) 0 l recs A hlen hal
  have hxl := infos_len (ops := ops) 0 l recs A hlen hal
  simp only [Nat.zero_add] at hat
  have hlone := leadL_ok (fun x => x.rc.isVal) (infos ops 0 l recs A)
  have hml := leadL_le (fun x => x.rc.isVal) (infos ops 0 l recs A)
  generalize leadL (fun x => x.rc.isVal) (infos ops 0 l recs A) = m at *
  rw [hxl] at hml
  have hmem : ∀ j (h : j < m) (h' : j < l.length), ⟨j, l[j].dst, readsOf ops l[j], (recs.getD j (.val .any, none)).1, (recs.getD j (.val .any, none)).2, A.getD j 0⟩ ∈ (infos ops 0 l recs A).take m := fun j h h' =>
    List.mem_iff_getElem?.2 ⟨j, by rw [List.getElem?_take, if_pos h]; exact hat j h'⟩
  have hbarred : ∀ j (h : m ≤ j) (h' : j < l.length), ∀ k, k < j → (A.getD j 0).testBit k = true := fun j h h' k hk => by
    have := hbar _ (List.mem_iff_getElem?.2 ⟨j - m, by rw [List.getElem?_drop, show m + (j - m) = j by omega]; exact hat j h'⟩)
    simp only [Info.barred] at this
    have e := Nat.eq_of_beq_eq_true this
    rw [e, Nat.testBit_two_pow_sub_one]
    simpa using hk
  generalize hdst : (fun j : Nat => (l[j]?).bind (fun x : Oper => x.dst)) = dst at *
  generalize hRR : (fun j : Nat => (recs.getD j (.val .any, none)).1) = R at *
  have hdst' : ∀ i (h : i < l.length), l[i].dst = dst i := fun i h => by rw [← hdst]; simp [h]
  have hR' : ∀ i, (recs.getD i (.val .any, none)).1 = R i := fun i => by rw [← hRR]
  have ok : ValOk m dst (fun i t => ((l[i]?).map fun o => (readsOf ops o).contains t) == some true) R (fun i j => (A.getD i 0).testBit j) := by
    have P2 : ∀ i j (hi0 : i < m) (hj0 : j < m) (hi : i < l.length) (hj : j < l.length), Info.pairV ⟨i, dst i, readsOf ops l[i], R i, (recs.getD i (.val .any, none)).2, A.getD i 0⟩ ⟨j, dst j, readsOf ops l[j], R j, (recs.getD j (.val .any, none)).2, A.getD j 0⟩ = true := by
      intro i j hi0 hj0 hi hj
      have := hpair _ (hmem i hi0 hi) _ (hmem j hj0 hj)
      simpa only [hdst', hR'] using this
    refine ⟨fun i j t hi hj h1 h2 => ?_, fun i j t hi hj h1 h2 => ?_, fun i hi => ?_⟩
    · have hi' : i < l.length := by omega
      have hj' : j < l.length := by omega
      have := P2 i j hi hj hi' hj'
      simp only [Info.pairV, Bool.and_eq_true, h1, h2] at this
      simpa using this.1
    · have hi' : i < l.length := by omega
      have hj' : j < l.length := by omega
      have := P2 i j hi hj hi' hj'
      have h1' : (readsOf ops l[i]).contains t = true := by simpa [hi'] using h1
      simp only [Info.pairV, Bool.and_eq_true, h2, h1'] at this
      simpa using this.2
    · have hi' : i < l.length := by omega
      have := hlone i _ hi (hat i hi')
      simpa only [hdst', hR'] using this
  have hanc : ∀ (L : Nat → Bool), (∀ j (h : j < l.length), L j = true → ∀ d ∈ depsOf l[j], L d = true) → ∀ i (h : i < l.length), (∀ d ∈ depsOf l[i], L d = true) → ∀ k, (A.getD i 0).testBit k = true → L k = true :=
    fun L hcl => anc_closed hok hal hcl
  have hpre : ∀ i, ∀ j (h : j < l.length), (Nat.blt j i) = true → ∀ d ∈ depsOf l[j], (Nat.blt d i) = true := fun i j h hj d hd => by
    rw [Nat.blt_eq] at hj ⊢
    have := htop j h d hd; omega
  have hseq : ∀ i, i ≤ m → seqFS s.tmps.length s.fs dst R i = vL s.fs s.tmps.length m dst R (fun j => Nat.blt j i) := by
    intro i
    induction i with
    | zero =>
      intro _
      have : ∀ j, Nat.blt j 0 = false := fun j => by cases hq : Nat.blt j 0 with | false => rfl | true => rw [Nat.blt_eq] at hq; omega
      have hz : (fun j => Nat.blt j 0) = fun _ => false := funext this
      rw [hz]
      simp only [seqFS, vL, Bool.false_and]
      rw [find_none (fun _ _ => rfl)]
    | succ i ih =>
      intro hi
      rw [seqFS, ih (by omega), vL_app ok (by omega)]
      congr 1
      funext j
      rw [Bool.eq_iff_iff, Bool.or_eq_true, Nat.blt_eq, Nat.blt_eq, beq_iff_eq]
      omega
  subst hP
  have hstep : ∀ (L : Nat → Bool) (i : Nat) (him : i < m) (hi : i < l.length), L i = false → (∀ j (h : j < l.length), L j = true → ∀ d ∈ depsOf l[j], L d = true) → (∀ d ∈ depsOf l[i], L d = true) →
      ∀ (a : Act) (w : World), Rel c s.tmps.length (vL s.fs s.tmps.length m dst R L) a w → ∀ K : Act → World → Prop,
      (∀ a' w', Rel c s.tmps.length (vL s.fs s.tmps.length m dst R (fun j => L j || j == i)) a' w' → K a' w') → wpOpIn (Fw c.rd) 0 c.P ops Q i K a w := by
    intro L i him hi hL hcl hrd a w hrel K hK
    obtain ⟨si, tri, tri', eqi, q1, q2, -, q4, q5⟩ := heach i hi
    rw [hR'] at q1
    rw [hseq i (by omega)] at q4
    have hii : Nat.blt i i = false := by cases hq : Nat.blt i i with | false => rfl | true => rw [Nat.blt_eq] at hq; omega
    have hrd' : ∀ d ∈ depsOf l[i], Nat.blt d i = true := fun d hd => by rw [Nat.blt_eq]; exact htop i hi d hd
    have a1 := hanc L hcl i hi hrd
    have a2 := hanc _ (hpre i) i hi hrd'
    have c1 : ∀ j, j < m → L j = true → ∀ k, (A.getD j 0).testBit k = true → L k = true := fun j hj hLj => hanc L hcl j (by omega) (hcl j (by omega) hLj)
    have c2 : ∀ j, j < m → Nat.blt j i = true → ∀ k, (A.getD j 0).testBit k = true → Nat.blt k i = true := fun j hj hLj => hanc _ (hpre i) j (by omega) (hpre i j (by omega) hLj)
    have rd : ∀ t, t ∈ readsOf ops l[i] → (vL s.fs s.tmps.length m dst R (fun j => Nat.blt j i)).tmp t = (vL s.fs s.tmps.length m dst R L).tmp t := fun t ht =>
      vL_tmp (L := fun j => Nat.blt j i) (L' := L) ok him hii hL a2 a1 c2 c1 (by simp [hi, ht])
    have hfs : ∀ b, s.fs.blk b = si.blks.getD b none := fun b => by
      have e : si.fs.blk b = s.fs.blk b := by rw [q4]; rfl
      exact e.symm
    have hfn : ∀ b, s.fs.nst b = si.nst.contains b := fun b => by
      have e : si.fs.nst b = s.fs.nst b := by rw [q4]; rfl
      exact e.symm
    have q1' : opRec c.P inl ops l[i] ro gb (mxA true gb si) (vL s.fs s.tmps.length m dst R L) si.blks si.nst tri = some (R i, tri', eqi) := by
      rw [q4] at q1
      refine opRec_congrV (fun j want t hg hd => rd t ?_) (fun x hx => ?_) rfl rfl q1 (ok.cVal i him)
      · simp [readsOf, hg, hd]
      · cases x with
        | tmp t => exact rd t (by simp only [readsOf, List.mem_append, List.mem_filterMap]; exact .inl ⟨.tmp t, hx, rfl⟩)
        | const v => rfl
        | global g => rfl
        | func f => rfl
    have hoi : ops[i]? = some l[i] := by rw [hget]; simp [hi]
    unfold wpOpIn
    simp only [hoi]
    have := opRec_soundIn (r := c.rd) hinl rfl hGd hG h0 hgb hrel q1' q2 (fun b cs d nf hb => by have := ok.cVal i him; rw [hb] at this; cases this) (fun _ => ⟨hfs, hfn, fun t ht => by
      simp only [vL]
      rw [find_none (fun j _ => by
        have : Nat.blt t s.tmps.length = false := by cases hq : Nat.blt t s.tmps.length with | false => rfl | true => rw [Nat.blt_eq] at hq; omega
        rw [this]; simp)]
      exact tmp_out s t ht, .inr rfl⟩) (Q := Q) (K := K) (fun a' w' h' => hK a' w' (by
      rw [hdst' i hi, vL_app ok him] at h'; exact h'))
    exact this
  have hstepT : ∀ (i : Nat) (hi : i < l.length) (a : Act) (w : World), Rel c s.tmps.length (seqFS s.tmps.length s.fs dst R i) a w → ∀ K : Act → World → Prop,
      (∀ a' w', Rel c s.tmps.length (seqFS s.tmps.length s.fs dst R (i + 1)) a' w' → K a' w') → wpOpIn (Fw c.rd) 0 c.P ops Q i K a w := by
    intro i hi a w hrel K hK
    obtain ⟨si, tri, tri', eqi, q1, q2, q3, q4, q5⟩ := heach i hi
    rw [hR'] at q1
    have hoi : ops[i]? = some l[i] := by rw [hget]; simp [hi]
    unfold wpOpIn
    simp only [hoi]
    rw [← q4] at hrel
    have := opRec_soundIn (r := c.rd) hinl rfl hGd hG h0 hgb hrel q1 q2 (fun b cs d nf hb => by rw [(opRec_new q1).1 b cs d nf hb]; exact blk_len_none si) (fun _ => ⟨fun b => rfl, fun b => rfl, by rw [← q5]; exact tmp_out si, mxA_ok _ si hgb⟩) (Q := Q) (K := K) (fun a' w' h' => hK a' w' (by
      rw [hdst' i hi, q4] at h'; exact h'))
    exact this
  have congrL : ∀ (L L' : Nat → Bool), (∀ j, j < m → L j = L' j) → vL s.fs s.tmps.length m dst R L = vL s.fs s.tmps.length m dst R L' := by
    intro L L' hb
    simp only [vL]
    congr 1
    funext t; congr 1; exact find_congr fun j hj => by rw [hb j hj]
  exact draw_core (ops := ops) (A := A) hl hml hm htop hanc hbarred (fun L => vL s.fs s.tmps.length m dst R L) congrL hseq hfin hstep hstepT h hQ
/-! ### Open regions with appends: values and new variables at any time, the others one behind the other. -/
def Rec.isGrow : Rec → Bool
  | .grow _ _ _ => true
  | _ => false
def Rec.growAt : Rec → Nat → Bool
  | .grow b' _ _, b => b' == b
  | _, _ => false
theorem FSt.ext3 {a b : FSt} (h1 : ∀ t, a.tmp t = b.tmp t) (h2 : ∀ k, a.blk k = b.blk k) (h3 : ∀ k, a.nst k = b.nst k) : a = b := by
  cases a; cases b
  simp only [FSt.mk.injEq]
  exact ⟨funext h1, funext h2, funext h3⟩
/-- A value or a new variable that no append that moves a block undoes. -/
def LightR (gs : Nat → Bool) (R : Rec) : Prop :=
  (∃ d, R = .val d ∧ ∀ b ∈ d.refs, gs b = false) ∨ (∃ b cs d, R = .new b cs d false ∧ (∀ x ∈ cs, x.refs = []) ∧ (∀ b' ∈ d.refs, gs b' = false) ∧ gs b = false)
def KindR (gs : Nat → Bool) (R : Rec) : Prop := R.plain = true ∨ ∃ b cs d, R = .grow b cs d ∧ gs b = true
theorem clear_id {b : Nat} {d : D} (h : b ∉ d.refs) : d.clear b = d := by
  unfold D.clear
  rw [if_neg (by simpa using h)]
theorem clear_map {b : Nat} {cs : List D} (h : ∀ x ∈ cs, x.refs = []) : cs.map (D.clear b) = cs := by
  rw [List.map_congr_left fun x hx => clear_id (by rw [h x hx]; simp)]; exact List.map_id' cs
theorem com_light {gs : Nat → Bool} {Ri Rj : Rec} {di dj : Option Tmp} {n : Nat} (hi : LightR gs Ri) (hj : KindR gs Rj) (hd : ∀ t, di = some t → dj ≠ some t)
    (hb : ∀ b, Ri.isNew b = true → Rj.isNew b = false ∧ Rj.isStore b = false) (s : FSt) : (s.app n dj Rj).app n di Ri = (s.app n di Ri).app n dj Rj := by
  have put2 : ∀ (x y : D) (f : Nat → D) (t : Nat), (if di = some t ∧ t < n then x else if dj = some t ∧ t < n then y else f t) = if dj = some t ∧ t < n then y else if di = some t ∧ t < n then x else f t := by
    intro x y f t
    by_cases h1 : di = some t
    · have := hd t h1
      simp [this]
    · simp [h1]
  rcases hi with ⟨d, rfl, hr⟩ | ⟨b, cs, d, rfl, hc, hr, hg⟩
  · rcases hj with hj | ⟨b', cs', d', rfl, hg'⟩
    · cases Rj <;> first | (cases hj; done) | exact FSt.ext3 (fun t => put2 _ _ _ t) (fun k => rfl) (fun k => rfl)
    · have e : d.clear b' = d := clear_id fun h => by have := hr b' h; rw [hg'] at this; cases this
      refine FSt.ext3 (fun t => ?_) (fun k => rfl) (fun k => rfl)
      show (if di = some t ∧ t < n then d else if dj = some t ∧ t < n then d' else (s.tmp t).clear b') = if dj = some t ∧ t < n then d' else (if di = some t ∧ t < n then d else s.tmp t).clear b'
      by_cases h1 : di = some t ∧ t < n
      · have := hd t h1.1
        rw [if_pos h1, if_pos h1, if_neg (fun h => this h.1), e]
      · rw [if_neg h1, if_neg h1]
  · obtain ⟨n1, n2⟩ := hb b (by simp [Rec.isNew])
    rcases hj with hj | ⟨b', cs', d', rfl, hg'⟩
    · cases Rj with
      | grow => cases hj
      | own => cases hj
      | inl => cases hj
      | val d' => exact FSt.ext3 (fun t => put2 _ _ _ t) (fun k => rfl) (fun k => rfl)
      | new b' cs' d' nf =>
        have hne : b' ≠ b := by simpa [Rec.isNew] using n1
        refine FSt.ext3 (fun t => put2 _ _ _ t) (fun k => ?_) (fun k => ?_)
        · show (if k = b then some cs else if k = b' then some cs' else s.blk k) = if k = b' then some cs' else if k = b then some cs else s.blk k
          by_cases h : k = b
          · rw [if_pos h, if_neg (by rw [h]; exact Ne.symm hne), if_pos h]
          · rw [if_neg h, if_neg h]
        · show ((s.nst k || (nf && (k == b'))) || (false && (k == b))) = ((s.nst k || (false && (k == b))) || (nf && (k == b')))
          simp
      | store b' off ds d' nf =>
        have hne : b' ≠ b := by simpa [Rec.isStore] using n2
        refine FSt.ext3 (fun t => put2 _ _ _ t) (fun k => ?_) (fun k => ?_)
        · show (if k = b then some cs else if k = b' then (s.blk b').map _ else s.blk k) = if k = b' then (if b' = b then some cs else s.blk b').map _ else if k = b then some cs else s.blk k
          rw [if_neg hne]
          by_cases h : k = b
          · rw [if_pos h, if_neg (by rw [h]; exact Ne.symm hne), if_pos h]
          · rw [if_neg h, if_neg h]
        · show ((s.nst k || (nf && (k == b'))) || (false && (k == b))) = ((s.nst k || (false && (k == b))) || (nf && (k == b')))
          simp
    · have hne : b' ≠ b := fun e => by rw [e, hg] at hg'; cases hg'
      have e : d.clear b' = d := clear_id fun h => by have := hr b' h; rw [hg'] at this; cases this
      refine FSt.ext3 (fun t => ?_) (fun k => ?_) (fun k => ?_)
      · show (if di = some t ∧ t < n then d else if dj = some t ∧ t < n then d' else (s.tmp t).clear b') = if dj = some t ∧ t < n then d' else (if di = some t ∧ t < n then d else s.tmp t).clear b'
        by_cases h1 : di = some t ∧ t < n
        · have := hd t h1.1
          rw [if_pos h1, if_pos h1, if_neg (fun h => this h.1), e]
        · rw [if_neg h1, if_neg h1]
      · show (if k = b then some cs else if k = b' then some cs' else if s.nst k then (s.blk k).map (List.map (D.clear b')) else s.blk k) =
          if k = b' then some cs' else if (s.nst k || (false && (k == b))) then (if k = b then some cs else s.blk k).map (List.map (D.clear b')) else (if k = b then some cs else s.blk k)
        by_cases h : k = b
        · rw [if_pos h, if_neg (by rw [h]; exact Ne.symm hne), if_pos h, Option.map_some, clear_map hc]
          split <;> rfl
        · rw [if_neg h, if_neg h]
          simp
      · show ((s.nst k || (false && (k == b'))) || (false && (k == b))) = ((s.nst k || (false && (k == b))) || (false && (k == b')))
        simp
def gL (s0 : FSt) (n : Nat) (dst : Nat → Option Tmp) (R : Nat → Rec) (L : Nat → Bool) (m : Nat) : FSt := (List.range m).foldl (fun s j => if L j then s.app n (dst j) (R j) else s) s0
theorem gL_succ (s0 : FSt) (n : Nat) (dst : Nat → Option Tmp) (R : Nat → Rec) (L : Nat → Bool) (m : Nat) : gL s0 n dst R L (m + 1) = if L m then (gL s0 n dst R L m).app n (dst m) (R m) else gL s0 n dst R L m := by
  unfold gL
  rw [List.range_succ, List.foldl_append]; rfl
theorem gL_congr {s0 : FSt} {n : Nat} {dst : Nat → Option Tmp} {R : Nat → Rec} {L L' : Nat → Bool} : ∀ {m : Nat}, (∀ j, j < m → L j = L' j) → gL s0 n dst R L m = gL s0 n dst R L' m
  | 0, _ => rfl
  | m + 1, h => by rw [gL_succ, gL_succ, gL_congr (m := m) fun j hj => h j (by omega), h m (by omega)]
/-- One more, if it goes with all behind it that have been carried out. -/
theorem gL_add {s0 : FSt} {n : Nat} {dst : Nat → Option Tmp} {R : Nat → Rec} {L : Nat → Bool} {i : Nat} (hL : L i = false) : ∀ {m : Nat}, i < m → (∀ j, i < j → j < m → L j = true → ∀ s : FSt, (s.app n (dst j) (R j)).app n (dst i) (R i) = (s.app n (dst i) (R i)).app n (dst j) (R j)) →
    (gL s0 n dst R L m).app n (dst i) (R i) = gL s0 n dst R (fun j => L j || j == i) m
  | 0, hi, _ => by omega
  | m + 1, hi, hc => by
    rw [gL_succ, gL_succ]
    by_cases him : m = i
    · subst him
      rw [hL]
      simp only [beq_self_eq_true, Bool.or_true, if_true, Bool.false_eq_true, if_false]
      rw [gL_congr (L := L) (L' := fun j => L j || j == m) fun j hj => by
        have : (j == m) = false := by rw [beq_eq_false_iff_ne]; omega
        rw [this, Bool.or_false]]
    · have h9 : (m == i) = false := by simpa using him
      simp only [h9, Bool.or_false]
      have ih := gL_add (s0 := s0) (n := n) (dst := dst) (R := R) hL (m := m) (by omega) fun j h1 h2 h3 => hc j h1 (by omega) h3
      cases hq : L m with
      | true => simp only [if_true]; rw [hc m (by omega) (by omega) hq, ih]
      | false => simp only [Bool.false_eq_true, if_false]; exact ih
theorem gL_pre {s0 : FSt} {n : Nat} {dst : Nat → Option Tmp} {R : Nat → Rec} : ∀ {m i : Nat}, i ≤ m → gL s0 n dst R (fun j => Nat.blt j i) m = seqFS n s0 dst R i
  | 0, i, h => by
    obtain rfl : i = 0 := by omega
    rfl
  | m + 1, i, h => by
    rw [gL_succ]
    by_cases hi : i = m + 1
    · subst hi
      have : Nat.blt m (m + 1) = true := by rw [Nat.blt_eq]; omega
      rw [this]
      simp only [if_true]
      rw [gL_congr (L := fun j => Nat.blt j (m + 1)) (L' := fun j => Nat.blt j m) fun j hj => by rw [Bool.eq_iff_iff, Nat.blt_eq, Nat.blt_eq]; omega, gL_pre (Nat.le_refl m)]
      rfl
    · have : Nat.blt m i = false := by cases hq : Nat.blt m i with | false => rfl | true => rw [Nat.blt_eq] at hq; omega
      rw [this]
      simp only [Bool.false_eq_true, if_false]
      exact gL_pre (by omega)
structure FloatOk (s0 : FSt) (m : Nat) (dst : Nat → Option Tmp) (reads : Nat → Tmp → Bool) (R : Nat → Rec) (acc : Nat → Option Nat) (anc : Nat → Nat → Bool) (lt : Nat → Prop) (gs : Nat → Bool) : Prop where
  cLight : ∀ i j, i < m → j < m → i ≠ j → anc i j = false → anc j i = false → lt i ∨ lt j
  cDst : ∀ i j t, i < m → j < m → i ≠ j → anc i j = false → anc j i = false → dst i = some t → dst j ≠ some t
  cBlk : ∀ i j b, i < m → j < m → i ≠ j → anc i j = false → anc j i = false → (R i).isNew b = true → (R j).isNew b = false ∧ (R j).isStore b = false
  cReads : ∀ i j t, i < m → j < m → i ≠ j → anc i j = false → anc j i = false → reads i t = true → dst j ≠ some t
  cAcc : ∀ i j b, i < m → j < m → i ≠ j → anc i j = false → anc j i = false → acc i = some b → (R j).isNew b = false ∧ (R j).isStore b = false ∧ (R j).isGrow = false
  cLV : ∀ i, i < m → lt i → LightR gs (R i)
  cKind : ∀ i, i < m → KindR gs (R i)
  cLR0 : ∀ i t, i < m → lt i → reads i t = true → ∀ b ∈ (s0.tmp t).refs, gs b = false
  cLR : ∀ i j t, i < m → j < m → j ≠ i → lt i → reads i t = true → dst j = some t → lt j
  cNew : ∀ i b, i < m → (R i).isNew b = true → s0.blk b = none
  cNewO : ∀ i j b, i < m → j < m → i ≠ j → (R i).isNew b = true → (R j).isNew b = false ∧ ((R j).isStore b = true ∨ (R j).growAt b = true → anc j i = true)

section stepG
variable {s0 : FSt} {n m : Nat} {dst : Nat → Option Tmp} {reads : Nat → Tmp → Bool} {R : Nat → Rec} {acc : Nat → Option Nat} {anc : Nat → Nat → Bool} {lt : Nat → Prop} {gs : Nat → Bool}
theorem com_pair (ok : FloatOk s0 m dst reads R acc anc lt gs) {i j : Nat} (hi : i < m) (hj : j < m) (hij : i ≠ j) (h1 : anc i j = false) (h2 : anc j i = false) (s : FSt) :
    (s.app n (dst j) (R j)).app n (dst i) (R i) = (s.app n (dst i) (R i)).app n (dst j) (R j) := by
  rcases ok.cLight i j hi hj hij h1 h2 with h | h
  · exact com_light (ok.cLV i hi h) (ok.cKind j hj) (fun t => ok.cDst i j t hi hj hij h1 h2) (fun b => ok.cBlk i j b hi hj hij h1 h2) s
  · exact (com_light (ok.cLV j hj h) (ok.cKind i hi) (fun t => ok.cDst j i t hj hi (Ne.symm hij) h2 h1) (fun b => ok.cBlk j i b hj hi (Ne.symm hij) h2 h1) s).symm
/-- One more. -/
theorem gL_app (ok : FloatOk s0 m dst reads R acc anc lt gs) (hlow : ∀ i j, i < m → anc i j = true → j < i) {L : Nat → Bool} {i : Nat} (hi : i < m) (hL : L i = false) (hcl : ∀ j, j < m → L j = true → ∀ k, anc j k = true → L k = true) :
    (gL s0 n dst R L m).app n (dst i) (R i) = gL s0 n dst R (fun j => L j || j == i) m := by
  refine gL_add hL hi fun j h1 h2 h3 s => com_pair ok hi h2 (by omega) ?_ ?_ s
  · cases hq : anc i j with
    | false => rfl
    | true => have := hlow i j hi hq; omega
  · cases hq : anc j i with
    | false => rfl
    | true => have := hcl j h2 h3 i hq; rw [hL] at this; cases this
/-- What a light one reads is never undone. -/
theorem gL_lightTmp (ok : FloatOk s0 m dst reads R acc anc lt gs) {L : Nat → Bool} {i : Nat} (hi : i < m) (hlt : lt i) (hL : L i = false) {t : Tmp} (ht : reads i t = true) : ∀ m', m' ≤ m → ∀ b ∈ ((gL s0 n dst R L m').tmp t).refs, gs b = false
  | 0, _, b, hb => ok.cLR0 i t hi hlt ht b hb
  | m' + 1, hm, b, hb => by
    rw [gL_succ] at hb
    have ih := gL_lightTmp ok hi hlt hL ht m' (by omega)
    split at hb
    · rename_i hLm
      have hne : m' ≠ i := fun e => by rw [e, hL] at hLm; cases hLm
      have put : ∀ (s : FSt) (d : D), (dst m' = some t → ∀ b ∈ d.refs, gs b = false) → (∀ b ∈ (s.tmp t).refs, gs b = false) → b ∈ ((s.put n (dst m') d).tmp t).refs → gs b = false := fun s d h1 h2 h3 => by
        have h3' : b ∈ (if dst m' = some t ∧ t < n then d else s.tmp t).refs := h3
        by_cases hc : dst m' = some t ∧ t < n
        · rw [if_pos hc] at h3'; exact h1 hc.1 b h3'
        · rw [if_neg hc] at h3'; exact h2 b h3'
      have lit : dst m' = some t → LightR gs (R m') := fun e => ok.cLV m' (by omega) (ok.cLR i m' t hi (by omega) hne hlt ht e)
      have kd := ok.cKind m' (by omega)
      cases hR : R m' with
      | val d =>
        rw [hR] at hb
        refine put _ d (fun e => ?_) ih hb
        rcases lit e with ⟨d', e2, h⟩ | ⟨b', cs, d', e2, -⟩
        · rw [hR] at e2; cases e2; exact h
        · rw [hR] at e2; cases e2
      | new b' cs d nf =>
        rw [hR] at hb
        refine put (FSt.setBlk _ b' (some cs) nf) d (fun e => ?_) ih hb
        rcases lit e with ⟨d', e2, h⟩ | ⟨b', cs, d', e2, _, h, _⟩
        · rw [hR] at e2; cases e2
        · rw [hR] at e2; cases e2; exact h
      | store b' off ds d nf =>
        rw [hR] at hb
        refine put (FSt.setBlk _ b' _ nf) d (fun e => ?_) ih hb
        rcases lit e with ⟨d', e2, h⟩ | ⟨b', cs, d', e2, -⟩
        · rw [hR] at e2; cases e2
        · rw [hR] at e2; cases e2
      | grow b' cs d =>
        rw [hR] at hb
        refine put (FSt.setBlk (FSt.clear _ b') b' (some cs) false) d (fun e => ?_) (fun b2 h2 => ih b2 (clear_refs h2).1) hb
        rcases lit e with ⟨d', e2, h⟩ | ⟨b', cs, d', e2, -⟩
        · rw [hR] at e2; cases e2
        · rw [hR] at e2; cases e2
      | own d =>
        rcases kd with kd | ⟨_, _, _, e, _⟩
        · rw [hR] at kd; cases kd
        · rw [hR] at e; cases e
      | inl bl nl d =>
        rcases kd with kd | ⟨_, _, _, e, _⟩
        · rw [hR] at kd; cases kd
        · rw [hR] at e; cases e
    · exact ih b hb
/-- Whoever has nothing to do with number i leaves what it looks at. -/
theorem app_looks (ok : FloatOk s0 m dst reads R acc anc lt gs) {i j : Nat} (hi : i < m) (hj : j < m) (hij : i ≠ j) (h1 : anc i j = false) (h2 : anc j i = false) {s : FSt} (hs : lt i → ∀ t, reads i t = true → ∀ b ∈ (s.tmp t).refs, gs b = false) :
    (∀ t, reads i t = true → (s.app n (dst j) (R j)).tmp t = s.tmp t) ∧ (∀ b, acc i = some b → (s.app n (dst j) (R j)).blk b = s.blk b) ∧ (¬ lt i → (s.app n (dst j) (R j)).nst = s.nst) := by
  have hd : ∀ t, reads i t = true → dst j ≠ some t := fun t => ok.cReads i j t hi hj hij h1 h2
  have ha : ∀ b, acc i = some b → (R j).isNew b = false ∧ (R j).isStore b = false ∧ (R j).isGrow = false := fun b => ok.cAcc i j b hi hj hij h1 h2
  have putT : ∀ (s : FSt) (d : D) t, reads i t = true → (s.put n (dst j) d).tmp t = s.tmp t := fun s d t ht => if_neg fun h => hd t ht h.1
  have lj : ¬ lt i → LightR gs (R j) := fun h => ok.cLV j hj ((ok.cLight i j hi hj hij h1 h2).resolve_left h)
  have kd := ok.cKind j hj
  cases hR : R j with
  | val d => exact ⟨putT s d, fun b _ => rfl, fun _ => rfl⟩
  | new b' cs d nf =>
    refine ⟨putT _ d, fun b hb => ?_, fun h => ?_⟩
    · have := (ha b hb).1
      rw [hR] at this
      have hne : b' ≠ b := by simpa [Rec.isNew] using this
      show (if b = b' then some cs else s.blk b) = s.blk b
      rw [if_neg (Ne.symm hne)]
    · rcases lj h with ⟨d', e2, -⟩ | ⟨b', cs, d', e2, -⟩
      · rw [hR] at e2; cases e2
      · rw [hR] at e2; cases e2
        funext k
        show (s.nst k || (false && (k == b'))) = s.nst k
        simp
  | store b' off ds d nf =>
    refine ⟨putT _ d, fun b hb => ?_, fun h => ?_⟩
    · have := (ha b hb).2.1
      rw [hR] at this
      have hne : b' ≠ b := by simpa [Rec.isStore] using this
      show (if b = b' then _ else s.blk b) = s.blk b
      rw [if_neg (Ne.symm hne)]
    · rcases lj h with ⟨d', e2, -⟩ | ⟨b', cs, d', e2, -⟩ <;> (rw [hR] at e2; cases e2)
  | grow b' cs d =>
    have hg : gs b' = true := by
      rcases kd with kd | ⟨_, _, _, e, hg⟩
      · rw [hR] at kd; cases kd
      · rw [hR] at e; cases e; exact hg
    have hlt : lt i := by
      rcases ok.cLight i j hi hj hij h1 h2 with h | h
      · exact h
      · rcases ok.cLV j hj h with ⟨d', e2, -⟩ | ⟨b', cs, d', e2, -⟩ <;> (rw [hR] at e2; cases e2)
    refine ⟨fun t ht => ?_, fun b hb => ?_, fun h => absurd hlt h⟩
    · have e1 := putT ((s.clear b').setBlk b' (some cs) false) d t ht
      show (((s.clear b').setBlk b' (some cs) false).put n (dst j) d).tmp t = s.tmp t
      rw [e1]
      exact clear_id fun h => by have := hs hlt t ht b' h; rw [hg] at this; cases this
    · have := (ha b hb).2.2
      rw [hR] at this; cases this
  | own d =>
    rcases kd with kd | ⟨_, _, _, e, _⟩
    · rw [hR] at kd; cases kd
    · rw [hR] at e; cases e
  | inl bl nl d =>
    rcases kd with kd | ⟨_, _, _, e, _⟩
    · rw [hR] at kd; cases kd
    · rw [hR] at e; cases e
/-- What number i looks at. -/
def Looks (reads : Nat → Tmp → Bool) (acc : Nat → Option Nat) (lt : Nat → Prop) (i : Nat) (a b : FSt) : Prop :=
  (∀ t, reads i t = true → b.tmp t = a.tmp t) ∧ (∀ k, acc i = some k → b.blk k = a.blk k) ∧ (¬ lt i → b.nst = a.nst)
theorem gL_many (ok : FloatOk s0 m dst reads R acc anc lt gs) (hlow : ∀ i j, i < m → anc i j = true → j < i) {i : Nat} (hi : i < m) {S S' : Nat → Bool} (hsub : ∀ j, S j = true → S' j = true)
    (hcl : ∀ j, j < m → S j = true → ∀ k, anc j k = true → S k = true) (hSi : S' i = false) (hun : ∀ k, k < m → S' k = true → S k = false → anc i k = false ∧ anc k i = false) :
    Looks reads acc lt i (gL s0 n dst R S m) (gL s0 n dst R S' m) := by
  have key : ∀ k, k ≤ m → Looks reads acc lt i (gL s0 n dst R S m) (gL s0 n dst R (fun j => S j || (S' j && Nat.blt j k)) m) := by
    intro k
    induction k with
    | zero =>
      intro _
      have e : (fun j => S j || (S' j && Nat.blt j 0)) = S := by
        funext j
        have : Nat.blt j 0 = false := by cases hq : Nat.blt j 0 with | false => rfl | true => rw [Nat.blt_eq] at hq; omega
        rw [this]; simp
      rw [e]
      exact ⟨fun _ _ => rfl, fun _ _ => rfl, fun _ => rfl⟩
    | succ k ih =>
      intro hk
      have ih := ih (by omega)
      by_cases hc : S k = false ∧ S' k = true
      · obtain ⟨u1, u2⟩ := hun k (by omega) hc.2 hc.1
        have hki : i ≠ k := fun e => by rw [← e] at hc; rw [hSi] at hc; cases hc.2
        have hkk : Nat.blt k k = false := by cases hq : Nat.blt k k with | false => rfl | true => rw [Nat.blt_eq] at hq; omega
        have hz : (fun j => S j || (S' j && Nat.blt j k)) k = false := by simp only [hc.1, hc.2, hkk]; rfl
        have add := gL_add (s0 := s0) (n := n) (dst := dst) (R := R) (L := fun j => S j || (S' j && Nat.blt j k)) (i := k) hz (m := m) (by omega) (fun j h1 h2 h3 s => by
          have hSj : S j = true := by
            have : Nat.blt j k = false := by cases hq : Nat.blt j k with | false => rfl | true => rw [Nat.blt_eq] at hq; omega
            simpa [this] using h3
          refine com_pair ok (by omega) h2 (by omega) ?_ ?_ s
          · cases hq : anc k j with
            | false => rfl
            | true => have := hlow k j (by omega) hq; omega
          · cases hq : anc j k with
            | false => rfl
            | true => have := hcl j h2 hSj k hq; rw [hc.1] at this; cases this)
        have e : (fun j => (S j || (S' j && Nat.blt j k)) || j == k) = fun j => S j || (S' j && Nat.blt j (k + 1)) := by
          funext j
          rw [Bool.eq_iff_iff]
          simp only [Bool.or_eq_true, Bool.and_eq_true, Nat.blt_eq, beq_iff_eq]
          constructor
          · rintro ((h | ⟨h, h'⟩) | h)
            · exact .inl h
            · exact .inr ⟨h, by omega⟩
            · subst h; exact .inr ⟨hc.2, by omega⟩
          · rintro (h | ⟨h, h'⟩)
            · exact .inl (.inl h)
            · by_cases hjk : j = k
              · exact .inr hjk
              · exact .inl (.inr ⟨h, by omega⟩)
        rw [e] at add
        have hii : (fun j => S j || (S' j && Nat.blt j k)) i = false := by
          have hSi0 : S i = false := by
            cases hq : S i with
            | false => rfl
            | true => have := hsub i hq; rw [hSi] at this; cases this
          simp only [hSi, hSi0]; rfl
        obtain ⟨a1, a2, a3⟩ := app_looks (n := n) ok hi (by omega : k < m) hki u1 u2 (s := gL s0 n dst R (fun j => S j || (S' j && Nat.blt j k)) m) (fun hlt t ht => gL_lightTmp ok hi hlt hii ht m (Nat.le_refl m))
        rw [add] at a1 a2 a3
        exact ⟨fun t ht => (a1 t ht).trans (ih.1 t ht), fun b hb => (a2 b hb).trans (ih.2.1 b hb), fun h => (a3 h).trans (ih.2.2 h)⟩
      · have e : (fun j => S j || (S' j && Nat.blt j (k + 1))) = fun j => S j || (S' j && Nat.blt j k) := by
          funext j
          rw [Bool.eq_iff_iff]
          simp only [Bool.or_eq_true, Bool.and_eq_true, Nat.blt_eq]
          constructor
          · rintro (h | ⟨h, h'⟩)
            · exact .inl h
            · by_cases hjk : j = k
              · subst hjk
                left
                cases hq : S j with
                | true => rfl
                | false => exact absurd ⟨hq, h⟩ hc
              · exact .inr ⟨h, by omega⟩
          · rintro (h | ⟨h, h'⟩)
            · exact .inl h
            · exact .inr ⟨h, by omega⟩
        rw [e]; exact ih
  have := key m (Nat.le_refl m)
  rwa [gL_congr (L := fun j => S j || (S' j && Nat.blt j m)) (L' := S') fun j hj => by
    have hb : Nat.blt j m = true := by rw [Nat.blt_eq]; exact hj
    rw [hb, Bool.and_true]
    cases hq : S j with
    | true => rw [hsub j hq]; rfl
    | false => rfl] at this
theorem gL_looks (ok : FloatOk s0 m dst reads R acc anc lt gs) (hlow : ∀ i j, i < m → anc i j = true → j < i) {L : Nat → Bool} {i : Nat} (hi : i < m) (hL : L i = false)
    (hcl : ∀ j, j < m → L j = true → ∀ k, anc j k = true → L k = true) (hr : ∀ k, anc i k = true → L k = true) :
    Looks reads acc lt i (gL s0 n dst R L m) (gL s0 n dst R (fun j => Nat.blt j i) m) := by
  have hii : Nat.blt i i = false := by cases hq : Nat.blt i i with | false => rfl | true => rw [Nat.blt_eq] at hq; omega
  have hM : (fun j => L j || Nat.blt j i) i = false := by simp only [hL, hii]; rfl
  have hanc : ∀ k, k < m → (L k || Nat.blt k i) = true → anc k i = false := fun k hk h => by
    cases hq : anc k i with
    | false => rfl
    | true =>
      rw [Bool.or_eq_true, Nat.blt_eq] at h
      rcases h with h | h
      · have := hcl k hk h i hq; rw [hL] at this; cases this
      · have := hlow k i hk hq; omega
  have l1 := gL_many (n := n) ok hlow hi (S := L) (S' := fun j => L j || Nat.blt j i) (fun j h => by simp [h]) hcl hM (fun k hk h1 h2 => ⟨(by
    cases hq : anc i k with
    | false => rfl
    | true => have := hr k hq; rw [h2] at this; cases this), hanc k hk h1⟩)
  have l2 := gL_many (n := n) ok hlow hi (S := fun j => Nat.blt j i) (S' := fun j => L j || Nat.blt j i) (fun j h => by simp [h]) (fun j hj h k hk => by
    rw [Nat.blt_eq] at h ⊢
    have := hlow j k hj hk; omega) hM (fun k hk h1 h2 => ⟨(by
    cases hq : anc i k with
    | false => rfl
    | true =>
      have := hlow i k hi hq
      have h3 : Nat.blt k i = true := by rw [Nat.blt_eq]; exact this
      rw [h3] at h2; cases h2), hanc k hk h1⟩)
  exact ⟨fun t ht => (l2.1 t ht).symm.trans (l1.1 t ht), fun b hb => (l2.2.1 b hb).symm.trans (l1.2.1 b hb), fun h => (l2.2.2 h).symm.trans (l1.2.2 h)⟩
/-- A new block's number is free as long as it has not been made. -/
theorem gL_fresh (ok : FloatOk s0 m dst reads R acc anc lt gs) {L : Nat → Bool} {i b : Nat} (hi : i < m) (hL : L i = false) (hb : (R i).isNew b = true) (hcl : ∀ j, j < m → L j = true → ∀ k, anc j k = true → L k = true) : ∀ m', m' ≤ m → (gL s0 n dst R L m').blk b = none
  | 0, _ => ok.cNew i b hi hb
  | m' + 1, hm => by
    rw [gL_succ]
    have ih := gL_fresh ok hi hL hb hcl m' (by omega)
    split
    · rename_i hLm
      have hne : i ≠ m' := fun e => by rw [← e, hL] at hLm; cases hLm
      obtain ⟨n1, n2⟩ := ok.cNewO i m' b hi (by omega) hne hb
      have n3 : ¬ ((R m').isStore b = true ∨ (R m').growAt b = true) := fun h => by have := hcl m' (by omega) hLm i (n2 h); rw [hL] at this; cases this
      have kd := ok.cKind m' (by omega)
      cases hR : R m' with
      | val d => exact ih
      | new b' cs d nf =>
        rw [hR] at n1
        have hn : b' ≠ b := by simpa [Rec.isNew] using n1
        show (if b = b' then some cs else _) = none
        rw [if_neg (Ne.symm hn)]; exact ih
      | store b' off ds d nf =>
        rw [hR] at n3
        have hn : b' ≠ b := fun e => n3 (.inl (by simp [Rec.isStore, e]))
        show (if b = b' then _ else (gL s0 n dst R L m').blk b) = none
        rw [if_neg (Ne.symm hn)]; exact ih
      | grow b' cs d =>
        rw [hR] at n3
        have hn : b' ≠ b := fun e => n3 (.inr (by simp [Rec.growAt, e]))
        show (if b = b' then some cs else if (gL s0 n dst R L m').nst b then ((gL s0 n dst R L m').blk b).map (List.map (D.clear b')) else (gL s0 n dst R L m').blk b) = none
        rw [if_neg (Ne.symm hn), ih]; simp
      | own d =>
        rcases kd with kd | ⟨_, _, _, e, _⟩
        · rw [hR] at kd; cases kd
        · rw [hR] at e; cases e
      | inl bl nl d =>
        rcases kd with kd | ⟨_, _, _, e, _⟩
        · rw [hR] at kd; cases kd
        · rw [hR] at e; cases e
    · exact ih
end stepG
/-! The check. -/
def Info.grows (x : Info) : List Nat := match x.rc with
  | .grow b _ _ => [b]
  | _ => []
def Info.light (gs : List Nat) (x : Info) : Bool := match x.rc with
  | .val d => d.refs.all fun b => !gs.contains b
  | .new b cs d nf => !nf && (cs.all (fun c => c.refs.isEmpty) && ((d.refs.all fun b => !gs.contains b) && !gs.contains b))
  | _ => false
def Info.pairF (gs : List Nat) (x y : Info) : Bool :=
  (x.ix == y.ix || (x.anc.testBit y.ix || y.anc.testBit x.ix)) ||
    ((x.light gs || y.light gs) &&
    ((match x.dst with | some t => !(y.dst == some t) | none => true) &&
    ((match x.rc with | .new b _ _ _ => !(y.rc.isNew b) && !(y.rc.isStore b) | _ => true) &&
    ((match y.dst with | some t => !(x.reads.contains t) | none => true) &&
    (match x.acc with | some b => !(y.rc.isNew b) && (!(y.rc.isStore b) && !y.rc.isGrow) | none => true)))))
/-- What a light one reads, light ones have made; a new block is new to all. -/
def Info.pairG (gs : List Nat) (x y : Info) : Bool :=
  x.ix == y.ix || ((!(x.light gs) || (match y.dst with | some t => !(x.reads.contains t) || y.light gs | none => true)) &&
    (match x.rc with | .new b _ _ _ => !(y.rc.isNew b) && ((!(y.rc.isStore b) && !(y.rc.growAt b)) || y.anc.testBit x.ix) | _ => true))
def Info.loneF (gs : List Nat) (tmps : List D) (s0len : Nat) (x : Info) : Bool :=
  (x.rc.plain || x.rc.isGrow) && ((!(x.light gs) || x.reads.all fun t => (tmps.getD t .any).refs.all fun b => !gs.contains b) &&
    (match x.rc with | .new b _ _ _ => Nat.ble s0len b | _ => true))
def floatCheck (ops : Array Oper) (s : St) (l : List Oper) (recs : List (Rec × Option Nat)) : Bool :=
  let xs := infos ops 0 l recs (ancs l [])
  let gs := xs.flatMap Info.grows
  topo 0 l && (xs.all (Info.loneF gs s.tmps s.blks.length) && xs.all fun x => xs.all fun y => x.pairF gs y && x.pairG gs y)
theorem float_sound {dr : Bool} {c : Ctx} {Q : Exit → Act → World → Prop} {inl : Inline P Good} (hinl : InlOk P Good inl) {gb : Nat} (hgb : c.gb ≤ gb) (hP : c.P = P) (hGd : c.Good = Good) (hG : Steady Good) (h0 : c.Good c.w0) (hm : P.follows .mixedOrders = true) {id : Nat} {ops : Array Oper} {ro : List Nat}
    {s s' : St} {tr tr' : List (Item P Good)} {eqs : List (Got × Got)} {recs : List (Rec × Option Nat)} {a : Act} {w : World}
    (hr : runOps P inl dr ops ro gb ops.toList s tr = some (s', tr', eqs, recs)) (he : Agree eqs) (hck : floatCheck ops s ops.toList recs = true)
    (h : Rel c s.tmps.length s.fs a w) (hQ : ∀ a' w', Rel c s.tmps.length s'.fs a' w' → Q .normal a' w') : (Code.region id ops true).wpIn (Fw c.rd) 0 P Q a w := by
  obtain ⟨hlen, hfin, heach⟩ := runOps_each _ _ _ _ _ _ _ hr he
  generalize hl : ops.toList = l at *
  have hget : ∀ i : Nat, ops[i]? = l[i]? := fun i => by rw [← hl]; simp
  simp only [floatCheck, Bool.and_eq_true, List.all_eq_true] at hck
  obtain ⟨ht, hlone, hpair⟩ := hck
  have htop : ∀ i (h : i < l.length), ∀ d ∈ depsOf l[i], d < i := fun i h d hd => by have := topo_ok 0 l ht i h d hd; omega
  obtain ⟨hok, hal⟩ := ancs_ok l l [] [] rfl rfl ⟨by simp, fun i h => absurd h (by simp)⟩ htop
  generalize hA : ancs l [] = A at *
  have hat := infos_at (ops := ops) 0 l recs A hlen hal
  simp only [Nat.zero_add] at hat
  have hmem : ∀ j (h' : j < l.length), ⟨j, l[j].dst, readsOf ops l[j], (recs.getD j (.val .any, none)).1, (recs.getD j (.val .any, none)).2, A.getD j 0⟩ ∈ infos ops 0 l recs A := fun j h' =>
    List.mem_iff_getElem?.2 ⟨j, hat j h'⟩
  generalize hgs : (infos ops 0 l recs A).flatMap Info.grows = gs at *
  generalize hdst : (fun j : Nat => (l[j]?).bind (fun x : Oper => x.dst)) = dst at *
  generalize hRR : (fun j : Nat => (recs.getD j (.val .any, none)).1) = R at *
  generalize hAC : (fun j : Nat => (recs.getD j ((.val .any, none) : Rec × Option Nat)).2) = acc
  have hdst' : ∀ i (h : i < l.length), l[i].dst = dst i := fun i h => by rw [← hdst]; simp [h]
  have hR' : ∀ i, (recs.getD i (.val .any, none)).1 = R i := fun i => by rw [← hRR]
  have hAC' : ∀ i, (recs.getD i (.val .any, none)).2 = acc i := fun i => by rw [← hAC]
  have hlow : ∀ i j, i < l.length → (A.getD i 0).testBit j = true → j < i := by
    intro i
    induction i using Nat.strongRecOn with
    | _ i ih =>
      intro j hi hj
      obtain ⟨d, hd, h1⟩ := hok.2 i (by omega) hi j hj
      have hdi := htop i hi d hd
      rcases h1 with h1 | ⟨_, h2⟩
      · omega
      · have := ih d hdi j (by omega) h2; omega
  let mk : ∀ i (h : i < l.length), Info := fun i h => ⟨i, dst i, readsOf ops l[i], R i, acc i, A.getD i 0⟩
  have P2 : ∀ i j (hi : i < l.length) (hj : j < l.length), Info.pairF gs (mk i hi) (mk j hj) = true ∧ Info.pairG gs (mk i hi) (mk j hj) = true := by
    intro i j hi hj
    have := hpair _ (hmem i hi) _ (hmem j hj)
    simpa only [hdst', hR', hAC'] using this
  have P1 : ∀ i (hi : i < l.length), Info.loneF gs s.tmps s.blks.length (mk i hi) = true := by
    intro i hi
    have := hlone _ (hmem i hi)
    simpa only [hdst', hR', hAC'] using this
  have hgrow : ∀ i b cs d, i < l.length → R i = .grow b cs d → gs.contains b = true := by
    intro i b cs d hi e
    have : b ∈ gs := by
      rw [← hgs]
      refine List.mem_flatMap.2 ⟨_, hmem i hi, ?_⟩
      simp only [Info.grows, hR', e, List.mem_singleton]
    simpa using this
  let lt : Nat → Prop := fun i => ∃ h : i < l.length, Info.light gs (mk i h) = true
  have unrel : ∀ i j (hi : i < l.length) (hj : j < l.length), i ≠ j → (A.getD i 0).testBit j = false → (A.getD j 0).testBit i = false →
      (Info.light gs (mk i hi) = true ∨ Info.light gs (mk j hj) = true) ∧ (match dst i with | some t => !(dst j == some t) | none => true) = true ∧
      (match R i with | .new b _ _ _ => !((R j).isNew b) && !((R j).isStore b) | _ => true) = true ∧
      (match dst j with | some t => !((readsOf ops l[i]).contains t) | none => true) = true ∧
      (match acc i with | some b => !((R j).isNew b) && (!((R j).isStore b) && !(R j).isGrow) | none => true) = true := by
    intro i j hi hj hij h1 h2
    have := (P2 i j hi hj).1
    have hb : (i == j) = false := by simpa using hij
    simp only [Info.pairF, mk, hb, h1, h2, Bool.or_self, Bool.false_or, Bool.and_eq_true, Bool.or_eq_true] at this
    exact ⟨this.1, this.2.1, this.2.2.1, this.2.2.2.1, this.2.2.2.2⟩
  have ok : FloatOk s.fs l.length dst (fun i t => ((l[i]?).map fun o => (readsOf ops o).contains t) == some true) R acc (fun i j => (A.getD i 0).testBit j) lt (fun b => gs.contains b) := by
    refine ⟨fun i j hi hj hij h1 h2 => ?_, fun i j t hi hj hij h1 h2 e1 e2 => ?_, fun i j b hi hj hij h1 h2 e1 => ?_, fun i j t hi hj hij h1 h2 e1 e2 => ?_, fun i j b hi hj hij h1 h2 e1 => ?_, fun i hi hlt => ?_, fun i hi => ?_, fun i t hi hlt e1 b hb => ?_, fun i j t hi hj hij hlt e1 e2 => ?_, fun i b hi e1 => ?_, fun i j b hi hj hij e1 => ?_⟩
    · exact (unrel i j hi hj hij h1 h2).1.imp (fun h => ⟨hi, h⟩) (fun h => ⟨hj, h⟩)
    · have := (unrel i j hi hj hij h1 h2).2.1
      rw [e1, e2] at this; simp at this
    · have := (unrel i j hi hj hij h1 h2).2.2.1
      cases hq : R i <;> simp only [hq, Rec.isNew, Bool.false_eq_true] at e1
      simp only [beq_iff_eq] at e1
      subst e1
      rw [hq] at this
      simpa using this
    · have := (unrel i j hi hj hij h1 h2).2.2.2.1
      have h1' : (readsOf ops l[i]).contains t = true := by simpa [hi] using e1
      rw [e2] at this
      simp only [h1', Bool.not_true, Bool.false_eq_true] at this
    · have := (unrel i j hi hj hij h1 h2).2.2.2.2
      rw [e1] at this
      simpa using this
    · obtain ⟨h, hlt⟩ := hlt
      simp only [Info.light, mk] at hlt
      cases hq : R i with
      | val d =>
        rw [hq] at hlt
        refine .inl ⟨d, rfl, fun b hb => ?_⟩
        have := List.all_eq_true.1 hlt b hb
        simpa using this
      | new b cs d nf =>
        rw [hq] at hlt
        simp only [Bool.and_eq_true, Bool.not_eq_true', List.all_eq_true, List.isEmpty_iff] at hlt
        obtain ⟨rfl, h2, h3, h4⟩ := hlt
        exact .inr ⟨b, cs, d, rfl, h2, h3, h4⟩
      | store => rw [hq] at hlt; cases hlt
      | grow => rw [hq] at hlt; cases hlt
      | own => rw [hq] at hlt; cases hlt
      | inl => rw [hq] at hlt; cases hlt
    · have := P1 i hi
      simp only [Info.loneF, mk, Bool.and_eq_true, Bool.or_eq_true] at this
      rcases this.1 with h | h
      · exact .inl h
      · cases hq : R i with
        | grow b cs d => exact .inr ⟨b, cs, d, rfl, hgrow i b cs d hi hq⟩
        | val => rw [hq] at h; cases h
        | new => rw [hq] at h; cases h
        | store => rw [hq] at h; cases h
        | own => rw [hq] at h; cases h
        | inl => rw [hq] at h; cases h
    · obtain ⟨h, hlt⟩ := hlt
      have := P1 i hi
      simp only [Info.loneF, Bool.and_eq_true, Bool.or_eq_true, hlt, Bool.not_true, Bool.false_eq_true, false_or, List.all_eq_true] at this
      have h1' : t ∈ readsOf ops l[i] := by simpa [hi] using e1
      have := this.2.1 t h1' b hb
      simpa using this
    · obtain ⟨h, hlt⟩ := hlt
      have := (P2 i j hi hj).2
      have hb : (i == j) = false := by simpa using Ne.symm hij
      have h1' : (readsOf ops l[i]).contains t = true := by simpa [hi] using e1
      simp only [Info.pairG, hlt, Bool.not_true, Bool.false_or, Bool.and_eq_true, Bool.or_eq_true] at this
      rcases this with h9 | ⟨h9, _⟩
      · exact absurd (by simpa [mk] using h9) (Ne.symm hij)
      · simp only [mk, e2, h1', Bool.not_true, Bool.false_or] at h9
        exact ⟨hj, h9⟩
    · have := P1 i hi
      cases hq : R i <;> simp only [hq, Rec.isNew, Bool.false_eq_true] at e1
      simp only [beq_iff_eq] at e1
      subst e1
      simp only [Info.loneF, mk, hq, Bool.and_eq_true, Nat.ble_eq] at this
      simp only [St.fs, List.getD_eq_getElem?_getD]
      rw [List.getElem?_eq_none (by omega)]; rfl
    · have := (P2 i j hi hj).2
      cases hq : R i <;> simp only [hq, Rec.isNew, Bool.false_eq_true] at e1
      simp only [beq_iff_eq] at e1
      subst e1
      simp only [Info.pairG, mk, hq, Bool.or_eq_true, Bool.and_eq_true, beq_iff_eq, Bool.not_eq_true'] at this
      rcases this with h9 | ⟨_, h9, h10⟩
      · exact absurd h9 hij
      · refine ⟨h9, fun h => ?_⟩
        rcases h10 with ⟨h11, h12⟩ | h11
        · rcases h with h | h
          · rw [h11] at h; cases h
          · rw [h12] at h; cases h
        · exact h11
  have hanc : ∀ (L : Nat → Bool), (∀ j (h : j < l.length), L j = true → ∀ d ∈ depsOf l[j], L d = true) → ∀ i (h : i < l.length), (∀ d ∈ depsOf l[i], L d = true) → ∀ k, (A.getD i 0).testBit k = true → L k = true :=
    fun L hcl => anc_closed hok hal hcl
  subst hP
  refine draw_core (ops := ops) (A := A) hl (Nat.le_refl _) hm htop hanc (fun j h h' => absurd h' (by omega)) (fun L => gL s.fs s.tmps.length dst R L l.length) (fun L L' hb => gL_congr hb) (fun i hi => (gL_pre hi).symm) hfin ?_ ?_ h hQ
  · intro L i him hi hL hcl hrd a w hrel K hK
    obtain ⟨si, tri, tri', eqi, q1, q2, q3, q4, q5⟩ := heach i hi
    rw [hR'] at q1
    rw [hAC'] at q3
    rw [← gL_pre (m := l.length) (by omega : i ≤ l.length)] at q4
    have a1 := hanc L hcl i hi hrd
    have c1 : ∀ j, j < l.length → L j = true → ∀ k, (A.getD j 0).testBit k = true → L k = true := fun j hj hLj => hanc L hcl j hj (hcl j hj hLj)
    obtain ⟨k1, k2, k3⟩ := gL_looks (n := s.tmps.length) ok (fun i j => hlow i j) hi hL c1 a1
    have rd : ∀ t, t ∈ readsOf ops l[i] → (gL s.fs s.tmps.length dst R (fun j => Nat.blt j i) l.length).tmp t = (gL s.fs s.tmps.length dst R L l.length).tmp t := fun t ht => k1 t (by simp [hi, ht])
    have q1' : opRec c.P inl ops l[i] ro gb (mxA dr gb si) (gL s.fs s.tmps.length dst R L l.length) si.blks si.nst tri = some (R i, tri', eqi) := by
      rw [q4] at q1
      have hg : ∀ j want t, l[i].guard = some (j, want) → (ops[j]?).bind (·.dst) = some t → (gL s.fs s.tmps.length dst R (fun j => Nat.blt j i) l.length).tmp t = (gL s.fs s.tmps.length dst R L l.length).tmp t := fun j want t hg hd => rd t (by simp [readsOf, hg, hd])
      have hρ : ∀ x ∈ l[i].op.operands.toList, (gL s.fs s.tmps.length dst R (fun j => Nat.blt j i) l.length).ev x = (gL s.fs s.tmps.length dst R L l.length).ev x := fun x hx => by
        cases x with
        | tmp t => exact rd t (by simp only [readsOf, List.mem_append, List.mem_filterMap]; exact .inl ⟨.tmp t, hx, rfl⟩)
        | const v => rfl
        | global g => rfl
        | func f => rfl
      have hb : ∀ b, accOf l[i] (gL s.fs s.tmps.length dst R (fun j => Nat.blt j i) l.length).ev = some b → (gL s.fs s.tmps.length dst R (fun j => Nat.blt j i) l.length).blk b = (gL s.fs s.tmps.length dst R L l.length).blk b := fun b hb => by
        rw [← q4, ← q3] at hb
        exact k2 b hb
      rcases ok.cKind i hi with hp | ⟨b, cs, d, e, hge⟩
      · exact opRec_congr hg hρ hb q1 hp
      · rw [e] at q1 ⊢
        refine opRec_congrG hg hρ hb (k3 fun hlt => ?_) q1
        rcases ok.cLV i hi hlt with ⟨d', e2, -⟩ | ⟨b', cs', d', e2, -⟩ <;> (rw [e] at e2; cases e2)
    have hoi : ops[i]? = some l[i] := by rw [hget]; simp [hi]
    unfold wpOpIn
    simp only [hoi]
    have := opRec_soundIn (r := c.rd) hinl rfl hGd hG h0 hgb hrel q1' q2 (fun b cs d nf hb => gL_fresh ok hi hL (by rw [hb]; simp [Rec.isNew]) c1 _ (Nat.le_refl _)) (fun hb => by
        rcases ok.cKind i hi with hp | ⟨b, cs, d, e, _⟩
        · cases hRi : R i <;> rw [hRi] at hp hb <;> first | (cases hb; done) | (cases hp; done)
        · rw [e] at hb; cases hb) (Q := Q) (K := K) (fun a' w' h' => hK a' w' (by
      rw [hdst' i hi, gL_app ok (fun i j => hlow i j) hi hL c1] at h'; exact h'))
    exact this
  · intro i hi a w hrel K hK
    obtain ⟨si, tri, tri', eqi, q1, q2, q3, q4, q5⟩ := heach i hi
    rw [hR'] at q1
    have hoi : ops[i]? = some l[i] := by rw [hget]; simp [hi]
    unfold wpOpIn
    simp only [hoi]
    rw [← q4] at hrel
    have := opRec_soundIn (r := c.rd) hinl rfl hGd hG h0 hgb hrel q1 q2 (fun b cs d nf hb => by rw [(opRec_new q1).1 b cs d nf hb]; exact blk_len_none si) (fun _ => ⟨fun b => rfl, fun b => rfl, by rw [← q5]; exact tmp_out si, mxA_ok _ si hgb⟩) (Q := Q) (K := K) (fun a' w' h' => hK a' w' (by
      rw [hdst' i hi, q4] at h'; exact h'))
    exact this
end Lw

namespace Lw
open Go Go.RowKit

variable {P : Program} {Good : World → Prop}

/-- What is kept; the rest is forgotten. -/
def keepL {α : Type} (none' : α) (keep : List Nat) : Nat → List α → List α
  | _, [] => []
  | i, x :: l => (if keep.contains i then x else none') :: keepL none' keep (i + 1) l
def St.mask (keepT keepB : List Nat) (ns : List Nat) (s : St) : St where
  tmps := keepL .any keepT 0 s.tmps
  blks := keepL none keepB 0 (s.blks.take (topOf keepB))
  nst := ns
def maskOk (gb : Nat) (keepT keepB : List Nat) (ns : List Nat) (s : St) : Bool :=
  ((keepT.all fun t => (s.tmps.getD t .any).refs.all fun b => keepB.contains b && (s.blks.getD b none).isSome) && (List.range gb).all fun b => keepB.contains b) &&
    (s.nst.all (fun b => ns.contains b) && s.nst.all fun b => !keepB.contains b || match s.blks.getD b none with | some cs => cs.all (fun d => match d.ref with | some b' => keepB.contains b' && (s.blks.getD b' none).isSome | none => true) | none => true)

theorem keepL_getD {α : Type} (z d : α) (keep : List Nat) : ∀ (i : Nat) (l : List α) (t : Nat), (keepL z keep i l).getD t d = if t < l.length then (if keep.contains (i + t) then l.getD t d else z) else d
  | i, [], t => by simp [keepL]
  | i, x :: l, t => by
    cases t with
    | zero => simp [keepL]
    | succ t =>
      have := keepL_getD z d keep (i + 1) l t
      simp only [keepL, List.getD_cons_succ, List.length_cons, this, Nat.add_assoc, Nat.add_comm 1 t, Nat.add_lt_add_iff_right]
theorem keepL_length {α : Type} (z : α) (keep : List Nat) : ∀ (i : Nat) (l : List α), (keepL z keep i l).length = l.length
  | i, [] => rfl
  | i, x :: l => by simp [keepL, keepL_length z keep (i + 1) l]
theorem topOf_lt {keep : List Nat} {b : Nat} (h : keep.contains b = true) : b < topOf keep := by
  induction keep with
  | nil => simp at h
  | cons x keep ih =>
    have : x < topOf (x :: keep) ∧ topOf keep ≤ topOf (x :: keep) := by
      show x < (if Nat.blt x (topOf keep) then topOf keep else x + 1) ∧ topOf keep ≤ (if Nat.blt x (topOf keep) then topOf keep else x + 1)
      split
      · rename_i h; rw [Nat.blt_eq] at h; exact ⟨h, Nat.le_refl _⟩
      · rename_i h; rw [Nat.blt_eq] at h; exact ⟨by omega, by omega⟩
    by_cases hx : b = x
    · rw [hx]; exact this.1
    · have := ih (by simpa [hx] using h)
      omega
theorem mask_fs (s : St) (keepT keepB ns : List Nat) :
    (∀ t, (s.mask keepT keepB ns).fs.tmp t = if keepT.contains t then s.fs.tmp t else .any) ∧ (∀ b, (s.mask keepT keepB ns).fs.blk b = if keepB.contains b then s.fs.blk b else none) := by
  refine ⟨fun t => ?_, fun b => ?_⟩
  · show (keepL .any keepT 0 s.tmps).getD t .any = _
    rw [keepL_getD, Nat.zero_add]
    by_cases h : t < s.tmps.length
    · rw [if_pos h]; rfl
    · rw [if_neg h]
      split
      · simp [St.fs, List.getD_eq_getElem?_getD, List.getElem?_eq_none (Nat.le_of_not_lt h)]
      · rfl
  · show (keepL none keepB 0 (s.blks.take (topOf keepB))).getD b none = _
    rw [keepL_getD, Nat.zero_add]
    by_cases hc : keepB.contains b = true
    · have hlt := topOf_lt hc
      rw [if_pos hc, if_pos hc]
      by_cases h : b < (s.blks.take (topOf keepB)).length
      · rw [if_pos h]
        simp [St.fs, List.getD_eq_getElem?_getD, hlt]
      · rw [if_neg h]
        have : s.blks.length ≤ b := by simp at h; omega
        simp [St.fs, List.getD_eq_getElem?_getD, List.getElem?_eq_none this]
    · rw [if_neg hc, if_neg hc]; split <;> rfl
theorem Rel.mask {c : Ctx} {n : Nat} {s : St} {a : Act} {w : World} {gb : Nat} {keepT keepB ns : List Nat} (h : Rel c n s.fs a w) (hgb : c.gb ≤ gb) (hok : maskOk gb keepT keepB ns s = true) : Rel c n (s.mask keepT keepB ns).fs a w := by
  obtain ⟨h1, h2⟩ := mask_fs s keepT keepB ns
  unfold maskOk at hok
  rw [Bool.and_eq_true, Bool.and_eq_true, Bool.and_eq_true] at hok
  obtain ⟨⟨k1, k2⟩, k3, k4⟩ := hok
  rw [List.all_eq_true] at k1 k2 k3 k4
  refine h.weaken (fun t => ?_) (fun b => ?_) (fun b hb => ?_) (fun t b hb => ?_) (fun b cs hs hn d hd b' hb' => ?_) (fun b hb => ?_)
  · rw [h1 t]; split
    · exact .inr rfl
    · exact .inl rfl
  · rw [h2 b]; split
    · exact .inr rfl
    · exact .inl rfl
  · exact k3 b (by simpa [St.fs] using hb)
  · rw [h1 t] at hb
    by_cases ht : keepT.contains t = true
    · rw [if_pos ht] at hb
      have := k1 t (by simpa using ht)
      rw [List.all_eq_true] at this
      have := this b hb
      rw [Bool.and_eq_true] at this
      rw [h2 b, if_pos this.1]; exact this.2
    · rw [if_neg ht] at hb; simp [D.refs] at hb
  · rw [h2 b] at hs
    by_cases hc : keepB.contains b = true
    · rw [if_pos hc] at hs
      have := k4 b (by simpa [St.fs] using hn)
      have hs' : s.blks.getD b none = some cs := hs
      rw [hc, hs'] at this
      simp only [Bool.not_true, Bool.false_or, List.all_eq_true] at this
      have := this d hd
      rw [hb'] at this
      simp only [Bool.and_eq_true] at this
      rw [h2 b', if_pos this.1]; exact this.2
    · rw [if_neg hc] at hs; cases hs
  · rw [h2 b, if_pos (k2 b (by simp; omega))]

/-- A block that is written no more, on lists. -/
def St.freeze (s : St) (b : Nat) (cs : List D) : St := ⟨s.tmps.map (D.thaw b cs), (mapNst s.nst (D.thawC b cs) 0 s.blks).set b none, s.nst⟩
theorem freeze_fs {s : St} {b : Nat} {cs : List D} (h : s.blks.getD b none = some cs) : (s.freeze b cs).fs = s.fs.freeze b cs := by
  simp only [St.freeze, St.fs, FSt.freeze]
  congr 1
  · funext t
    simp only [List.getD_eq_getElem?_getD, List.getElem?_map]
    cases s.tmps[t]? with
    | none => rfl
    | some d => rfl
  · funext k
    rw [getD_set_blk _ b k _ (by rw [mapNst_len]; exact lt_of_live h), mapNst_getD, Nat.zero_add]
    by_cases hk : k = b
    · rw [if_pos hk, if_pos hk]
    · rw [if_neg hk, if_neg hk]; rfl

theorem lay_len (n : Nat) (l : List (Nat × D)) (bl : List (Nat × List D)) (ns : List Nat := []) : (lay n l bl ns).tmps.length = n := by simp [lay]
theorem find_of_map {α : Type} (f : Nat → α) (l : List (Nat × α)) (h : l.map (fun p => f p.1) = l.map (·.2)) (t : Nat) : (l.find? fun p => p.1 == t).map (·.2) = if (l.map (·.1)).contains t then some (f t) else none := by
  induction l with
  | nil => simp
  | cons p l ih =>
    simp only [List.map_cons, List.cons.injEq] at h
    by_cases hp : p.1 = t
    · rw [List.find?_cons_of_pos (by simpa using hp)]
      simp [hp, ← h.1]
    · rw [List.find?_cons_of_neg (by simpa using hp), ih h.2]
      have : (t == p.1) = false := by simpa using Ne.symm hp
      simp only [List.map_cons, List.contains_cons, this, Bool.false_or]
theorem lay_tmp (n : Nat) (l : List (Nat × D)) (bl : List (Nat × List D)) (ns : List Nat) (t : Nat) : (lay n l bl ns).fs.tmp t = if t < n then ((l.find? fun p => p.1 == t).map (·.2)).getD .any else .any := by
  show ((List.range n).map fun t => ((l.find? fun p => p.1 == t).map (·.2)).getD D.any).getD t .any = _
  rw [List.getD_eq_getElem?_getD, List.getElem?_map]
  split
  · rw [List.getElem?_eq_getElem (by simpa)]; simp
  · rw [List.getElem?_eq_none (by simp; omega)]; rfl
theorem lay_blk (n : Nat) (l : List (Nat × D)) (bl : List (Nat × List D)) (ns : List Nat) (b : Nat) : (lay n l bl ns).fs.blk b = if b < topOf (bl.map (·.1)) then (bl.find? fun p => p.1 == b).map (·.2) else none := by
  show ((List.range (topOf (bl.map (·.1)))).map fun b => (bl.find? fun p => p.1 == b).map (·.2)).getD b none = _
  rw [List.getD_eq_getElem?_getD, List.getElem?_map]
  split
  · rw [List.getElem?_eq_getElem (by simpa)]; simp
  · rw [List.getElem?_eq_none (by simp; omega)]; rfl
/-- What is kept of a frame, where it is known. -/
theorem mask_lay {s : St} {n : Nat} {l : List (Nat × D)} {bl : List (Nat × List D)} {ns : List Nat} (hn : s.tmps.length = n) (h1 : (l.map fun p => s.tmps.getD p.1 .any) = l.map (·.2)) (h2 : (bl.map fun p => s.blks.getD p.1 none) = bl.map fun p => some p.2) :
    (s.mask (l.map (·.1)) (bl.map (·.1)) ns).fs = (lay n l bl ns).fs := by
  obtain ⟨e1, e2⟩ := mask_fs s (l.map (·.1)) (bl.map (·.1)) ns
  have f1 : ∀ t, (s.mask (l.map (·.1)) (bl.map (·.1)) ns).fs.tmp t = (lay n l bl ns).fs.tmp t := by
    intro t
    rw [e1, lay_tmp, find_of_map (fun t => s.tmps.getD t .any) l h1 t]
    by_cases hc : (l.map (·.1)).contains t = true
    · rw [if_pos hc, if_pos hc]
      by_cases ht : t < n
      · rw [if_pos ht]; rfl
      · rw [if_neg ht]
        show s.tmps.getD t .any = .any
        rw [List.getD_eq_getElem?_getD, List.getElem?_eq_none (by omega)]; rfl
    · rw [if_neg hc, if_neg hc]; split <;> rfl
  have f2 : ∀ b, (s.mask (l.map (·.1)) (bl.map (·.1)) ns).fs.blk b = (lay n l bl ns).fs.blk b := by
    intro b
    rw [e2]
    have h2' : (bl.map fun p => (p.1, some p.2)).map (fun p => s.blks.getD p.1 none) = (bl.map fun p => (p.1, some p.2)).map (·.2) := by simpa [List.map_map, Function.comp] using h2
    have := find_of_map (fun b => s.blks.getD b none) (bl.map fun p => (p.1, some p.2)) h2' b
    rw [List.find?_map] at this
    simp only [List.map_map] at this
    have e3 : ((fun x : Nat × Option (List D) => x.1) ∘ fun p : Nat × List D => (p.1, some p.2)) = fun p => p.1 := rfl
    have e4 : ((fun p : Nat × Option (List D) => p.1 == b) ∘ fun p : Nat × List D => (p.1, some p.2)) = fun p => p.1 == b := rfl
    rw [e3, e4] at this
    rw [lay_blk]
    by_cases hc : (bl.map (·.1)).contains b = true
    · rw [if_pos hc] at this ⊢
      rw [if_pos (topOf_lt hc)]
      cases hq : bl.find? (fun p => p.1 == b) with
      | none => rw [hq] at this; simp at this
      | some p => rw [hq] at this; simp at this ⊢; exact this.symm
    · rw [if_neg hc] at this ⊢
      cases hq : bl.find? (fun p => p.1 == b) with
      | some p => rw [hq] at this; simp at this
      | none => split <;> rfl
  show (⟨(s.mask (l.map (·.1)) (bl.map (·.1)) ns).fs.tmp, (s.mask (l.map (·.1)) (bl.map (·.1)) ns).fs.blk, fun b => ns.contains b⟩ : FSt) = ⟨(lay n l bl ns).fs.tmp, (lay n l bl ns).fs.blk, fun b => ns.contains b⟩
  rw [funext f1, funext f2]

abbrev Out (P : Program) (Good : World → Prop) := XEnd × St × List (Item P Good) × List (Got × Got)

/-- Rounds of a loop, one behind the other, till one of them leaves. -/
def iter (g : St → List (Item P Good) → Option (Out P Good)) : Nat → St → List (Item P Good) → Option (Out P Good)
  | 0, _, _ => none
  | m + 1, s, tr => match g s tr with
    | some (.normal, s1, tr1, e1) => match iter g m s1 tr1 with
      | some (e, s2, tr2, e2) => some (e, s2, tr2, e1 ++ e2)
      | none => none
    | r => r
/-- A loop: by what the prover handed, or round by round. -/
def runLoop (gb : Nat) (k : Code) (g : St → List (Item P Good) → Option (Out P Good)) (m : Nat) (s : St) (tr : List (Item P Good)) : Option (Out P Good) :=
  match tr with
  | .code (n := n) (gb := gb') (k := k') (l := l) (bl := bl) (ns := ns) (e := e) (s' := s') _ :: tr' =>
    if maskOk gb (l.map (·.1)) (bl.map (·.1)) ns s && s'.tmps.length == s.tmps.length then
      some (e, s', tr', [(.code k s.tmps.length gb (l.map fun p => s.tmps.getD p.1 .any) (bl.map fun p => s.blks.getD p.1 none), .code k' n gb' (l.map (·.2)) (bl.map fun p => some p.2))]) else none
  | _ => iter g m s tr
/-- The results of a function off its frame, own places among them where one alone comes back. -/
def resultD (P : Program) (s : St) : ResultVar → Option D
  | .tmp t => some (s.tmps.getD t .any)
  | .cell x t => match tySize P t, tyAgg P t, s.tmps.getD x .any with
    | some sz, some ag, .ptr b off => match s.blks.getD b none with
      | some cs => if Nat.blt 0 sz && Nat.ble (off + sz) cs.length then some (if ag then .agg ((cs.drop off).take sz) else (cs.drop off).headD .any) else none
      | none => none
    | some sz, some ag, .rptr cs => if Nat.blt 0 sz && Nat.ble sz cs.length then some (if ag then .agg (cs.take sz) else cs.headD .any) else none
    | _, _, _ => none
def resultsD (P : Program) (s : St) : List ResultVar → Option (List D)
  | [] => some []
  | r :: rs => match resultD P s r, resultsD P s rs with
    | some d, some ds => some (d :: ds)
    | _, _ => none
/-- One result stands alone; several make a tuple. -/
def packD : List D → D
  | [d] => d
  | ds => .tup ds
def packV : List Value → Value
  | [v] => v
  | vs => .tuple vs.toArray
/-- The frame at the beginning. -/
def startS (n : Nat) (args : List D) (blks : List (Option (List D))) (ns : List Nat := []) : St := ⟨args ++ List.replicate (n - args.length) (.lit undef), blks, ns⟩
abbrev Runner (P : Program) (Good : World → Prop) := List Nat → Nat → Code → St → List (Item P Good) → Option (Out P Good)
/-- May it stand in a tuple? -/
def D.single (d : D) : Bool := d.refs.isEmpty || d.ref.isSome
/-- Blocks that will be written no more, those that their cells point into first. -/
def frz (gb : Nat) : Nat → List Nat → St → Option St
  | 0, _, s => some s
  | _ + 1, [], s => some s
  | n + 1, b :: l, s => match s.blks.getD b none with
    | none => frz gb n l s
    | some cs => match cs.filterMap D.ref with
      | [] => match Nat.ble gb b with
        | true => frz gb n l (s.freeze b cs)
        | false => none
      | r :: rs => frz gb n (r :: rs ++ b :: l) s
def frzS (P : Program) (fn : Func) (gb : Nat) (s : St) : Option St := match resultsD P s fn.results.toList with
  | some ds => frz gb 64 (ds.flatMap D.refs) s
  | none => none
/-- A callee is run in place. (998 among its 'ro': what it returns is written no more.) -/
def inlOf (P : Program) {Good : World → Prop} (g : Runner P Good) : Inline P Good := fun mx0 ro fn args blks ns tr => frN mx0 fun mx =>
  match fn.body with
  | some k => if Nat.ble args.length fn.ntmps then
      match g ro mx k (startS fn.ntmps args blks ns) tr with
      | some (.normal, s0, tr', eqs) | some (.ret, s0, tr', eqs) => match (if ro.contains 998 then frzS P fn mx s0 else some s0) with
        | some s => match resultsD P s fn.results.toList with
          | some ds => if ds.length == 1 || ds.all D.single then some (packD ds, s.blks, s.nst, tr', eqs) else none
          | none => none
        | none => none
      | _ => none
    else none
  | none => none
/-! ### Open regions: all orders tried -/
def stSame (s t : St) : Bool := allSame (dSame 8) s.tmps t.tmps && blksSame s.blks t.blks && decide (s.nst = t.nst)
theorem stSame_ok {s t : St} (h : stSame s t = true) : s = t := by
  cases s; cases t
  simp only [stSame, Bool.and_eq_true, decide_eq_true_eq] at h
  rw [allSame_ok (fun hh => dSame_ok 8 hh) h.1.1, blksSame_ok h.1.2, h.2]
def brute (P : Program) {Good : World → Prop} (inl : Inline P Good) (ops : Array Oper) (ro : List Nat) (gb : Nat) (tr : List (Item P Good)) (fin : St) : Nat → Array Bool → St → Bool
  | 0, listed, s => match Region.ready .any ops listed with
    | [] => stSame s fin
    | _ :: _ => false
  | fuel + 1, listed, s => match Region.ready .any ops listed with
    | [] => stSame s fin
    | j :: rd => (j :: rd).all fun i => match ops[i]? with
      | some o => match opRec P inl ops o ro gb (mxA false gb s) s.fs s.blks s.nst tr with
        | some (R, _, []) => brute P inl ops ro gb tr fin fuel (listed.setIfInBounds i true) (s.app o.dst R)
        | _ => false
      | none => false
theorem brute_sound {c : Ctx} {Q : Exit → Act → World → Prop} {inl : Inline P Good} (hinl : InlOk P Good inl) (hP : c.P = P) (hGd : c.Good = Good) (hG : Steady Good) (h0 : c.Good c.w0) {gb : Nat} (hgb : c.gb ≤ gb) {ops : Array Oper} {ro : List Nat} {tr : List (Item P Good)} {fin : St}
    (hQ : ∀ a' w', Rel c fin.tmps.length fin.fs a' w' → Q .normal a' w') :
    ∀ (fuel : Nat) (listed : Array Bool) (s : St) (a : Act) (w : World), brute P inl ops ro gb tr fin fuel listed s = true → Rel c s.tmps.length s.fs a w → wpAnyIn (Fw c.rd) 0 P .any ops Q fuel listed a w
  | 0, listed, s, a, w, h, hr => by
    unfold brute at h
    split at h
    · rename_i e
      obtain rfl := stSame_ok h
      exact ⟨e, hQ a w hr⟩
    · cases h
  | fuel + 1, listed, s, a, w, h, hr => by
    unfold brute at h
    split at h
    · rename_i e
      obtain rfl := stSame_ok h
      exact ⟨fun _ => hQ a w hr, fun i hi => by rw [e] at hi; cases hi⟩
    · rename_i j rd e
      refine ⟨fun e' => (by rw [e] at e'; cases e'), fun i hi => ?_⟩
      rw [e] at hi
      have hi2 := List.all_eq_true.1 h i hi
      split at hi2
      · rename_i o ho
        split at hi2
        · rename_i R tr2 h1
          obtain ⟨e1, e2⟩ := opRec_app h1
          unfold wpOpIn
          simp only [ho]
          refine opRec_soundIn hinl hP hGd hG h0 hgb hr h1 (fun e he => by cases he) (fun b cs d nf hb => by rw [(opRec_new h1).1 b cs d nf hb]; exact blk_len_none s) (fun _ => ⟨fun b => rfl, fun b => rfl, tmp_out s, mxA_ok _ s hgb⟩) fun a' w' h' => ?_
          rw [← e1, ← e2] at h'
          exact brute_sound hinl hP hGd hG h0 hgb hQ fuel _ _ a' w' hi2 h'
        · cases hi2
      · cases hi2
theorem brute_region {c : Ctx} {Q : Exit → Act → World → Prop} {inl : Inline P Good} (hinl : InlOk P Good inl) (hP : c.P = P) (hGd : c.Good = Good) (hG : Steady Good) (h0 : c.Good c.w0) {gb : Nat} (hgb : c.gb ≤ gb) (hm : P.follows .mixedOrders = true) {id : Nat} {ops : Array Oper} {ro : List Nat} {tr : List (Item P Good)} {s fin : St} {a : Act} {w : World}
    (hb : brute P inl ops ro gb tr fin ops.size (Array.replicate ops.size false) s = true) (hr : Rel c s.tmps.length s.fs a w)
    (hQ : ∀ a' w', Rel c fin.tmps.length fin.fs a' w' → Q .normal a' w') : (Code.region id ops true).wpIn (Fw c.rd) 0 P Q a w := by
  refine wpIn_region_any hm ?_
  obtain ⟨β, X, hB⟩ := hr
  exact brute_sound hinl hP hGd hG h0 hgb hQ _ _ s a _ hb ⟨β, X, hB.grow ((Below.refl _ _).drew)⟩
/-- What a temporary leads to is written no more: what it points into, or, of a pointer, what the cells there point into. -/
def frz1 (gb t : Nat) (s : St) : Option St := match s.tmps.getD t .any with
  | .ptr b _ => match s.blks.getD b none with
    | some cs => frz gb 64 (cs.filterMap D.ref) s
    | none => some s
  | d => frz gb 64 d.refs s
/-- (Before region 'id': the temporaries t for which 1000000 + 1000 id + t stands in 'ro'; with 2000000: the block that t points into.) -/
def frzAt (gb id : Nat) : List Nat → St → Option St
  | [], s => some s
  | m :: ro, s => match Nat.beq (m / 1000) (1000 + id) with
    | true => match frz1 gb (m % 1000) s with
      | some s' => frzAt gb id ro s'
      | none => none
    | false => match Nat.beq (m / 1000) (2000 + id) with
      | true => match frz gb 64 (s.tmps.getD (m % 1000) .any).refs s with
        | some s' => frzAt gb id ro s'
        | none => none
      | false => frzAt gb id ro s
def runC (P : Program) {Good : World → Prop} : Nat → Runner P Good
  | 0, _, _, _, _, _ => none
  | m + 1, ro, gb, k, s, tr => match tr with
    | .freeze b :: tr1 => match s.blks.getD b none with
      | some cs => if Nat.ble gb b && (!s.nst.contains b || !anyRef cs) then match runC P m ro gb k (s.freeze b cs) tr1 with
          | some (e, s', tr', eqs) => some (e, s', tr', (.p True, .p True) :: eqs)
          | none => none
        else none
      | none => none
    | tr => match k with
      | .skip => some (.normal, s, tr, [])
      | .ret => some (.ret, s, tr, [])
      | .exit id => some (.exit id, s, tr, [])
      | .seq x y => match runC P m ro gb x s tr with
        | some (.normal, s1, tr1, e1) => match runC P m ro gb y s1 tr1 with
          | some (e, s2, tr2, e2) => some (e, s2, tr2, e1 ++ e2)
          | none => none
        | r => r
      | .cond x a b => match s.fs.ev x with
        | .lit (.bool true) => runC P m ro gb a s tr
        | .lit (.bool false) => runC P m ro gb b s tr
        | _ => none
      | .block id x => match runC P m ro gb x s tr with
        | some (.exit id', s1, tr1, e1) => if id' == id then some (.normal, s1, tr1, e1) else some (.exit id', s1, tr1, e1)
        | r => r
      | .region id ops draw => match frzAt gb id ro s with
       | none => none
       | some s => match runOps P (inlOf P (runC P m)) (draw && !ro.contains (3000000 + id)) ops ro gb ops.toList s tr with
        | some (s', tr', eqs, recs) => if draw then (if P.follows .mixedOrders && drawCheck ops s.blks.length ops.toList recs then some (.normal, s', tr', eqs) else if P.follows .mixedOrders && (!ro.contains (3000000 + id) && valCheck ops ops.toList recs) then some (.normal, s', tr', eqs) else if P.follows .mixedOrders && floatCheck ops s ops.toList recs then some (.normal, s', tr', eqs) else if P.follows .mixedOrders && brute P (inlOf P (runC P m)) ops ro gb tr s' ops.size (Array.replicate ops.size false) s then some (.normal, s', tr', eqs) else none) else some (.normal, s', tr', eqs)
        | none => none
      | .loop x => runLoop gb (.loop x) (runC P m ro gb x) m s tr
      | .rangeFunc g ps x y => runLoop gb (.rangeFunc g ps x y) (fun _ _ => none) m s tr
      | _ => none

def XEnd.toExit : XEnd → Exit
  | .normal => .normal
  | .exit id => .exit id
  | .ret => .ret

/-- What a run shows of a piece of code. -/
def Shows (P : Program) (Good : World → Prop) (gb : Nat) (k : Code) (s : St) (e : XEnd) (s' : St) : Prop :=
  s'.tmps.length = s.tmps.length ∧ ∀ (c : Ctx) (Q : Exit → Act → World → Prop) (a : Act) (w : World), c.P = P → c.Good = Good → c.Good c.w0 → c.gb ≤ gb → Rel c s.tmps.length s.fs a w →
    (∀ a' w', Rel c s.tmps.length s'.fs a' w' → Q e.toExit a' w') → k.wpIn (Fw c.rd) 0 P Q a w

theorem abs_shows {n gb : Nat} {k : Code} {s s' : St} {e : XEnd} (h : Abs P Good n gb k s e s') (hn : s.tmps.length = n) (hn' : s'.tmps.length = n) : Shows P Good gb k s e s' := by
  refine ⟨by omega, fun c Q a w h1 h2 h3 hg h4 h5 => ?_⟩
  subst hn
  refine h c Q a w h1 h2 h3 hg h4 fun a' w' h' => ?_
  have := h5 a' w' h'
  cases e <;> exact this
theorem shows_abs {gb : Nat} {k : Code} {s s' : St} {e : XEnd} (h : Shows P Good gb k s e s') : Abs P Good s.tmps.length gb k s e s' := by
  intro c Q a w h1 h2 h3 hg h4 h5
  refine h.2 c Q a w h1 h2 h3 hg h4 fun a' w' h' => ?_
  have := h5 a' w' h'
  cases e <;> exact this

theorem iter_sound {gb : Nat} {body : Code} {g : St → List (Item P Good) → Option (Out P Good)}
    (hg : ∀ s tr e s' tr' eqs, g s tr = some (e, s', tr', eqs) → Agree eqs → Shows P Good gb body s e s') :
    ∀ (m : Nat) (s : St) (tr : List (Item P Good)) (e : XEnd) (s' : St) (tr' : List (Item P Good)) (eqs : List (Got × Got)), iter g m s tr = some (e, s', tr', eqs) → Agree eqs →
      s'.tmps.length = s.tmps.length ∧ e ≠ .normal ∧ ∀ (c : Ctx) (Q : Exit → Act → World → Prop) (a : Act) (w : World), c.P = P → c.Good = Good → c.Good c.w0 → c.gb ≤ gb → Rel c s.tmps.length s.fs a w →
        (∀ a' w', Rel c s.tmps.length s'.fs a' w' → Q e.toExit a' w') → Code.roundsIn (Fw c.rd) 0 P body Q m a w
  | 0, s, tr, e, s', tr', eqs, h, _ => by simp [iter] at h
  | m + 1, s, tr, e, s', tr', eqs, h, he => by
    simp only [iter] at h
    split at h
    · rename_i s1 tr1 e1 h1
      split at h
      · rename_i e2' s2 tr2 e2 h2
        simp only [Option.some.injEq, Prod.mk.injEq] at h
        obtain ⟨rfl, rfl, rfl, rfl⟩ := h
        obtain ⟨he1, he2⟩ := he.append
        obtain ⟨l1, w1⟩ := hg _ _ _ _ _ _ h1 he1
        obtain ⟨l2, n2, w2⟩ := iter_sound hg m _ _ _ _ _ _ h2 he2
        refine ⟨by omega, n2, fun c Q a w q1 q2 q3 qg q4 q5 => ?_⟩
        rw [roundsIn_succ]
        exact w1 c _ a w q1 q2 q3 qg q4 fun a' w' h' => w2 c Q a' w' q1 q2 q3 qg (by rw [l1]; exact h') (by rw [l1]; exact q5)
      · cases h
    · rename_i hne
      obtain ⟨l1, w1⟩ := hg _ _ _ _ _ _ h he
      have hnn : e ≠ .normal := by rintro rfl; exact hne _ _ _ h
      refine ⟨l1, hnn, fun c Q a w q1 q2 q3 qg q4 q5 => ?_⟩
      rw [roundsIn_succ]
      refine w1 c _ a w q1 q2 q3 qg q4 fun a' w' h' => ?_
      have := q5 a' w' h'
      cases e with
      | normal => exact absurd rfl hnn
      | exit id => exact this
      | ret => exact this

/-! ### Results. -/
theorem resultD_sound {c : Ctx} {n : Nat} {s : St} {a : Act} {w : World} {β : Nat → Nat} {X : Nat → Prop} (h : RelB c n s.fs a w β X) {r : ResultVar} {d : D} (e : resultD c.P s r = some d) :
    ∃ v, ((match r with | .tmp t => pure (a.tmps.getD t undef) | .cell x t => do loadVar t (← asAddr (a.tmps.getD x undef))) : Sem Value).run c.P w = .ok v w ∧ RepW β w X v d ∧ ∀ b ∈ d.refs, (s.fs.blk b).isSome = true := by
  unfold resultD at e
  split at e
  · rename_i t
    simp only [Option.some.injEq] at e
    subst e
    exact ⟨_, rfl, h.tmp t, h.nd t⟩
  · rename_i x t
    have hv := h.tmp x
    split at e
    · rename_i sz ag b off hs ha hx
      split at e
      · rename_i cs hb
        split at e
        · rename_i hc
          simp only [Bool.and_eq_true, Nat.blt_eq, Nat.ble_eq] at hc
          simp only [Option.some.injEq] at e
          subst e
          have hx' : s.fs.tmp x = .ptr b off := hx
          rw [hx'] at hv
          obtain ⟨us, e2, e3⟩ := own_cells h (off := off) hb
          obtain ⟨v, hrun, hrep⟩ := load_runW hs ha e2 e3 hc.1 (by simp; omega)
          obtain ⟨_, _, us0, _, _, _, h5⟩ := h.blk b cs hb
          exact ⟨v, by simp [ptr_val hv, asAddr, hrun], hrep, part_refs (by omega) (fun d hd b' hb' => (h.ndc b cs hb d hd b' hb').2) fun _ => cell_refs h5⟩
        · cases e
      · cases e
    · rename_i sz ag cs hs ha hx
      split at e
      · rename_i hc
        simp only [Bool.and_eq_true, Nat.blt_eq, Nat.ble_eq] at hc
        simp only [Option.some.injEq] at e
        subst e
        have hx' : s.fs.tmp x = .rptr cs := hx
        rw [hx'] at hv
        obtain ⟨ad, us, e1, e2, e3⟩ := rptr_cells (hv.pure rfl)
        obtain ⟨v, hrun, hrep⟩ := load_run hs ha e2 (fun i hi => (e3 i hi).2) hc.1 hc.2
        exact ⟨v, by simp [e1, asAddr, hrun], .c (.p hrep), fun b hb => by rw [repP_refs hrep] at hb; cases hb⟩
      · cases e
    · cases e
theorem resultsD_sound {c : Ctx} {n : Nat} {s : St} {a : Act} {w : World} {β : Nat → Nat} {X : Nat → Prop} (h : RelB c n s.fs a w β X) :
    ∀ (rs : List ResultVar) (ds : List D), resultsD c.P s rs = some ds →
      ∃ vs, (rs.mapM fun r => ((match r with | .tmp t => pure (a.tmps.getD t undef) | .cell x t => do loadVar t (← asAddr (a.tmps.getD x undef))) : Sem Value)).run c.P w = .ok vs w ∧
        vs.length = ds.length ∧ (∀ i (h : i < vs.length) (h' : i < ds.length), RepW β w X vs[i] ds[i]) ∧ ∀ d ∈ ds, ∀ b ∈ d.refs, (s.fs.blk b).isSome = true
  | [], ds, e => by
    simp only [resultsD, Option.some.injEq] at e
    subst e
    exact ⟨[], by simp, rfl, fun i h => absurd h (by simp), fun d h => by simp at h⟩
  | r :: rs, ds, e => by
    simp only [resultsD] at e
    split at e
    · rename_i d ds' e1 e2
      simp only [Option.some.injEq] at e
      subst e
      obtain ⟨v, h1, h2, hl⟩ := resultD_sound h e1
      obtain ⟨vs, h3, h4, h5, h6⟩ := resultsD_sound h rs ds' e2
      refine ⟨v :: vs, by simp only [List.mapM_cons, Sem.run_bind, h1, h3, Result.andThen_ok, Sem.run_pure], by simp [h4], fun i hi hi' => ?_, fun d' hd' b hb => ?_⟩
      · cases i with
        | zero => exact h2
        | succ i => simpa using h5 i (by simpa using hi) (by simpa using hi')
      · rcases List.mem_cons.1 hd' with rfl | hd'
        · exact hl b hb
        · exact h6 d' hd' b hb
    · cases e
theorem pack_reps {w : World} {F : Nat → Prop} {vs : List Value} {ds : List D} (h : Reps w F vs ds) : RepP w F (packV vs) (packD ds) := by
  match vs, ds, h with
  | [v], [d], h2 => exact h2.head
  | [], [], h2 => exact .tup [] [] h2.1 h2.2
  | v :: v' :: vs, d :: d' :: ds, h2 => exact .tup _ _ h2.1 h2.2
  | [], d :: ds, h2 => have := h2.1; simp at this
  | v :: vs, [], h2 => have := h2.1; simp at this
  | [v], d :: d' :: ds, h2 => have := h2.1; simp at this
  | v :: v' :: vs, [d], h2 => have := h2.1; simp at this
theorem results_run {c : Ctx} {n : Nat} {s : St} {a : Act} {w : World} {β : Nat → Nat} {X : Nat → Prop} (h : RelB c n s.fs a w β X) {fn : Func} {ds : List D} (e : resultsD c.P s fn.results.toList = some ds) :
    ∃ vs, (results fn a.tmps).run c.P w = .ok (packV vs) w ∧
      vs.length = ds.length ∧ (∀ i (h : i < vs.length) (h' : i < ds.length), RepW β w X vs[i] ds[i]) ∧ ∀ d ∈ ds, ∀ b ∈ d.refs, (s.fs.blk b).isSome = true := by
  obtain ⟨vs, h1, h2, h3, h4⟩ := resultsD_sound h _ _ e
  have hm : (fn.results.mapM fun r => ((match r with | .tmp t => pure (a.tmps.getD t undef) | .cell x t => do loadVar t (← asAddr (a.tmps.getD x undef))) : Sem Value)).run c.P w = .ok vs.toArray w := by
    rw [Array.mapM_eq_mapM_toList, Sem.run_map, h1]; rfl
  refine ⟨vs, ?_, h2, h3, h4⟩
  have e2 : packV vs = if h : vs.toArray.size = 1 then vs.toArray[0] else .tuple vs.toArray := by
    match vs with
    | [] => rfl
    | [v] => rfl
    | v :: v' :: vs =>
      rw [dif_neg (by simp)]; rfl
  rw [e2]
  unfold results
  rw [Sem.run_bind]
  exact congrArg (fun r => Result.andThen r fun (a : Array Value) w' => Result.ok (if h : a.size = 1 then a[0] else Value.tuple a) w') hm

/-- The frame of a callee at its beginning. -/
theorem start_tmp {Q' : Value → D → Prop} {n : Nat} {vals : List Value} {args : List D} {blks : List (Option (List D))} {ns : List Nat} (hl : vals.length = args.length) (hn : args.length ≤ n)
    (h1 : ∀ i (h : i < vals.length) (h' : i < args.length), Q' vals[i] args[i]) (h2 : Q' undef (.lit undef)) (h3 : Q' undef .any) (t : Nat) :
    Q' ((vals.toArray ++ Array.replicate (n - vals.toArray.size) undef).getD t undef) ((startS n args blks ns).fs.tmp t) := by
  show Q' _ ((args ++ List.replicate (n - args.length) (D.lit undef)).getD t .any)
  by_cases ht : t < args.length
  · have e1 : (args ++ List.replicate (n - args.length) (D.lit undef)).getD t .any = args[t] := by simp [List.getD_eq_getElem?_getD, List.getElem?_append_left ht, ht]
    have e2 : (vals.toArray ++ Array.replicate (n - vals.toArray.size) undef).getD t undef = vals[t] := by
      have : t < vals.length := by omega
      simp [Array.getD_eq_getD_getElem?, Array.getElem?_append, this]
    rw [e1, e2]
    exact h1 t (by omega) ht
  · have e2 : (vals.toArray ++ Array.replicate (n - vals.toArray.size) undef).getD t undef = undef := by
      have : ¬ t < vals.length := by omega
      simp [Array.getD_eq_getD_getElem?, Array.getElem?_append, this, Array.getElem?_replicate]
      split <;> rfl
    rw [e2]
    by_cases h2' : t < n
    · have e1 : (args ++ List.replicate (n - args.length) (D.lit undef)).getD t .any = .lit undef := by
        rw [List.getD_eq_getElem?_getD, List.getElem?_append_right (by omega), List.getElem?_replicate, if_pos (by omega)]; rfl
      rw [e1]; exact h2
    · have e1 : (args ++ List.replicate (n - args.length) (D.lit undef)).getD t .any = .any := by
        rw [List.getD_eq_getElem?_getD, List.getElem?_append_right (by omega), List.getElem?_replicate, if_neg (by omega)]; rfl
      rw [e1]; exact h3
theorem start_ref {n : Nat} {args : List D} {blks : List (Option (List D))} {ns : List Nat} {p : Nat → Prop} (h : ∀ d ∈ args, ∀ b ∈ d.refs, p b) : ∀ t b, b ∈ ((startS n args blks ns).fs.tmp t).refs → p b := by
  intro t b hb
  have hb' : b ∈ ((args ++ List.replicate (n - args.length) (D.lit undef)).getD t .any).refs := hb
  by_cases ht : t < args.length
  · have e1 : (args ++ List.replicate (n - args.length) (D.lit undef)).getD t .any = args[t] := by simp [List.getD_eq_getElem?_getD, List.getElem?_append_left ht, ht]
    rw [e1] at hb'
    exact h _ (List.getElem_mem _) b hb'
  · rw [List.getD_eq_getElem?_getD, List.getElem?_append_right (by omega), List.getElem?_replicate] at hb'
    split at hb' <;> simp [D.refs] at hb'
theorem start_len {n : Nat} {args : List D} {blks : List (Option (List D))} {ns : List Nat} (h : args.length ≤ n) : (startS n args blks ns).tmps.length = n := by simp [startS]; omega

theorem frz_ok {c : Ctx} {n gb : Nat} {a : Act} {w : World} (hgb : c.gb ≤ gb) : ∀ (m : Nat) (l : List Nat) (s s' : St), frz gb m l s = some s' → Rel c n s.fs a w → Rel c n s'.fs a w
  | 0, l, s, s', h, hr => by
    simp only [frz, Option.some.injEq] at h
    subst h; exact hr
  | m + 1, [], s, s', h, hr => by
    simp only [frz, Option.some.injEq] at h
    subst h; exact hr
  | m + 1, b :: l, s, s', h, hr => by
    simp only [frz] at h
    split at h
    · exact frz_ok hgb m l s s' h hr
    · rename_i cs hcs
      split at h
      · rename_i hnil
        split at h
        · rename_i hle
          rw [Nat.ble_eq] at hle
          refine frz_ok hgb m l _ s' h ?_
          rw [freeze_fs hcs]
          obtain ⟨β, X, hB⟩ := hr
          exact ⟨β, _, hB.freeze (b := b) hcs (filterMap_nil hnil) (by omega)⟩
        · cases h
      · exact frz_ok hgb m _ s s' h hr
theorem frzS_ok {c : Ctx} {n gb : Nat} {a : Act} {w : World} {fn : Func} {ro : List Nat} {s s' : St} (hgb : c.gb ≤ gb) (h : (if ro.contains 998 then frzS P fn gb s else some s) = some s') (hr : Rel c n s.fs a w) : Rel c n s'.fs a w := by
  split at h
  · unfold frzS at h
    split at h
    · exact frz_ok hgb _ _ _ _ h hr
    · cases h
  · cases h; exact hr
theorem frz_len {gb : Nat} : ∀ (m : Nat) (l : List Nat) (s s' : St), frz gb m l s = some s' → s'.tmps.length = s.tmps.length
  | 0, l, s, s', h => by
    simp only [frz, Option.some.injEq] at h
    subst h; rfl
  | m + 1, [], s, s', h => by
    simp only [frz, Option.some.injEq] at h
    subst h; rfl
  | m + 1, b :: l, s, s', h => by
    simp only [frz] at h
    split at h
    · exact frz_len m l s s' h
    · split at h
      · split at h
        · rw [frz_len m l _ s' h]; simp [St.freeze]
        · cases h
      · exact frz_len m _ s s' h
theorem frz1_ok {gb t : Nat} {s s' : St} (h : frz1 gb t s = some s') : s'.tmps.length = s.tmps.length ∧ ∀ (c : Ctx) (n : Nat) (a : Act) (w : World), c.gb ≤ gb → Rel c n s.fs a w → Rel c n s'.fs a w := by
  unfold frz1 at h
  split at h
  · split at h
    · exact ⟨frz_len _ _ _ _ h, fun c n a w hg hr => frz_ok hg _ _ _ _ h hr⟩
    · cases h; exact ⟨rfl, fun _ _ _ _ _ hr => hr⟩
  · exact ⟨frz_len _ _ _ _ h, fun c n a w hg hr => frz_ok hg _ _ _ _ h hr⟩
theorem frzAt_ok {gb id : Nat} : ∀ (ro : List Nat) (s s' : St), frzAt gb id ro s = some s' → s'.tmps.length = s.tmps.length ∧ ∀ (c : Ctx) (n : Nat) (a : Act) (w : World), c.gb ≤ gb → Rel c n s.fs a w → Rel c n s'.fs a w
  | [], s, s', h => by
    simp only [frzAt, Option.some.injEq] at h
    subst h; exact ⟨rfl, fun _ _ _ _ _ hr => hr⟩
  | m :: ro, s, s', h => by
    simp only [frzAt] at h
    split at h
    · split at h
      · rename_i s1 h1
        obtain ⟨a1, a2⟩ := frz1_ok h1
        obtain ⟨b1, b2⟩ := frzAt_ok ro s1 s' h
        exact ⟨b1.trans a1, fun c n a w hg hr => b2 c n a w hg (a2 c n a w hg hr)⟩
      · cases h
    split at h
    · split at h
      · rename_i s1 h1
        obtain ⟨b1, b2⟩ := frzAt_ok ro s1 s' h
        exact ⟨b1.trans (frz_len _ _ _ _ h1), fun c n a w hg hr => b2 c n a w hg (frz_ok hg _ _ _ _ h1 hr)⟩
      · cases h
    · exact frzAt_ok ro s s' h
/-- A callee that is run in place. -/
theorem inlOf_ok {g : Runner P Good} (hg : ∀ ro gb k s tr e s' tr' eqs, g ro gb k s tr = some (e, s', tr', eqs) → Agree eqs → Shows P Good gb k s e s') : InlOk P Good (inlOf P g) := by
  intro mx ro fn args blks ns tr d blks' ns' tr' eqs h he
  unfold inlOf at h
  rw [frN_eq] at h
  split at h
  · rename_i k hk
    split at h
    · rename_i hle
      rw [Nat.ble_eq] at hle
      have key : ∀ e s0 s ds, g ro mx k (startS fn.ntmps args blks ns) tr = some (e, s0, tr', eqs) → (e = .normal ∨ e = .ret) → (if ro.contains 998 then frzS P fn mx s0 else some s0) = some s → resultsD P s fn.results.toList = some ds →
          (ds.length == 1 || ds.all D.single) = true → Inl P Good fn mx args blks ns (packD ds) s.blks s.nst := by
        intro e s0 s ds hr hend hfz hds hpure f hf c w β X vals q1 q2 q3 q4 qr qd hrel hvl hreps hlive
        subst q1
        have hs := hg _ _ _ _ _ _ _ _ _ hr he
        have hlen := start_len (blks := blks) (ns := ns) hle
        have hF : Fw c.rd = Fence.wide := by rw [qr]; rfl
        refine (callsIn_wide (n := 0)).1 (callsIn_of_wp hf hk trivial ?_)
        rw [← hF]
        refine hs.2 c _ _ w rfl q2 q3 q4 ⟨β, X, qd.symm, ?_, fun t => ?_, ?_, hrel.blk, hrel.ndc, hrel.inj, hrel.F, hrel.Flt, hrel.Xlt, hrel.below, hrel.gh, hrel.ghnd, ⟨hrel.kp.obj, hrel.kp.x, hrel.kp.lt, hrel.kp.off⟩⟩ fun a' w' h' => ?_
        · rw [hlen]; simp; omega
        · exact start_tmp (Q' := fun v d => RepW β w X v d) hvl hle hreps (.c (.p (.lit _))) (.c (.p (.any _))) t
        · exact start_ref (p := fun b => (((startS fn.ntmps args blks ns).fs).blk b).isSome = true) hlive
        · obtain ⟨β', X', hB⟩ := frzS_ok q4 hfz h'
          obtain ⟨vs, h1, h2, h3, h4⟩ := results_run hB hds
          have hpost : a'.defers = [] ∧ ∃ v, (results fn a'.tmps).run c.P w' = .ok v w' ∧ (∃ v' β' X', Ending.returned v = .returned v' ∧ RelB c 0 ⟨fun _ => .any, fun b => s.blks.getD b none, fun b => s.nst.contains b⟩ ⟨#[], []⟩ w' β' X' ∧ RepW β' w' X' v' (packD ds) ∧
              ∀ b ∈ (packD ds).refs, (s.blks.getD b none).isSome = true) := by
            refine ⟨hB.defers.trans qd, packV vs, h1, packV vs, β', X', rfl, ⟨qd.symm, rfl, fun t => .c (.p (.any _)), fun t b hb => by simp [D.refs] at hb, hB.blk, hB.ndc, hB.inj, hB.F, hB.Flt, hB.Xlt, hB.below, hB.gh, hB.ghnd, ⟨hB.kp.obj, hB.kp.x, hB.kp.lt, hB.kp.off⟩⟩, ?_⟩
            by_cases hone : ds.length = 1
            · obtain ⟨d, rfl⟩ := List.length_eq_one_iff.1 hone
              obtain ⟨v, rfl⟩ := List.length_eq_one_iff.1 (h2.trans hone)
              exact ⟨h3 0 (by simp) (by simp), h4 d (by simp)⟩
            · have hcell : ∀ d ∈ ds, d.refs = [] ∨ ∃ b, d.ref = some b := by
                simp only [Bool.or_eq_true, beq_iff_eq, hone, false_or, List.all_eq_true] at hpure
                intro d hd
                have := hpure d hd
                unfold D.single at this
                rw [Bool.or_eq_true, List.isEmpty_iff] at this
                exact this.imp id Option.isSome_iff_exists.1
              have hl : LQ (RepV β' w' X') vs ds := ⟨h2, fun i hi hi' => by
                rcases hcell ds[i] (List.getElem_mem hi') with e | ⟨b, e⟩
                · exact .p ((h3 i hi hi').pure e)
                · exact (h3 i hi hi').cell (fun xs e2 => by rw [e2] at e; cases e) (fun xs e2 => by rw [e2] at e; cases e)⟩
              have ep : packD ds = .tup ds := by
                match ds, hone with
                | [], _ => rfl
                | [d], h => exact absurd rfl h
                | d :: d' :: ds, _ => rfl
              have ev : packV vs = .tuple vs.toArray := by
                match vs, (h2 ▸ hone : vs.length ≠ 1) with
                | [], _ => rfl
                | [v], h => exact absurd rfl h
                | v :: v' :: vs, _ => rfl
              rw [ep, ev]
              refine ⟨.tup vs ds hl, fun b hb => ?_⟩
              obtain ⟨d, hd, e⟩ := List.mem_filterMap.1 hb
              exact h4 d hd b (ref_mem e)
          rcases hend with rfl | rfl <;> exact hpost
      split at h
      · rename_i s0 tr2 eqs2 hr
        split at h
        · rename_i s hfz
          split at h
          · rename_i ds hds
            split at h
            · rename_i hp
              simp only [Option.some.injEq, Prod.mk.injEq] at h
              obtain ⟨rfl, rfl, rfl, rfl, rfl⟩ := h
              exact key _ _ _ _ hr (.inl rfl) hfz hds hp
            · cases h
          · cases h
        · cases h
      · rename_i s0 tr2 eqs2 hr
        split at h
        · rename_i s hfz
          split at h
          · rename_i ds hds
            split at h
            · rename_i hp
              simp only [Option.some.injEq, Prod.mk.injEq] at h
              obtain ⟨rfl, rfl, rfl, rfl, rfl⟩ := h
              exact key _ _ _ _ hr (.inr rfl) hfz hds hp
            · cases h
          · cases h
        · cases h
      · cases h
    · cases h
  · cases h

theorem runC_sound (hG : Steady Good) : ∀ (m : Nat) (ro : List Nat) (gb : Nat) (k : Code) (s : St) (tr : List (Item P Good)) (e : XEnd) (s' : St) (tr' : List (Item P Good)) (eqs : List (Got × Got)),
    runC P m ro gb k s tr = some (e, s', tr', eqs) → Agree eqs → Shows P Good gb k s e s'
  | 0, ro, gb, k, s, tr, e, s', tr', eqs, h, _ => by simp [runC] at h
  | m + 1, ro, gb, k, s, tr, e, s', tr', eqs, h, he => by
    have ih := runC_sound hG m
    unfold runC at h
    split at h
    · rename_i b tr1
      split at h
      · rename_i cs hcs
        split at h
        · rename_i hle
          rw [Bool.and_eq_true, Nat.ble_eq] at hle
          obtain ⟨hle, hpu⟩ := hle
          split at h
          · rename_i e2 s2 tr2 eqs2 h2
            simp only [Option.some.injEq, Prod.mk.injEq] at h
            obtain ⟨rfl, rfl, rfl, rfl⟩ := h
            obtain ⟨l1, w1⟩ := ih _ _ _ _ _ _ _ _ _ h2 (fun x hx => he x (List.mem_cons_of_mem _ hx))
            have hl : (s.freeze b cs).tmps.length = s.tmps.length := by simp [St.freeze]
            rw [hl] at l1 w1
            refine ⟨l1, fun c Q a w q1 q2 q3 qg q4 q5 => w1 c Q a w q1 q2 q3 qg ?_ q5⟩
            obtain ⟨β, X, hB⟩ := q4
            rw [freeze_fs hcs]
            refine ⟨β, _, hB.freeze (b := b) hcs ?_ (by omega)⟩
            rw [Bool.or_eq_true, Bool.not_eq_true', Bool.not_eq_true'] at hpu
            rcases hpu with hn | hn
            · exact flat_pure hB hcs hn
            · exact anyRef_no hn
          · cases h
        · cases h
      · cases h
    · split at h
      · simp only [Option.some.injEq, Prod.mk.injEq] at h
        obtain ⟨rfl, rfl, rfl, rfl⟩ := h
        exact ⟨rfl, fun c Q a w _ _ _ _ h4 h5 => wpIn_skip (h5 a w h4)⟩
      · simp only [Option.some.injEq, Prod.mk.injEq] at h
        obtain ⟨rfl, rfl, rfl, rfl⟩ := h
        exact ⟨rfl, fun c Q a w _ _ _ _ h4 h5 => wpIn_ret (h5 a w h4)⟩
      · simp only [Option.some.injEq, Prod.mk.injEq] at h
        obtain ⟨rfl, rfl, rfl, rfl⟩ := h
        exact ⟨rfl, fun c Q a w _ _ _ _ h4 h5 => wpIn_exit (h5 a w h4)⟩
      · rename_i x y
        split at h
        · rename_i s1 tr1 e1 h1
          split at h
          · rename_i e2' s2 tr2 e2 h2
            simp only [Option.some.injEq, Prod.mk.injEq] at h
            obtain ⟨rfl, rfl, rfl, rfl⟩ := h
            obtain ⟨he1, he2⟩ := he.append
            obtain ⟨l1, w1⟩ := ih _ _ _ _ _ _ _ _ _ h1 he1
            obtain ⟨l2, w2⟩ := ih _ _ _ _ _ _ _ _ _ h2 he2
            refine ⟨by omega, fun c Q a w q1 q2 q3 qg q4 q5 => wpIn_seq ?_⟩
            exact w1 c _ a w q1 q2 q3 qg q4 fun a' w' h' => w2 c Q a' w' q1 q2 q3 qg (by rw [l1]; exact h') (by rw [l1]; exact q5)
          · cases h
        · rename_i hne
          obtain ⟨l1, w1⟩ := ih _ _ _ _ _ _ _ _ _ h he
          refine ⟨l1, fun c Q a w q1 q2 q3 qg q4 q5 => wpIn_seq ?_⟩
          refine w1 c _ a w q1 q2 q3 qg q4 fun a' w' h' => ?_
          have := q5 a' w' h'
          cases e with
          | normal => exact absurd h (hne _ _ _)
          | exit id => exact this
          | ret => exact this
      · rename_i x k1 k2
        split at h
        · rename_i hx
          obtain ⟨l1, w1⟩ := ih _ _ _ _ _ _ _ _ _ h he
          refine ⟨l1, fun c Q a w q1 q2 q3 qg q4 q5 => wpIn_cond_true ?_ (w1 c Q a w q1 q2 q3 qg q4 q5)⟩
          obtain ⟨β, X, hB⟩ := q4
          exact ev_val hB (by rw [hx]; rfl)
        · rename_i hx
          obtain ⟨l1, w1⟩ := ih _ _ _ _ _ _ _ _ _ h he
          refine ⟨l1, fun c Q a w q1 q2 q3 qg q4 q5 => wpIn_cond_false ?_ (w1 c Q a w q1 q2 q3 qg q4 q5)⟩
          obtain ⟨β, X, hB⟩ := q4
          exact ev_val hB (by rw [hx]; rfl)
        · cases h
      · rename_i id x
        split at h
        · rename_i id' s1 tr1 e1 h1
          split at h
          · rename_i hid
            simp only [beq_iff_eq] at hid
            subst hid
            simp only [Option.some.injEq, Prod.mk.injEq] at h
            obtain ⟨rfl, rfl, rfl, rfl⟩ := h
            obtain ⟨l1, w1⟩ := ih _ _ _ _ _ _ _ _ _ h1 he
            refine ⟨l1, fun c Q a w q1 q2 q3 qg q4 q5 => wpIn_block ?_⟩
            refine w1 c _ a w q1 q2 q3 qg q4 fun a' w' h' => ?_
            show (if id' = id' then Q .normal a' w' else Q (.exit id') a' w')
            rw [if_pos rfl]; exact q5 a' w' h'
          · rename_i hid
            simp only [Option.some.injEq, Prod.mk.injEq] at h
            obtain ⟨rfl, rfl, rfl, rfl⟩ := h
            obtain ⟨l1, w1⟩ := ih _ _ _ _ _ _ _ _ _ h1 he
            refine ⟨l1, fun c Q a w q1 q2 q3 qg q4 q5 => wpIn_block ?_⟩
            refine w1 c _ a w q1 q2 q3 qg q4 fun a' w' h' => ?_
            show (if id' = id then Q .normal a' w' else Q (.exit id') a' w')
            rw [if_neg (by simpa using hid)]; exact q5 a' w' h'
        · rename_i hne
          obtain ⟨l1, w1⟩ := ih _ _ _ _ _ _ _ _ _ h he
          refine ⟨l1, fun c Q a w q1 q2 q3 qg q4 q5 => wpIn_block ?_⟩
          refine w1 c _ a w q1 q2 q3 qg q4 fun a' w' h' => ?_
          have := q5 a' w' h'
          cases e with
          | normal => exact this
          | exit id => exact absurd h (hne _ _ _ _)
          | ret => exact this
      · rename_i id ops draw
        split at h
        · cases h
        rename_i sF hfr
        obtain ⟨hfl, hfk⟩ := frzAt_ok _ _ _ hfr
        have back : Shows P Good gb (.region id ops draw) sF e s' → Shows P Good gb (.region id ops draw) s e s' := fun sh => ⟨sh.1.trans hfl, fun c Q a w q1 q2 q3 qg q4 q5 => sh.2 c Q a w q1 q2 q3 qg (by rw [hfl]; exact hfk c _ a w qg q4) (by rw [hfl]; exact q5)⟩
        refine back ?_
        split at h
        · rename_i s1 tr1 eqs1 recs h1
          split at h
          · rename_i hd
            split at h
            · rename_i hck
              simp only [Bool.and_eq_true] at hck
              simp only [Option.some.injEq, Prod.mk.injEq] at h
              obtain ⟨rfl, rfl, rfl, rfl⟩ := h
              refine ⟨runOps_len _ _ _ _ _ _ _ h1, fun c Q a w q1 q2 q3 qg q4 q5 => ?_⟩
              subst hd
              exact draw_sound (inlOf_ok ih) qg q1 q2 hG q3 hck.1 h1 he hck.2 q4 q5
            split at h
            · rename_i hck
              simp only [Bool.and_eq_true] at hck
              simp only [Option.some.injEq, Prod.mk.injEq] at h
              obtain ⟨rfl, rfl, rfl, rfl⟩ := h
              refine ⟨runOps_len _ _ _ _ _ _ _ h1, fun c Q a w q1 q2 q3 qg q4 q5 => ?_⟩
              subst hd
              exact val_sound (inlOf_ok ih) qg q1 q2 hG q3 hck.1 (by rw [hck.2.1] at h1; exact h1) he hck.2.2 q4 q5
            split at h
            · rename_i hck
              simp only [Bool.and_eq_true] at hck
              simp only [Option.some.injEq, Prod.mk.injEq] at h
              obtain ⟨rfl, rfl, rfl, rfl⟩ := h
              refine ⟨runOps_len _ _ _ _ _ _ _ h1, fun c Q a w q1 q2 q3 qg q4 q5 => ?_⟩
              subst hd
              exact float_sound (inlOf_ok ih) qg q1 q2 hG q3 hck.1 h1 he hck.2 q4 q5
            · split at h
              · rename_i hck
                simp only [Bool.and_eq_true] at hck
                simp only [Option.some.injEq, Prod.mk.injEq] at h
                obtain ⟨rfl, rfl, rfl, rfl⟩ := h
                have hlen := runOps_len _ _ _ _ _ _ _ h1
                refine ⟨hlen, fun c Q a w q1 q2 q3 qg q4 q5 => ?_⟩
                subst hd
                exact brute_region (inlOf_ok ih) q1 q2 hG q3 qg hck.1 hck.2 q4 (by rw [hlen]; exact q5)
              · cases h
          · rename_i hd
            have hd' : draw = false := by simpa using hd
            subst hd'
            simp only [Option.some.injEq, Prod.mk.injEq] at h
            obtain ⟨rfl, rfl, rfl, rfl⟩ := h
            exact ⟨runOps_len _ _ _ _ _ _ _ h1, fun c Q a w q1 q2 q3 qg q4 q5 => wpIn_region_list (runOps_sound (inlOf_ok ih) q1 q2 hG q3 qg _ _ _ _ _ _ _ a w h1 he q4 q5)⟩
        · cases h
      · rename_i x
        unfold runLoop at h
        split at h
        · rename_i n gb' k' l bl ns e' s2 habs tr2 _
          split at h
          · rename_i hok
            simp only [Bool.and_eq_true, beq_iff_eq] at hok
            simp only [Option.some.injEq, Prod.mk.injEq] at h
            obtain ⟨rfl, rfl, rfl, rfl⟩ := h
            have hag := he _ (List.mem_cons_self ..)
            simp only [Got.code.injEq] at hag
            obtain ⟨rfl, rfl, rfl, g1, g2⟩ := hag
            refine ⟨hok.2, fun c Q a w q1 q2 q3 qg q4 q5 => ?_⟩
            have q6 := q4.mask qg hok.1
            rw [mask_lay rfl g1 g2] at q6
            refine habs c Q a w q1 q2 q3 qg q6 fun a' w' h' => ?_
            have := q5 a' w' h'
            cases e' <;> exact this
          · cases h
        · obtain ⟨l1, n1, w1⟩ := iter_sound (fun s tr e s' tr' eqs hh ha => ih ro gb x s tr e s' tr' eqs hh ha) m s tr e s' tr' eqs h he
          exact ⟨l1, fun c Q a w q1 q2 q3 qg q4 q5 => wpIn_loop_rounds m (w1 c Q a w q1 q2 q3 qg q4 q5)⟩
      · unfold runLoop at h
        split at h
        · rename_i n gb' k' l bl ns e' s2 habs tr2 _
          split at h
          · rename_i hok
            simp only [Bool.and_eq_true, beq_iff_eq] at hok
            simp only [Option.some.injEq, Prod.mk.injEq] at h
            obtain ⟨rfl, rfl, rfl, rfl⟩ := h
            have hag := he _ (List.mem_cons_self ..)
            simp only [Got.code.injEq] at hag
            obtain ⟨rfl, rfl, rfl, g1, g2⟩ := hag
            refine ⟨hok.2, fun c Q a w q1 q2 q3 qg q4 q5 => ?_⟩
            have q6 := q4.mask qg hok.1
            rw [mask_lay rfl g1 g2] at q6
            refine habs c Q a w q1 q2 q3 qg q6 fun a' w' h' => ?_
            have := q5 a' w' h'
            cases e' <;> exact this
          · cases h
        · exfalso
          cases m with
          | zero => simp [iter] at h
          | succ m => simp [iter] at h
      · cases h

/-! ### From runs to contracts. -/
def Item.says : Item P Good → Got
  | .call (f := f) (args := args) _ => .call f args
  | .eq _ (d := d) _ => .d d
  | .prop (p := p) _ => .p p
  | .code (n := n) (gb := gb) (k := k) (l := l) (bl := bl) _ => .code k n gb (l.map (·.2)) (bl.map fun p => some p.2)
  | .callN (f := f) (args := args) _ => .call f args
  | .callF (f := f) (args := args) _ => .call f args
  | .inl _ (f := f) _ => .call f []
  | .freeze _ => .p True
  | .auto _ => .p True
def said (tr : List (Item P Good)) : List (Got × Got) := tr.map fun i => (i.says, i.says)
theorem agree_said (tr : List (Item P Good)) : Agree (said tr) := by
  intro e he
  simp only [said, List.mem_map] at he
  obtain ⟨i, _, rfl⟩ := he
  rfl

theorem Abs.of_run (hG : Steady Good) {ro : List Nat} {gb m : Nat} {k : Code} {s s' : St} {e : XEnd} (tr : List (Item P Good)) (h : runC P m ro gb k s tr = some (e, s', [], said tr)) :
    Abs P Good s.tmps.length gb k s e s' := shows_abs (runC_sound hG m ro gb k s tr e s' [] _ h (agree_said tr))
theorem Shows.of_run (hG : Steady Good) {ro : List Nat} {gb m : Nat} {k : Code} {s s' : St} {e : XEnd} (tr : List (Item P Good)) (h : runC P m ro gb k s tr = some (e, s', [], said tr)) :
    Shows P Good gb k s e s' := runC_sound hG m ro gb k s tr e s' [] _ h (agree_said tr)

/-- A function's run. -/
def runFn (P : Program) {Good : World → Prop} (ro : List Nat) (m : Nat) (fn : Func) (args : List D) (tr : List (Item P Good)) : Option (D × List (Item P Good) × List (Got × Got)) :=
  match fn.body with
  | some k => if Nat.ble args.length fn.ntmps then
      match runC P m ro 0 k (startS fn.ntmps args []) tr with
      | some (.normal, s, tr', eqs) | some (.ret, s, tr', eqs) => match resultsD P s fn.results.toList with
        | some ds => some (packD (ds.map (D.rowOf s.fs.blk s.fs.nst)), tr', eqs)
        | none => none
      | _ => none
    else none
  | none => none

/-- ████ A contract off a run. -/
theorem Spec.of_run' (hG : Steady Good) {f : FuncId} {fn : Func} (hf : P.funcs[f]? = some fn) {ro : List Nat} {m : Nat} {args : List D} {r : D} (tr tr2 : List (Item P Good)) {eqs : List (Got × Got)} (hag : Agree eqs)
    (h : runFn P ro m fn args tr = some (r, tr2, eqs)) : Spec P Good f args r := by
  intro w F vals hgood hargs hF
  unfold runFn at h
  split at h
  · rename_i k hk
    split at h
    · rename_i hle
      rw [Nat.ble_eq] at hle
      have key : ∀ e s, runC P m ro 0 k (startS fn.ntmps args []) tr = some (e, s, tr2, eqs) → (e = .normal ∨ e = .ret) → (∃ ds, resultsD P s fn.results.toList = some ds ∧ packD (ds.map (D.rowOf s.fs.blk s.fs.nst)) = r) →
          Calls P f vals.toArray w fun e w' => ∃ v, e = .returned v ∧ RepP w' F v r ∧ Below w.heap.size w w' ∧ Good w' := by
        intro e s hr he hres
        obtain ⟨ds, hds, rfl⟩ := hres
        have hs := runC_sound hG m ro 0 k _ tr e s tr2 _ hr hag
        have hlen := start_len (blks := []) (ns := []) hle
        refine (callsIn_wide (n := 0)).1 (callsIn_of_wp hf hk trivial ?_)
        show Code.wpIn (Fw none) 0 _ _ _ _ _
        let c : Ctx := ⟨P, Good, F, w, [], 0, none, [], fun _ => none, 0, fun _ => none, fun _ => False⟩
        have hnone : ∀ b, (startS fn.ntmps args []).fs.blk b = none := fun b => by simp [startS, St.fs]
        refine hs.2 c _ _ w rfl rfl hgood (Nat.le_refl _) ⟨fun _ => 0, F, rfl, ?_, fun t => ?_, ?_, fun b cs hb => ?_, fun b cs hb => ?_, fun b b' hb => ?_, fun _ h => h, hF, hF, ⟨Below.refl _ _, fun k o hk => (by cases hk), Nat.zero_le _⟩, fun p hp => ?_, fun p hp => ?_, Keep.none rfl rfl⟩ fun a' w' hrel => ?_
        · rw [hlen]; have := hargs.1; simp; omega
        · exact start_tmp (Q' := fun v d => RepW (fun _ => 0) w F v d) hargs.1 hle (fun i h1 h2 => .c (.p (hargs.2 i h1 h2))) (.c (.p (.lit _))) (.c (.p (.any _))) t
        · refine start_ref fun d hd b hb => ?_
          obtain ⟨i, hi, rfl⟩ := List.mem_iff_getElem.1 hd
          rw [repP_refs (hargs.2 i (by rw [hargs.1]; exact hi) hi)] at hb; cases hb
        · rw [hnone] at hb; cases hb
        · rw [hnone] at hb; cases hb
        · rw [hnone] at hb; cases hb
        · cases hp
        · cases hp
        · obtain ⟨β, X, hB⟩ := hrel
          obtain ⟨vs, h1, h2, h3, h4⟩ := results_run (c := c) hB hds
          have hreps : Reps w' F vs (ds.map (D.rowOf s.fs.blk s.fs.nst)) := by
            refine ⟨by simpa using h2, fun i hi hi' => ?_⟩
            rw [List.getElem_map]
            have hi2 : i < ds.length := by rw [← h2]; exact hi
            refine rowOf_rep hB (h3 i hi hi2) hB.F fun b cs hcs k hk he => ?_
            have h5 := (hB.blk b cs hcs).1
            have h6 := hB.Flt k hk
            omega
          have hpost : a'.defers = [] ∧ ∃ v, (results fn a'.tmps).run P w' = .ok v w' ∧ (∃ v', Ending.returned v = .returned v' ∧ RepP w' F v' (packD (ds.map (D.rowOf s.fs.blk s.fs.nst))) ∧ Below w.heap.size w w' ∧ Good w') :=
            ⟨hB.defers, packV vs, h1, packV vs, rfl, pack_reps hreps, hB.below.bel, hB.good hG hgood⟩
          rcases he with rfl | rfl <;> exact hpost
      split at h
      · rename_i s tr' eqs hr
        split at h
        · rename_i ds hds
          simp only [Option.some.injEq, Prod.mk.injEq] at h
          obtain ⟨rfl, rfl, rfl⟩ := h
          exact key _ _ hr (.inl rfl) ⟨ds, hds, rfl⟩
        · cases h
      · rename_i s tr' eqs hr
        split at h
        · rename_i ds hds
          simp only [Option.some.injEq, Prod.mk.injEq] at h
          obtain ⟨rfl, rfl, rfl⟩ := h
          exact key _ _ hr (.inr rfl) ⟨ds, hds, rfl⟩
        · cases h
      · cases h
    · cases h
  · cases h

theorem Spec.of_run (hG : Steady Good) {f : FuncId} {fn : Func} (hf : P.funcs[f]? = some fn) {ro : List Nat} {m : Nat} {args : List D} {r : D} (tr : List (Item P Good))
    (h : runFn P ro m fn args tr = some (r, [], said tr)) : Spec P Good f args r := Spec.of_run' hG hf tr [] (agree_said tr) h
/-- ████ The same where contracts are looked up; what is handed are contracts of the functions at which the prover stops. -/
theorem Spec.of_auto (hG : Steady Good) (A : Auto P Good) {f : FuncId} {fn : Func} (hf : P.funcs[f]? = some fn) {ro : List Nat} {m : Nat} {args : List D} {r : D} (tr : List (Item P Good))
    (h : ((runFn P ro m fn args (.auto A :: tr)).map fun o => (o.1, o.2.2)) = some (r, said tr)) : Spec P Good f args r := by
  cases hr : runFn P ro m fn args (.auto A :: tr) with
  | none => rw [hr] at h; cases h
  | some o =>
    obtain ⟨d, tr2, eqs⟩ := o
    rw [hr] at h
    simp only [Option.map_some, Option.some.injEq, Prod.mk.injEq] at h
    obtain ⟨rfl, rfl⟩ := h
    exact Spec.of_run' hG hf _ tr2 (agree_said tr) hr

/-- What a callee does in place, off a run. -/
def runIn (P : Program) {Good : World → Prop} (ro : List Nat) (m mx : Nat) (fn : Func) (args : List D) (blks : List (Option (List D))) (tr : List (Item P Good)) : Option (D × List (Option (List D)) × List Nat × List (Got × Got)) :=
  match inlOf P (runC P m) mx ro fn args blks [] tr with
  | some (d, blks', ns', _, eqs) => some (d, blks', ns', eqs)
  | none => none
theorem Inl.of_auto (hG : Steady Good) (A : Auto P Good) {fn : Func} {ro : List Nat} {m mx : Nat} {args : List D} {blks blks' : List (Option (List D))} {d : D}
    (h : runIn P ro m mx fn args blks [Item.auto A] = some (d, blks', [], [])) : Inl P Good fn mx args blks [] d blks' [] := by
  unfold runIn at h
  split at h
  · rename_i d1 b1 n1 tr1 e1 h1
    simp only [Option.some.injEq, Prod.mk.injEq] at h
    obtain ⟨rfl, rfl, rfl, rfl⟩ := h
    exact inlOf_ok (fun ro gb k s tr e s' tr' eqs hh ha => runC_sound hG m ro gb k s tr e s' tr' eqs hh ha) _ _ _ _ _ _ _ _ _ _ _ _ h1 (fun e he => by cases he)
  · cases h
theorem Inl.mono {fn : Func} {mx mx' : Nat} {args : List D} {blks blks' : List (Option (List D))} {ns ns' : List Nat} {d : D} (h : Inl P Good fn mx args blks ns d blks' ns') (hm : mx' ≤ mx) : Inl P Good fn mx' args blks ns d blks' ns' :=
  fun f hf c w β X vals h1 h2 h3 h4 => h f hf c w β X vals h1 h2 h3 (Nat.le_trans h4 hm)

theorem slc_back {β : Nat → Nat} {w : World} {X : Nat → Prop} {v : Value} {b off len cap : Nat} (h : RepW β w X v (.slc b off len cap)) : v = .slice (some ⟨β b, off, none⟩) len cap ∧ cap ≤ maxLen := by
  cases h with
  | c h => cases h with
    | p hp => cases hp
    | slc _ _ _ _ _ h2 => exact ⟨rfl, h2⟩
/-- ████ The same where a slice over a new row of cells comes back. -/
theorem SpecN.of_run (hG : Steady Good) {f : FuncId} {fn : Func} (hf : P.funcs[f]? = some fn) {k : Code} (hk : fn.body = some k) {ro : List Nat} {m : Nat} {args : List D} {n : Nat} {cs : List D} {t : Tmp} (hle : args.length ≤ fn.ntmps) (hres : fn.results = #[.tmp t]) {e : XEnd} {b : Nat} (tr : List (Item P Good))
    (h : ((runC P m ro 0 k (startS fn.ntmps args []) tr).map fun o => (o.1, o.2.1.tmps.getD t .any, (if o.2.1.nst.contains b then none else o.2.1.blks.getD b none), o.2.2.1, o.2.2.2)) = some (e, .slc b 0 n n, some cs, [], said tr)) (he : e = .normal ∨ e = .ret) : SpecN P Good f args n cs := by
  intro w F vals hgood hargs hF
  cases hr : runC P m ro 0 k (startS fn.ntmps args []) tr with
  | none => rw [hr] at h; cases h
  | some o =>
    obtain ⟨e1, s, tr1, eqs1⟩ := o
    rw [hr] at h
    simp only [Option.map_some, Option.some.injEq, Prod.mk.injEq] at h
    obtain ⟨rfl, hd, hc', rfl, rfl⟩ := h
    have hnb : s.nst.contains b = false := by
      cases hq : s.nst.contains b with
      | false => rfl
      | true => rw [hq] at hc'; simp at hc'
    have hc : s.blks.getD b none = some cs := by rw [hnb] at hc'; simpa using hc'
    have hs := runC_sound hG m ro 0 k _ tr e1 s [] _ hr (agree_said tr)
    have hlen := start_len (blks := []) (ns := []) hle
    refine (callsIn_wide (n := 0)).1 (callsIn_of_wp hf hk trivial ?_)
    show Code.wpIn (Fw none) 0 _ _ _ _ _
    let c : Ctx := ⟨P, Good, F, w, [], 0, none, [], fun _ => none, 0, fun _ => none, fun _ => False⟩
    have hnone : ∀ b, (startS fn.ntmps args []).fs.blk b = none := fun b => by simp [startS, St.fs]
    refine hs.2 c _ _ w rfl rfl hgood (Nat.le_refl _) ⟨fun _ => 0, F, rfl, ?_, fun t => ?_, ?_, fun b cs hb => ?_, fun b cs hb => ?_, fun b b' hb => ?_, fun _ h => h, hF, hF, ⟨Below.refl _ _, fun k o hk => (by cases hk), Nat.zero_le _⟩, fun p hp => ?_, fun p hp => ?_, Keep.none rfl rfl⟩ fun a' w' hrel => ?_
    · rw [hlen]; have := hargs.1; simp; omega
    · exact start_tmp (Q' := fun v d => RepW (fun _ => 0) w F v d) hargs.1 hle (fun i h1 h2 => .c (.p (hargs.2 i h1 h2))) (.c (.p (.lit _))) (.c (.p (.any _))) t
    · refine start_ref fun d hd b hb => ?_
      obtain ⟨i, hi, rfl⟩ := List.mem_iff_getElem.1 hd
      rw [repP_refs (hargs.2 i (by rw [hargs.1]; exact hi) hi)] at hb; cases hb
    · rw [hnone] at hb; cases hb
    · rw [hnone] at hb; cases hb
    · rw [hnone] at hb; cases hb
    · cases hp
    · cases hp
    · obtain ⟨β, X, hB⟩ := hrel
      have hv := hB.tmp t
      have hd' : s.fs.tmp t = .slc b 0 n n := hd
      rw [hd'] at hv
      obtain ⟨q1, q2, us, ty, q3, q4, q5'⟩ := hB.blk b cs hc
      have q5 := q5'.pure (flat_pure hB hc hnb)
      have hpost : a'.defers = [] ∧ ∃ v, (results fn a'.tmps).run P w' = .ok v w' ∧ ∃ k us ty, Ending.returned v = .returned (.slice (some ⟨k, 0, none⟩) n n) ∧ n ≤ maxLen ∧ w.heap.size ≤ k ∧ w'.heap[k]? = some (.cells us ty (0, 0)) ∧ cs.length ≤ us.size ∧
          Reps w' (fun j => F j ∨ j = k) (us.toList.take cs.length) cs ∧ Below w.heap.size w w' ∧ Good w' := by
        have hds : resultsD c.P s fn.results.toList = some [.slc b 0 n n] := by rw [hres]; simp only [resultsD, resultD, hd]
        obtain ⟨vs, h1, h2, h3, h4⟩ := results_run (c := c) hB hds
        obtain ⟨v, rfl⟩ := List.length_eq_one_iff.1 h2
        have hv2 := h3 0 (by simp) (by simp)
        refine ⟨hB.defers, v, h1, β b, us, ty, ?_, ?_, q1, q3, q4, q5.mono (fun a u ha hx => ⟨ha, ?_⟩), hB.below.bel, hB.good hG hgood⟩
        · have hv3 : RepW β w' X v (.slc b 0 n n) := hv2
          rw [(slc_back hv3).1]
        · exact (slc_back hv).2
        · rintro (hx2 | hx2)
          · exact hx (hB.F _ hx2)
          · exact hx (by rw [hx2]; exact q2)
      rcases he with rfl | rfl <;> exact hpost

/-- ████ A loop: 'inv' are the frames at the heads of rounds; each round comes to another head that is nearer, or leaves. -/
theorem Shows.loop {ι : Type} {gb : Nat} {body : Code} (R : ι → Prop) (inv : ι → St) (μ : ι → Nat) {n : Nat} {e : XEnd} {s' : St} (hlen : ∀ i, (inv i).tmps.length = n) (he : e ≠ .normal)
    (round : ∀ i, R i → (∃ j s1 kT kB kN, R j ∧ μ j < μ i ∧ Shows P Good gb body (inv i) .normal s1 ∧ maskOk gb kT kB kN s1 = true ∧ (s1.mask kT kB kN).fs = (inv j).fs) ∨
      (∃ s1 kT kB kN, Shows P Good gb body (inv i) e s1 ∧ maskOk gb kT kB kN s1 = true ∧ (s1.mask kT kB kN).fs = s'.fs)) (i : ι) (hi : R i) : Abs P Good n gb (.loop body) (inv i) e s' := by
  intro c Q a w h1 h2 h3 hg h4 h5
  have hend : ∀ a' w', Rel c n s'.fs a' w' → Q e.toExit a' w' := fun a' w' h' => by have := h5 a' w' h'; cases e <;> exact this
  refine wpIn_loop_ghost (fun k a w => ∃ i, μ i = k ∧ R i ∧ Rel c n (inv i).fs a w) (μ i) ⟨i, rfl, hi, h4⟩ fun k a w hk => ?_
  obtain ⟨i, rfl, hi, h4⟩ := hk
  rcases round i hi with ⟨j, s1, kT, kB, kN, hj, hlt, hsh, hok, hm⟩ | ⟨s1, kT, kB, kN, hsh, hok, hm⟩
  · refine hsh.2 c _ a w h1 h2 h3 hg (by rw [hlen]; exact h4) fun a' w' h' => ?_
    rw [hlen] at h'
    exact ⟨μ j, hlt, j, rfl, hj, by rw [← hm]; exact h'.mask hg hok⟩
  · refine hsh.2 c _ a w h1 h2 h3 hg (by rw [hlen]; exact h4) fun a' w' h' => ?_
    rw [hlen] at h'
    have := hend a' w' (by rw [← hm]; exact h'.mask hg hok)
    cases e with
    | normal => exact absurd rfl he
    | exit id => exact this
    | ret => exact this
end Lw
