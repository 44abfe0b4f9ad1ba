/- Regions whose order is open: the check, and the theorem. No condition. -/
import Derived.Test.YtfdllnbmjlhliaaGreatDoorLwG
namespace Lw
open Go Go.RowKit

variable {P : Program} {Good : World → Prop}

def readsOf (ops : Array Oper) (o : Oper) : List Tmp :=
  (o.op.operands.toList.filterMap fun | .tmp t => some t | _ => none) ++
    match o.guard with
    | some (j, _) => ((ops[j]?).bind (·.dst)).toList
    | none => []
structure Info where
  ix : Nat
  dst : Option Tmp
  reads : List Tmp
  rc : Rec
  acc : Option Nat
  anc : Nat
def infos (ops : Array Oper) : Nat → List Oper → List (Rec × Option Nat) → List Nat → List Info
  | i, o :: l, r :: rs, k :: ks => ⟨i, o.dst, readsOf ops o, r.1, r.2, k⟩ :: infos ops (i + 1) l rs ks
  | _, _, _, _ => []
def Info.lone (s0len : Nat) (x : Info) : Bool :=
  match x.rc with
  | .new b _ _ => Nat.ble s0len b
  | .store b _ _ => x.acc == some b
  | .val _ => true
  | .grow _ _ _ => false
  | .own _ => false
  | .inl _ _ => false
def Info.pair (x y : Info) : Bool :=
  (x.ix == y.ix ||
    ((match x.dst with | some t => !(y.dst == some t) | none => true) &&
     (match x.rc with | .store b _ _ => !(y.rc.isStore b) || ((x.anc.testBit y.ix && Nat.blt y.ix x.ix) || (y.anc.testBit x.ix && Nat.blt x.ix y.ix)) | .new b _ _ => !(y.rc.isNew b) | _ => true))) &&
  ((match y.dst with | some t => !(x.reads.contains t) | none => true) || (y.ix == x.ix || (x.anc.testBit y.ix || y.anc.testBit x.ix))) &&
  (match x.acc with
    | some b => (!(y.rc.isStore b) || (y.ix == x.ix || (x.anc.testBit y.ix || y.anc.testBit x.ix))) && (!(y.rc.isNew b) || x.anc.testBit y.ix)
    | none => true)
def topo : Nat → List Oper → Bool
  | _, [] => true
  | i, o :: l => (depsOf o).all (fun d => Nat.blt d i) && topo (i + 1) l
def drawCheck (ops : Array Oper) (s0len : Nat) (l : List Oper) (recs : List (Rec × Option Nat)) : Bool :=
  let xs := infos ops 0 l recs (ancs l [])
  topo 0 l && (xs.all (Info.lone s0len) && xs.all fun x => xs.all fun y => x.pair y)

theorem infos_mem {ops : Array Oper} : ∀ (i : Nat) (l : List Oper) (rs : List (Rec × Option Nat)) (ks : List Nat), rs.length = l.length → ks.length = l.length → ∀ j (h : j < l.length),
    ⟨i + j, l[j].dst, readsOf ops l[j], (rs.getD j (.val .any, none)).1, (rs.getD j (.val .any, none)).2, ks.getD j 0⟩ ∈ infos ops i l rs ks
  | i, [], rs, ks, _, _, j, h => absurd h (by simp)
  | i, o :: l, [], ks, h1, _, j, h => by simp at h1
  | i, o :: l, r :: rs, [], _, h2, j, h => by simp at h2
  | i, o :: l, r :: rs, k :: ks, h1, h2, j, h => by
    cases j with
    | zero => simp [infos]
    | succ j =>
      have := infos_mem (ops := ops) (i + 1) l rs ks (by simpa using h1) (by simpa using h2) j (by simpa using h)
      simp only [infos, List.mem_cons]
      right
      simpa [Nat.add_assoc, Nat.add_comm 1 j] using this
theorem topo_ok : ∀ (i : Nat) (l : List Oper), topo i l = true → ∀ j (h : j < l.length), ∀ d ∈ depsOf l[j], d < i + j
  | i, [], _, j, h => absurd h (by simp)
  | i, o :: l, ht, j, h => by
    simp only [topo, Bool.and_eq_true, List.all_eq_true, Nat.blt_eq] at ht
    cases j with
    | zero => intro d hd; exact ht.1 d hd
    | succ j => intro d hd; have := topo_ok (i + 1) l ht.2 j (by simpa using h) d hd; omega

theorem count_lt {l : List Nat} {p q : Nat → Bool} {i : Nat} (hi : i ∈ l) (hpi : p i = true) (hqi : q i = false) (h : ∀ j ∈ l, q j = true → p j = true) : l.countP q < l.countP p := by
  induction l with
  | nil => cases hi
  | cons x l ih =>
    have hle : l.countP q ≤ l.countP p := List.countP_mono_left fun j hj hq => h j (List.mem_cons_of_mem _ hj) hq
    by_cases hx : x = i
    · subst hx
      rw [List.countP_cons_of_neg (by rw [hqi]; simp), List.countP_cons_of_pos hpi]
      omega
    · have hil : i ∈ l := by
        rcases List.mem_cons.1 hi with h1 | h1
        · exact absurd h1.symm hx
        · exact h1
      have := ih hil fun j hj hq => h j (List.mem_cons_of_mem _ hj) hq
      rw [List.countP_cons, List.countP_cons]
      by_cases hqx : q x = true
      · rw [if_pos hqx, if_pos (h x (by simp) hqx)]; omega
      · rw [if_neg hqx]; omega

/-- The frame behind the first i operations. -/
def seqFS (n : Nat) (s : FS) (dst : Nat → Option Tmp) (R : Nat → Rec) : Nat → FS
  | 0 => s
  | i + 1 => (seqFS n s dst R i).app n (dst i) (R i)
theorem seqFS_shift (n : Nat) (s : FS) (dst : Nat → Option Tmp) (R : Nat → Rec) (i : Nat) : seqFS n s dst R (i + 1) = seqFS n (s.app n (dst 0) (R 0)) (fun j => dst (j + 1)) (fun j => R (j + 1)) i := by
  induction i with
  | zero => rfl
  | succ i ih => rw [seqFS, ih]; rfl

/-- What a run in the order of the text tells of each operation. -/
theorem runOps_each {inl : Inline P Good} {ops : Array Oper} {ro : List Nat} {gb : Nat} : ∀ (l : List Oper) (s s' : St) (tr tr' : List (Item P Good)) (eqs : List (Got × Got)) (recs : List (Rec × Option Nat)),
      runOps P inl ops ro gb l s tr = some (s', tr', eqs, recs) → Agree eqs →
      recs.length = l.length ∧ s'.fs = seqFS s.tmps.length s.fs (fun j => (l[j]?).bind (·.dst)) (fun j => (recs.getD j (.val .any, none)).1) l.length ∧
      ∀ i (h : i < l.length), ∃ (si : St) (tri tri' : List (Item P Good)) (eqi : List (Got × Got)),
        opRec P inl ops l[i] ro gb si.fs si.blks tri = some ((recs.getD i (.val .any, none)).1, tri', eqi) ∧ Agree eqi ∧ (recs.getD i (.val .any, none)).2 = accOf l[i] si.fs.ev ∧
        si.fs = seqFS s.tmps.length s.fs (fun j => (l[j]?).bind (·.dst)) (fun j => (recs.getD j (.val .any, none)).1) i
  | [], s, s', tr, tr', eqs, recs, hr, he => by
    simp only [runOps, Option.some.injEq, Prod.mk.injEq] at hr
    obtain ⟨rfl, rfl, rfl, rfl⟩ := hr
    exact ⟨rfl, rfl, fun i h => absurd h (by simp)⟩
  | o :: rest, s, s', tr, tr', eqs, recs, hr, he => by
    simp only [runOps] at hr
    split at hr
    · rename_i R tr1 eqs1 h1
      split at hr
      · rename_i s2 tr2 eqs2 recs2 h2
        simp only [Option.some.injEq, Prod.mk.injEq] at hr
        obtain ⟨rfl, rfl, rfl, rfl⟩ := hr
        obtain ⟨he1, he2⟩ := he.append
        obtain ⟨e1, e2⟩ := opRec_app h1
        obtain ⟨g1, g3, g4⟩ := runOps_each rest _ _ _ _ _ _ h2 he2
        rw [e2, e1] at g3 g4
        refine ⟨by simp [g1], ?_, fun i hi => ?_⟩
        · rw [g3]
          show _ = seqFS _ _ _ _ (rest.length + 1)
          rw [seqFS_shift]; rfl
        · cases i with
          | zero => exact ⟨s, tr, tr1, eqs1, h1, he1, rfl, rfl⟩
          | succ i =>
            obtain ⟨si, tri, tri', eqi, q1, q2, q3, q4⟩ := g4 i (by simpa using hi)
            refine ⟨si, tri, tri', eqi, q1, q2, q3, ?_⟩
            rw [q4, seqFS_shift]; rfl
      · cases hr
    · cases hr

theorem draw_sound {c : Ctx} {Q : Exit → Act → World → Prop} {inl : Inline P Good} (hinl : InlOk P Good inl) {gb : Nat} (hgb : c.gb ≤ gb) (hP : c.P = P) (hGd : c.Good = Good) (hG : Steady Good) (h0 : c.Good c.w0) (hm : P.follows .mixedOrders = true) {id : Nat} {ops : Array Oper} {ro : List Nat}
    {s s' : St} {tr tr' : List (Item P Good)} {eqs : List (Got × Got)} {recs : List (Rec × Option Nat)} {a : Act} {w : World}
    (hr : runOps P inl ops ro gb ops.toList s tr = some (s', tr', eqs, recs)) (he : Agree eqs) (hck : drawCheck ops s.blks.length ops.toList recs = true)
    (h : Rel c s.tmps.length s.fs a w) (hQ : ∀ a' w', Rel c s.tmps.length s'.fs a' w' → Q .normal a' w') : (Code.region id ops true).wp P Q a w := by
  obtain ⟨hlen, hfin, heach⟩ := runOps_each _ _ _ _ _ _ _ hr he
  generalize hl : ops.toList = l at *
  have hget : ∀ i : Nat, ops[i]? = l[i]? := fun i => by rw [← hl]; simp
  have hsz : ops.size = l.length := by rw [← hl]; simp
  simp only [drawCheck, Bool.and_eq_true, List.all_eq_true] at hck
  obtain ⟨ht, hlone, hpair⟩ := hck
  have htop : ∀ i (h : i < l.length), ∀ d ∈ depsOf l[i], d < i := fun i h d hd => by have := topo_ok 0 l ht i h d hd; omega
  obtain ⟨hok, hal⟩ := ancs_ok l l [] [] rfl rfl ⟨by simp, fun i h => absurd h (by simp)⟩ htop
  generalize hA : ancs l [] = A at *
  have hmem := infos_mem (ops := ops) 0 l recs A hlen hal
  simp only [Nat.zero_add] at hmem
  generalize hdst : (fun j : Nat => (l[j]?).bind (fun x : Oper => x.dst)) = dst at *
  generalize hRR : (fun j : Nat => (recs.getD j (.val .any, none)).1) = R at *
  generalize hAC : (fun j : Nat => (recs.getD j ((.val .any, none) : Rec × Option Nat)).2) = acc
  have hdst' : ∀ i (h : i < l.length), l[i].dst = dst i := fun i h => by rw [← hdst]; simp [h]
  have hR' : ∀ i, (recs.getD i (.val .any, none)).1 = R i := fun i => by rw [← hRR]
  have hAC' : ∀ i, (recs.getD i (.val .any, none)).2 = acc i := fun i => by rw [← hAC]
  have ok : DrawOk s.fs l.length dst (fun i t => ((l[i]?).map fun o => (readsOf ops o).contains t) == some true) R acc (fun i j => (A.getD i 0).testBit j) := by
    have P2 : ∀ i j (hi : i < l.length) (hj : j < l.length), Info.pair ⟨i, dst i, readsOf ops l[i], R i, acc i, A.getD i 0⟩ ⟨j, dst j, readsOf ops l[j], R j, acc j, A.getD j 0⟩ = true := by
      intro i j hi hj
      have := hpair _ (hmem i hi) _ (hmem j hj)
      simpa only [hdst', hR', hAC'] using this
    have P1 : ∀ i (hi : i < l.length), Info.lone s.blks.length ⟨i, dst i, readsOf ops l[i], R i, acc i, A.getD i 0⟩ = true := by
      intro i hi
      have := hlone _ (hmem i hi)
      simpa only [hdst', hR', hAC'] using this
    refine ⟨fun i j t hi hj h1 h2 => ?_, fun i j b hi hj h1 h2 => ?_, fun i j b hi hj h1 h2 => ?_, fun i b hi h1 => ?_, fun i j t hi hj h1 h2 => ?_, fun i j b hi hj h1 h2 => ?_, fun i j b hi hj h1 h2 => ?_, fun i b hi h1 => ?_, fun i hi => ?_⟩
    · have := P2 i j hi hj
      simp only [Info.pair, Bool.and_eq_true, h1, h2] at this
      simpa using this.1.1
    · have := P2 i j hi hj
      cases hq : R i <;> simp only [hq, Rec.isStore, Bool.false_eq_true] at h1
      rename_i b' off ds
      simp only [beq_iff_eq] at h1
      subst h1
      simp only [Info.pair, Bool.and_eq_true, hq, h2] at this
      have h9 := this.1.1
      rcases (by simpa using h9 : i = j ∨ _ ∧ ((A.getD i 0).testBit j = true ∧ j < i ∨ (A.getD j 0).testBit i = true ∧ i < j)) with h9 | h9
      · exact .inl h9
      · exact .inr h9.2
    · have := P2 i j hi hj
      cases hq : R i <;> simp only [hq, Rec.isNew, Bool.false_eq_true] at h1
      rename_i b' off ds
      simp only [beq_iff_eq] at h1
      subst h1
      simp only [Info.pair, Bool.and_eq_true, hq, h2] at this
      simpa using this.1.1
    · have := P1 i hi
      cases hq : R i <;> simp only [hq, Rec.isNew, Bool.false_eq_true] at h1
      simp only [beq_iff_eq] at h1
      subst h1
      simp only [Info.lone, hq, Nat.ble_eq] at this
      simp only [St.fs, List.getD_eq_getElem?_getD]
      rw [List.getElem?_eq_none (by omega)]; rfl
    · have := P2 i j hi hj
      have h1' : (readsOf ops l[i]).contains t = true := by simpa [hi] using h1
      simp only [Info.pair, Bool.and_eq_true, h2, h1'] at this
      simpa using this.1.2
    · have := P2 i j hi hj
      simp only [Info.pair, Bool.and_eq_true, h1, h2] at this
      simpa using this.2.1
    · have := P2 i j hi hj
      simp only [Info.pair, Bool.and_eq_true, h1, h2] at this
      simpa using this.2.2
    · have := P1 i hi
      cases hq : R i <;> simp only [hq, Rec.isStore, Bool.false_eq_true] at h1
      simp only [beq_iff_eq] at h1
      subst h1
      simpa [Info.lone, hq] using this
    · have := P1 i hi
      cases hq : R i <;> simp [Info.lone, hq] at this <;> rfl
  have hanc : ∀ (L : Nat → Bool), (∀ j (h : j < l.length), L j = true → ∀ d ∈ depsOf l[j], L d = true) → ∀ i (h : i < l.length), (∀ d ∈ depsOf l[i], L d = true) → ∀ k, (A.getD i 0).testBit k = true → L k = true :=
    fun L hcl => anc_closed hok hal hcl
  have hpre : ∀ i, ∀ j (h : j < l.length), (Nat.blt j i) = true → ∀ d ∈ depsOf l[j], (Nat.blt d i) = true := fun i j h hj d hd => by
    rw [Nat.blt_eq] at hj ⊢
    have := htop j h d hd; omega
  have hseq : ∀ i, i ≤ l.length → seqFS s.tmps.length s.fs dst R i = sL s.fs s.tmps.length l.length dst R (fun j => Nat.blt j i) := by
    intro i
    induction i with
    | zero =>
      intro _
      have : ∀ j, Nat.blt j 0 = false := fun j => by cases hq : Nat.blt j 0 with | false => rfl | true => rw [Nat.blt_eq] at hq; omega
      have hz : (fun j => Nat.blt j 0) = fun _ => false := funext this
      rw [hz]
      simp only [seqFS, sL, Bool.false_and]
      have hf : ∀ x : Option (List D), (List.range l.length).foldl (fun c j => if false = true then Option.map (R j).stored c else c) x = x := fun x => fold_none (p := fun _ => false) (f := fun j c => Option.map (R j).stored c) (fun _ _ => rfl)
      rw [find_none (fun _ _ => rfl)]
      simp only [hf]
    | succ i ih =>
      intro hi
      rw [seqFS, ih (by omega), sL_app ok (by omega) (by cases hq : Nat.blt i i with | false => rfl | true => rw [Nat.blt_eq] at hq; omega)
        (fun j hj hL k hk => hanc _ (hpre i) j hj (hpre i j hj hL) k hk)]
      congr 1
      funext j
      rw [Bool.eq_iff_iff, Bool.or_eq_true, Nat.blt_eq, Nat.blt_eq, beq_iff_eq]
      omega
  subst hP
  have hstep : ∀ (L : Nat → Bool) (i : Nat) (hi : i < l.length), L i = false → (∀ j (h : j < l.length), L j = true → ∀ d ∈ depsOf l[j], L d = true) → (∀ d ∈ depsOf l[i], L d = true) →
      ∀ (a : Act) (w : World), Rel c s.tmps.length (sL s.fs s.tmps.length l.length dst R L) a w → ∀ K : Act → World → Prop,
      (∀ a' w', Rel c s.tmps.length (sL s.fs s.tmps.length l.length dst R (fun j => L j || j == i)) a' w' → K a' w') → wpOp c.P ops Q i K a w := by
    intro L i hi hL hcl hrd a w hrel K hK
    obtain ⟨si, tri, tri', eqi, q1, q2, q3, q4⟩ := heach i hi
    rw [hR'] at q1
    rw [hAC'] at q3
    rw [hseq i (by omega)] at q4
    have hii : Nat.blt i i = false := by cases hq : Nat.blt i i with | false => rfl | true => rw [Nat.blt_eq] at hq; omega
    have hrd' : ∀ d ∈ depsOf l[i], Nat.blt d i = true := fun d hd => by rw [Nat.blt_eq]; exact htop i hi d hd
    have a1 := hanc L hcl i hi hrd
    have a2 := hanc _ (hpre i) i hi hrd'
    have c1 : ∀ j, j < l.length → L j = true → ∀ k, (A.getD j 0).testBit k = true → L k = true := fun j hj hLj => hanc L hcl j hj (hcl j hj hLj)
    have c2 : ∀ j, j < l.length → Nat.blt j i = true → ∀ k, (A.getD j 0).testBit k = true → Nat.blt k i = true := fun j hj hLj => hanc _ (hpre i) j hj (hpre i j hj hLj)
    have rd : ∀ t, t ∈ readsOf ops l[i] → (sL s.fs s.tmps.length l.length dst R (fun j => Nat.blt j i)).tmp t = (sL s.fs s.tmps.length l.length dst R L).tmp t := fun t ht =>
      sL_tmp (L := fun j => Nat.blt j i) (L' := L) ok hi hii hL a2 a1 c2 c1 (by simp [hi, ht])
    have q1' : opRec c.P inl ops l[i] ro gb (sL s.fs s.tmps.length l.length dst R L) si.blks tri = some (R i, tri', eqi) := by
      rw [q4] at q1
      refine opRec_congr (fun j want t hg hd => rd t ?_) (fun x hx => ?_) (fun b hb => ?_) q1 (ok.cPlain i hi)
      · simp [readsOf, hg, hd]
      · cases x with
        | tmp t => exact rd t (by simp only [readsOf, List.mem_append, List.mem_filterMap]; exact .inl ⟨.tmp t, hx, rfl⟩)
        | const v => rfl
        | global g => rfl
        | func f => rfl
      · rw [← q4, ← q3] at hb
        exact sL_blk (L := fun j => Nat.blt j i) (L' := L) ok hi hii hL a2 a1 c2 c1 hb
    have hoi : ops[i]? = some l[i] := by rw [hget]; simp [hi]
    unfold wpOp
    simp only [hoi]
    have := opRec_sound hinl rfl hGd hG h0 hgb hrel q1' q2 (fun b cs d hb => sL_fresh ok hi hL (by rw [hb]; simp [Rec.isNew])) (fun bl d hb => by have := ok.cPlain i hi; rw [hb] at this; cases this) (Q := Q) (K := K) (fun a' w' h' => hK a' w' (by
      rw [hdst' i hi, sL_app ok hi hL c1] at h'; exact h'))
    split
    · rename_i hw; rw [if_pos hw] at this; exact .inl this
    · rename_i hw; rw [if_neg hw] at this; exact this
  have main : ∀ (fuel : Nat) (listed : Array Bool) (a : Act) (w : World), listed.size = l.length →
      (∀ j (h : j < l.length), listed.getD j false = true → ∀ d ∈ depsOf l[j], listed.getD d false = true) → (List.range l.length).countP (fun j => !listed.getD j false) ≤ fuel →
      Rel c s.tmps.length (sL s.fs s.tmps.length l.length dst R (fun j => listed.getD j false)) a w → wpAny c.P .any ops Q fuel listed a w := by
    intro fuel
    have done : ∀ (listed : Array Bool) (a : Act) (w : World), listed.size = l.length → Region.ready .any ops listed = [] →
        Rel c s.tmps.length (sL s.fs s.tmps.length l.length dst R (fun j => listed.getD j false)) a w → Q .normal a w := by
      intro listed a w hs hrdy hrel
      have hall : ∀ i, i < l.length → listed.getD i false = true := by
        intro i
        induction i using Nat.strongRecOn with
        | _ i ih =>
          intro hi
          cases hq : listed.getD i false with
          | true => rfl
          | false =>
            have : i ∈ Region.ready .any ops listed := by
              rw [mem_ready]
              refine ⟨?_, l[i], by rw [hget]; simp [hi], fun e he' hb => ?_⟩
              · have : i < listed.size := by omega
                simp [Array.getD, this] at hq ⊢; exact hq
              · have hd : e.on ∈ depsOf l[i] := by
                  simp only [depsOf, List.mem_map, List.mem_filter]
                  exact ⟨e, ⟨by simpa using he', hb⟩, rfl⟩
                exact ih e.on (htop i hi _ hd) (by have := htop i hi _ hd; omega)
            rw [hrdy] at this; cases this
      refine hQ a w ?_
      rw [hfin, hseq l.length (Nat.le_refl _)]
      have e : sL s.fs s.tmps.length l.length dst R (fun j => Nat.blt j l.length) = sL s.fs s.tmps.length l.length dst R (fun j => listed.getD j false) := by
        have hb : ∀ j, j < l.length → Nat.blt j l.length = listed.getD j false := fun j hj => by rw [hall j hj, Nat.blt_eq]; exact hj
        simp only [sL]
        congr 1
        · funext t; congr 1; exact find_congr fun j hj => by rw [hb j hj]
        · funext b
          have e1 : (List.range l.length).find? (fun j => Nat.blt j l.length && (R j).isNew b) = (List.range l.length).find? (fun j => listed.getD j false && (R j).isNew b) := find_congr fun j hj => by rw [hb j hj]
          rw [e1]
          exact fold_congr fun j hj => by rw [hb j hj]
      rw [e]; exact hrel
    induction fuel with
    | zero =>
      intro listed a w hs hcl hcnt hrel
      have hall : ∀ i, i < l.length → listed.getD i false = true := fun i hi => by
        cases hq : listed.getD i false with
        | true => rfl
        | false =>
          have : 0 < (List.range l.length).countP (fun j => !listed.getD j false) := List.countP_pos_iff.2 ⟨i, by simpa using hi, by rw [hq]; rfl⟩
          omega
      have hrdy : Region.ready .any ops listed = [] := by
        cases hq : Region.ready .any ops listed with
        | nil => rfl
        | cons i r =>
          have : i ∈ Region.ready .any ops listed := by rw [hq]; simp
          rw [mem_ready] at this
          obtain ⟨h1, o, h2, _⟩ := this
          have hi : i < l.length := by rw [hget] at h2; exact (List.getElem?_eq_some_iff.1 h2).1
          have h3 := hall i hi
          have : i < listed.size := by omega
          simp [Array.getD, this] at h1 h3
          rw [h1] at h3; cases h3
      exact ⟨hrdy, done listed a w hs hrdy hrel⟩
    | succ fuel ih =>
      intro listed a w hs hcl hcnt hrel
      refine ⟨fun hrdy => done listed a w hs hrdy hrel, fun i hi => ?_⟩
      rw [mem_ready] at hi
      obtain ⟨h1, o, h2, h3⟩ := hi
      rw [hget] at h2
      obtain ⟨hil, rfl⟩ := List.getElem?_eq_some_iff.1 h2
      have hisz : i < listed.size := by omega
      have hLi : listed.getD i false = false := by simp [Array.getD, hisz] at h1 ⊢; exact h1
      have hdeps : ∀ d ∈ depsOf l[i], listed.getD d false = true := by
        intro d hd
        simp only [depsOf, List.mem_map, List.mem_filter] at hd
        obtain ⟨e, ⟨he1, he2⟩, rfl⟩ := hd
        exact h3 e (by simpa using he1) he2
      have hset : ∀ j, (listed.setIfInBounds i true).getD j false = (listed.getD j false || j == i) := by
        intro j
        by_cases hji : i = j
        · subst hji; simp [Array.getD, hisz]
        · rw [getD_set_ne false hji]; simp [Ne.symm hji]
      refine hstep (fun j => listed.getD j false) i hil hLi hcl hdeps a w hrel _ fun a' w' h' => ?_
      refine ih _ a' w' (by simpa using hs) (fun j hj hj2 d hd => ?_) ?_ ?_
      · rw [hset] at hj2 ⊢
        rw [Bool.or_eq_true] at hj2 ⊢
        rcases hj2 with hj2 | hj2
        · exact .inl (hcl j hj hj2 d hd)
        · simp only [beq_iff_eq] at hj2; subst hj2; exact .inl (hdeps d hd)
      · have := count_lt (l := List.range l.length) (p := fun j => !listed.getD j false) (q := fun j => !(listed.setIfInBounds i true).getD j false) (i := i) (by simpa using hil) (by rw [hLi]; rfl) (by rw [hset]; simp)
          (fun j _ hq => by rw [hset] at hq; simp at hq ⊢; exact hq.1)
        omega
      · have e : (fun j => (listed.setIfInBounds i true).getD j false) = fun j => listed.getD j false || j == i := funext hset
        rw [e]; exact h'
  refine wp_region_any hm ?_
  rw [hsz]
  refine main _ _ _ _ (by simp) (fun j hj hj2 => ?_) ?_ ?_
  · exfalso
    simp [Array.getD] at hj2
  · exact Nat.le_trans List.countP_le_length (by simp)
  · have hz : (fun j => (Array.replicate l.length false).getD j false) = fun j => Nat.blt j 0 := by
      funext j
      have : Nat.blt j 0 = false := by cases hq : Nat.blt j 0 with | false => rfl | true => rw [Nat.blt_eq] at hq; omega
      rw [this]
      simp [Array.getD]
    rw [hz, ← hseq 0 (Nat.zero_le _)]
    obtain ⟨β, X, hB⟩ := h
    exact ⟨β, X, hB.grow ((Below.refl _ _).drew)⟩
end Lw
