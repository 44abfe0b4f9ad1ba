/- Walks under way with another party's code between: a step of the executor, the world's cells kept. The iterator over pairs of free bodies. No condition. -/
import Derived.Test.YtmcpfihkambgnaaGreatLwRa
import Derived.RangeFuncNested
import Derived.RangeFuncLeaves
namespace Lw
open Go Go.RowKit Go.Proofs

/-- The parts of a code. -/
def kL : Code → Code
  | .seq x _ => x
  | .cond _ x _ => x
  | .block _ x => x
  | .loop x => x
  | .rangeFunc _ _ x _ => x
  | _ => .skip
def kR : Code → Code
  | .seq _ y => y
  | .cond _ _ y => y
  | .rangeFunc _ _ _ y => y
  | _ => .skip
def cOps : Code → List Oper
  | .region _ ops _ => ops.toList
  | _ => []
def cBody (f : Func) : Code := f.body.getD .skip

theorem wpIn_n {F : Fence} {n m : Nat} {P : Program} {k : Code} {Q : Exit → Act → World → Prop} {a : Act} {w : World} (hF : F.depth = none) (h : k.wpIn F n P Q a w) : k.wpIn F m P Q a w :=
  fun b kk cs h1 h2 _ => h b kk cs h1 h2 (fun d hd => by rw [hF] at hd; cases hd)
theorem seq_in {F : Fence} {n : Nat} {P : Program} {k x y : Code} {Q : Exit → Act → World → Prop} {a : Act} {w : World} (hk : k = .seq x y) (h : x.wpIn F n P (Exit.then (y.wpIn F n P Q) Q) a w) : k.wpIn F n P Q a w := by
  subst hk; exact wpIn_seq h
theorem block_in {F : Fence} {n : Nat} {P : Program} {k x : Code} {id : Nat} {Q : Exit → Act → World → Prop} {a : Act} {w : World} (hk : k = .block id x) (h : x.wpIn F n P (Exit.inBlock id Q) a w) : k.wpIn F n P Q a w := by
  subst hk; exact wpIn_block h
theorem loop_in {F : Fence} {rm : Nat} {P : Program} {k c : Code} {Q : Exit → Act → World → Prop} {a : Act} {w : World} (hk : k = .loop c) (I : Nat → Act → World → Prop) (n₀ : Nat) (h₀ : I n₀ a w)
    (round : ∀ n a w, I n a w → c.wpIn F rm P (Exit.then (fun a' w' => ∃ n', n' < n ∧ I n' a' w') Q) a w) : k.wpIn F rm P Q a w := by
  subst hk; exact wpIn_loop_ghost I n₀ h₀ round

/-- All cells lie as they lay. -/
structure Keeps (W W' : World) : Prop where
  size : W.heap.size ≤ W'.heap.size
  same : ∀ (k : Nat) us e fr, W.heap[k]? = some (.cells us e fr) → W'.heap[k]? = some (.cells us e fr)
theorem Keeps.trans {A B C : World} (h : Keeps A B) (k : Keeps B C) : Keeps A C := ⟨Nat.le_trans h.size k.size, fun i us e fr hi => k.same i us e fr (h.same i us e fr hi)⟩
theorem Keeps.of_below {W W' : World} (h : Below W.heap.size W W') : Keeps W W' := ⟨h.size, fun k us e fr hk => by rw [h.block k (Array.getElem?_eq_some_iff.1 hk).1]; exact hk⟩
theorem Keeps.cell {W W' : World} (h : Keeps W W') {a : Addr} {u : Value} (ha : W.cell? a = some u) : W'.cell? a = some u := by
  have hlt := cell_lt ha
  cases hq : W.heap[a.block]? with
  | none => simp [World.cell?, hq] at ha
  | some o =>
    cases o with
    | cells us e fr =>
      have e1 : W'.heap[a.block]? = W.heap[a.block]? := by rw [h.same _ us e fr hq, hq]
      rw [World.cell?_of_block e1]; exact ha
    | _ => simp [World.cell?, hq] at ha
theorem Keeps.shapes {W W' : World} (h : Keeps W W') : Shapes W W' := fun k sh hs => by
  obtain ⟨e, m⟩ := sh
  obtain ⟨us, fr, hk, rfl⟩ := cells_of_shape hs
  exact shape_of_cells (h.same k us e fr hk)
theorem RelB.keep {c : Ctx} {n : Nat} {s : FSt} {a : Act} {w w' : World} {β : Nat → Nat} {X : Nat → Prop} (h : RelB c n s a w β X) (hk : Keeps w w') (hb : BelowC c w') (hn : ∀ k, c.kp k = none := by intro k; rfl) : RelB c n s a w' β X := by
  have hm : ∀ a u, w.cell? a = some u → ¬ X a.block → w'.cell? a = some u ∧ ¬ X a.block := fun a u h hx => ⟨hk.cell h, hx⟩
  exact ⟨h.defers, h.size, fun t => (h.tmp t).mono hm hk.shapes, h.nd, fun b cs hs => by
    obtain ⟨h1, h2, us, e, h3, h4, h5⟩ := h.blk b cs hs
    exact ⟨h1, h2, us, e, hk.same _ _ _ _ h3, h4, h5.mono fun u x _ hq => hq.mono hm hk.shapes⟩, h.ndc, h.inj, h.F, h.Flt, fun k hx => Nat.lt_of_lt_of_le (h.Xlt k hx) hk.size, hb,
    fun p hp => (h.gh p hp).mono hm hk.shapes, h.ghnd, ⟨fun k o ho => (by rw [hn] at ho; cases ho), h.kp.x, fun k hx => Nat.lt_of_lt_of_le (h.kp.lt k hx) hk.size, h.kp.off⟩⟩

/-- The context of a walk that starts here, without own blocks. -/
def cx (P : Program) (G : World → Prop) (r : Option Nat) (w : World) : Ctx := ⟨P, G, fun _ => False, w, [], 0, r, [], fun _ => none, 0, fun _ => none, fun _ => False⟩
variable {P : Program} {G : World → Prop}
theorem Rel.rebase {r r' : Option Nat} {w0 w : World} {n : Nat} {s : FSt} {a : Act} (h : Rel (cx P G r w0) n s a w) (hs : ∀ b, s.blk b = none) : Rel (cx P G r' w) n s a w := by
  obtain ⟨β, X, h⟩ := h
  exact ⟨β, X, h.defers, h.size, h.tmp, h.nd, (fun b cs hb => by rw [hs b] at hb; cases hb), (fun b cs hb => by rw [hs b] at hb; cases hb), h.inj, h.F, fun k hk => hk.elim, h.Xlt, ⟨Below.refl _ _, fun _ _ hk => (by cases hk), Nat.zero_le _⟩, (fun p hp => by cases hp), (fun p hp => by cases hp), Keep.none rfl rfl⟩
theorem Rel.keeps {r : Option Nat} {w w' : World} {n : Nat} {s : FSt} {a : Act} (h : Rel (cx P G r w) n s a w) (hs : ∀ b, s.blk b = none) (hk : Keeps w w') : Rel (cx P G r w') n s a w' := by
  obtain ⟨β, X, h⟩ := h
  have hm : ∀ a u, w.cell? a = some u → ¬ X a.block → w'.cell? a = some u ∧ ¬ X a.block := fun a u h hx => ⟨hk.cell h, hx⟩
  exact ⟨β, X, h.defers, h.size, (fun t => (h.tmp t).mono hm hk.shapes), h.nd, (fun b cs hb => by rw [hs b] at hb; cases hb), (fun b cs hb => by rw [hs b] at hb; cases hb), h.inj, h.F, fun k hk => hk.elim, (fun k hx => Nat.lt_of_lt_of_le (h.Xlt k hx) hk.size), ⟨Below.refl _ _, fun _ _ hk => (by cases hk), Nat.zero_le _⟩, (fun p hp => by cases hp), (fun p hp => by cases hp), Keep.none rfl rfl⟩
theorem lay_none (n : Nat) (l : List (Nat × D)) (b : Nat) : (lay n l []).fs.blk b = none := rfl
/-- A step of the executor. -/
theorem step_in {s : St} {n m : Nat} {l : List (Nat × D)} {e : XEnd} {k : Code} {r : Option Nat} {Q : Exit → Act → World → Prop} {a : Act} {W : World} (hn : s.tmps.length = n) (hg : Goes P G 0 k s e (lay n l [])) (hr : Rel (cx P G r W) n s.fs a W) (hG : Steady G) (hgood : G W)
    (hQ : ∀ a' W', Rel (cx P G r W') n (lay n l []).fs a' W' → G W' → Below W.heap.size W W' → Q e.toExit a' W') : k.wpIn (Fw r) m P Q a W := by
  obtain ⟨s1, kT, kB, kN, hsh, hok, hm⟩ := hg
  refine wpIn_n (n := 0) rfl (hsh.2 (cx P G r W) Q a W rfl rfl hgood (Nat.le_refl 0) (by rw [hn]; exact hr) fun a' W' h' => ?_)
  rw [hn] at h'
  have h2 := h'.mask (Nat.le_refl _) hok
  rw [hm] at h2
  obtain ⟨β, X, hB⟩ := h2
  exact hQ a' W' (Rel.rebase ⟨β, X, hB⟩ fun b => lay_none n l b) (hB.good hG hgood) hB.below.bel
/-- The first operations of a region in the order of the text, then others. -/
theorem runOps_pre {c : Ctx} {Q : Exit → Act → World → Prop} {inl : Inline P G} (hinl : InlOk P G inl) (hP : c.P = P) (hGd : c.Good = G) (hG : Steady G) (h0 : c.Good c.w0) {gb : Nat} (hgb : c.gb ≤ gb) {ops : Array Oper} {ro : List Nat} (l2 : List Oper) :
    ∀ (l : List Oper) (s s' : St) (tr tr' : List (Item P G)) (eqs : List (Got × Got)) (recs : List (Rec × Option Nat)) (a : Act) (w : World),
      runOps P inl false ops ro gb l s tr = some (s', tr', eqs, recs) → Agree eqs → Rel c s.tmps.length s.fs a w → (∀ a' w', Rel c s.tmps.length s'.fs a' w' → wpListIn (Fw c.rd) 0 P ops Q l2 a' w') → wpListIn (Fw c.rd) 0 P ops Q (l ++ l2) a w
  | [], s, s', tr, tr', eqs, recs, a, w, hr, he, h, hQ => by
    simp only [runOps, Option.some.injEq, Prod.mk.injEq] at hr
    obtain ⟨rfl, rfl, rfl, rfl⟩ := hr
    exact hQ a w h
  | o :: rest, s, s', tr, tr', eqs, recs, a, w, hr, he, h, hQ => by
    simp only [runOps] at hr
    split at hr
    · rename_i R tr1 eqs1 h1
      split at hr
      · rename_i s2 tr2 eqs2 recs2 h2
        simp only [Option.some.injEq, Prod.mk.injEq] at hr
        obtain ⟨rfl, rfl, rfl, rfl⟩ := hr
        obtain ⟨he1, he2⟩ := he.append
        obtain ⟨e1, e2⟩ := opRec_app h1
        refine wpListIn_step fun K hK => ?_
        refine opRec_soundIn hinl hP hGd hG h0 hgb h h1 he1 (fun b cs d nf hb => by rw [(opRec_new h1).1 b cs d nf hb]; exact blk_len_none s) (fun _ => ⟨fun b => rfl, fun b => rfl, tmp_out s, mxA_ok _ s hgb⟩) fun a' w' h' => hK _ _ ?_
        rw [← e1, ← e2] at h'
        exact runOps_pre hinl hP hGd hG h0 hgb l2 rest _ _ _ _ _ _ a' w' h2 he2 h' (by rw [e2]; exact hQ)
      · cases hr
    · cases hr
/-- A run of operations that keeps what is named. -/
def keepOps (P : Program) {G : World → Prop} (ops : Array Oper) (l : List Oper) (s : St) (tr : List (Item P G)) (kT : List Nat) : Option (List D × List (Item P G) × List (Got × Got)) :=
  match runOps P (inlOf P (runC P 60)) false ops [] 0 l s tr with
  | some (s', tr', eqs, _) => if maskOk 0 kT [] [] s' && s'.tmps.length == s.tmps.length then some (kT.map fun t => s'.tmps.getD t .any, tr', eqs) else none
  | none => none
theorem ops_in {s : St} {n m : Nat} {l : List (Nat × D)} {r : Option Nat} {ops : Array Oper} {l1 l2 : List Oper} {Q : Exit → Act → World → Prop} {a : Act} {W : World} (hn : s.tmps.length = n) (tr : List (Item P G)) (hG : Steady G)
    (h : keepOps P ops l1 s tr (l.map (·.1)) = some (l.map (·.2), [], said tr)) (hr : Rel (cx P G r W) n s.fs a W) (hgood : G W)
    (hQ : ∀ a' W', Rel (cx P G r W') n (lay n l []).fs a' W' → G W' → Below W.heap.size W W' → wpListIn (Fw r) 0 P ops Q l2 a' W') : wpListIn (Fw r) 0 P ops Q (l1 ++ l2) a W := by
  unfold keepOps at h
  split at h
  · rename_i s' tr' eqs recs hrun
    split at h
    · rename_i hok
      simp only [Bool.and_eq_true, beq_iff_eq] at hok
      simp only [Option.some.injEq, Prod.mk.injEq] at h
      obtain ⟨h1, rfl, rfl⟩ := h
      have hinl : InlOk P G (inlOf P (runC P 60)) := inlOf_ok fun ro gb k s tr e s' tr' eqs hh ha => runC_sound hG 60 ro gb k s tr e s' tr' eqs hh ha
      refine runOps_pre (c := cx P G r W) hinl rfl rfl hG hgood (Nat.le_refl 0) l2 l1 s s' tr [] _ recs a W hrun (agree_said tr) (by rw [hn]; exact hr) fun a' W' h' => ?_
      rw [hn] at h'
      have h2 := h'.mask (Nat.le_refl _) hok.1
      have e := mask_lay (s := s') (n := n) (l := l) (bl := []) (ns := []) (hok.2.trans hn) (by rw [List.map_map] at h1; exact h1) rfl
      simp only [List.map_nil] at e
      rw [e] at h2
      obtain ⟨β, X, hB⟩ := h2
      exact hQ a' W' (Rel.rebase ⟨β, X, hB⟩ fun b => lay_none n l b) (hB.good hG hgood) hB.below.bel
    · cases h
  · cases h
theorem roundIn_n {F : Fence} {n m : Nat} {P : Program} {l : Nat} {f : FuncId} {tmps : Array Value} {assign body : Code} {w : World} {R : Ending → World → Prop} (hF : F.depth = none) (h : RoundIn F n P l f tmps assign body w R) : RoundIn F m P l f tmps assign body w R :=
  ⟨h.1, fun c cs _ => h.2 c cs (fun d hd => by rw [hF] at hd; cases hd)⟩
theorem lay_put (n : Nat) (l : List (Nat × D)) (t : Nat) (d : D) (ht : t < n) : (lay n l []).fs.put n (some t) d = (lay n ((t, d) :: l) []).fs := by
  have key : ∀ u, (if some t = some u ∧ u < n then d else (lay n l []).fs.tmp u) = (lay n ((t, d) :: l) []).fs.tmp u := fun u => by
    rw [lay_tmp, lay_tmp]
    by_cases hu : t = u
    · subst hu
      rw [if_pos ⟨rfl, ht⟩, if_pos ht, List.find?_cons_of_pos (by simp)]; rfl
    · rw [if_neg (by rintro ⟨h, _⟩; exact hu (Option.some.inj h)), List.find?_cons_of_neg (by simpa using hu)]
  show (⟨fun u => if some t = some u ∧ u < n then d else (lay n l []).fs.tmp u, _, _⟩ : FSt) = _
  rw [funext key]; rfl
/-- A temporary gets a literal. -/
theorem Rel.putLit {r : Option Nat} {w : World} {n : Nat} {l : List (Nat × D)} {a : Act} {t : Nat} {v : Value} (h : Rel (cx P G r w) n (lay n l []).fs a w) (ht : t < n) : Rel (cx P G r w) n (lay n ((t, .lit v) :: l) []).fs (a.put (some t) v) w := by
  obtain ⟨β, X, hB⟩ := h
  have := hB.put (dst := some t) (v := v) (d := .lit v) (.c (.p (.lit v))) (fun b hb => by simp [D.refs] at hb)
  rw [lay_put n l t _ ht] at this
  exact ⟨β, X, this⟩
/-- Where literals alone are known, the world does not matter. -/
theorem Rel.lits {G' : World → Prop} {r r' : Option Nat} {w w' : World} {n : Nat} {s : FSt} {l : List (Nat × D)} {a : Act} (h : Rel (cx P G r w) n s a w) (hl : ∀ p ∈ l, ∃ v, p.2 = .lit v ∧ s.tmp p.1 = .lit v) : Rel (cx P G' r' w') n (lay n l []).fs a w' := by
  obtain ⟨β, X, hB⟩ := h
  refine ⟨fun _ => 0, fun _ => False, hB.defers, hB.size, fun t => ?_, fun t b hb => ?_, (fun b cs hb => by rw [lay_none] at hb; cases hb), (fun b cs hb => by rw [lay_none] at hb; cases hb), (fun b b' hb => by rw [lay_none] at hb; cases hb), fun k hk => hk.elim, fun k hk => hk.elim, fun k hk => hk.elim, ⟨Below.refl _ _, fun _ _ hk => (by cases hk), Nat.zero_le _⟩, (fun p hp => by cases hp), (fun p hp => by cases hp), Keep.none rfl rfl⟩
  · rw [lay_tmp]
    split
    · cases hq : l.find? fun p => p.1 == t with
      | none => exact .c (.p (.any _))
      | some p =>
        have hp := List.mem_of_find?_eq_some hq
        have ht : p.1 = t := by have := List.find?_some hq; simpa using this
        obtain ⟨v, h1, h2⟩ := hl p hp
        have h3 := hB.tmp p.1
        rw [h2, ht] at h3
        have h4 := toVal_eq (h3.pure rfl) (v := v) rfl
        rw [h4]
        show RepW _ _ _ v p.2
        rw [h1]
        exact .c (.p (.lit v))
    · exact .c (.p (.any _))
  · exfalso
    rw [lay_tmp] at hb
    split at hb
    · cases hq : l.find? fun p => p.1 == t with
      | none => rw [hq] at hb; simp [D.refs] at hb
      | some p =>
        obtain ⟨v, h1, h2⟩ := hl p (List.mem_of_find?_eq_some hq)
        rw [hq] at hb
        simp only [Option.map_some, Option.getD_some] at hb
        rw [h1] at hb
        simp [D.refs] at hb
    · simp [D.refs] at hb
/-- The relation at a function's beginning. -/
theorem Rel.start {r : Option Nat} {w : World} {n : Nat} {vals : List Value} {args : List D} (hn : args.length ≤ n) (h : Reps w (fun _ => False) vals args) :
    Rel (cx P G r w) n (startS n args []).fs { tmps := vals.toArray ++ Array.replicate (n - vals.toArray.size) undef, defers := [] } w := by
  have hnone : ∀ b, (startS n args []).fs.blk b = none := fun b => by simp [startS, St.fs]
  refine ⟨fun _ => 0, fun _ => False, rfl, ?_, fun t => ?_, ?_, (fun b cs hb => by rw [hnone] at hb; cases hb), (fun b cs hb => by rw [hnone] at hb; cases hb), (fun b b' hb => by rw [hnone] at hb; cases hb), fun k hk => hk.elim, fun k hk => hk.elim, fun k hk => hk.elim, ⟨Below.refl _ _, fun _ _ hk => (by cases hk), Nat.zero_le _⟩, (fun p hp => by cases hp), (fun p hp => by cases hp), Keep.none rfl rfl⟩
  · have := h.1; simp; omega
  · exact start_tmp (Q' := fun v d => RepW (fun _ => 0) w (fun _ => False) v d) h.1 hn (fun i h1 h2 => .c (.p (h.2 i h1 h2))) (.c (.p (.lit _))) (.c (.p (.any _))) t
  · refine start_ref fun d hd b hb => ?_
    obtain ⟨i, hi, rfl⟩ := List.mem_iff_getElem.1 hd
    rw [repP_refs (h.2 i (by rw [h.1]; exact hi) hi)] at hb; cases hb
end Lw
