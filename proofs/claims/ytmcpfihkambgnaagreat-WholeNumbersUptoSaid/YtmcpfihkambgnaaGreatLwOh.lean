/- The search for a group of two bodies, run. Condition: at most a hundred bodies; the contracts of what it asks of pairs that may come. -/
import Derived.Test.YtmcpfihkambgnaaGreatLwOd
import Derived.Test.YtmcpfihkambgnaaGreatLwOg
namespace Lw
open Go Go.RowKit Go.Proofs
variable {P : Program} {G : World → Prop}
/-- A step of the executor in whatever frame. -/
theorem step_own {c : Ctx} {s : St} {n m gb : Nat} {l : List (Nat × D)} {bl : List (Nat × List D)} {ns : List Nat} {e : XEnd} {k : Code} {Q : Exit → Act → World → Prop} {a : Act} {W : World} (hn : s.tmps.length = n) (hg : Goes P G gb k s e (lay n l bl ns))
    (hP : c.P = P) (hGd : c.Good = G) (h0 : c.Good c.w0) (hgb : c.gb ≤ gb) (hr : Rel c n s.fs a W) (hQ : ∀ a' W', Rel c n (lay n l bl ns).fs a' W' → Q e.toExit a' W') : k.wpIn (Fw c.rd) m P Q a W := by
  obtain ⟨s1, kT, kB, kN, hsh, hok, hm⟩ := hg
  refine wpIn_n (n := 0) rfl (hsh.2 c Q a W hP hGd h0 hgb (by rw [hn]; exact hr) fun a' W' h' => ?_)
  rw [hn] at h'
  have h2 := h'.mask hgb hok
  rw [hm] at h2
  exact hQ a' W' h2
theorem Keeps.of_grown {W W' : World} {row : Option Nat} (hg : W.grownBy W' row) (hr : ∀ r, row = some r → ∃ o : Obj, W.heap[r]? = some o ∧ o.isCells = false) : Keeps W W' :=
  ⟨hg.size, fun k us e fr hk => by
    rw [hg.block k (Array.getElem?_eq_some_iff.1 hk).1 (fun e' => by obtain ⟨o, h1, h2⟩ := hr k e'.symm; rw [hk] at h1; cases h1; cases h2)]; exact hk⟩
theorem Below.of_grown {B : Nat} {W W' : World} {row : Option Nat} (hg : W.grownBy W' row) (hB : B ≤ W.heap.size) (hr : ∀ r, row = some r → B ≤ r) : Below B W W' :=
  ⟨hg.os, hg.tape, hg.output, hg.size, fun k hk => hg.block k (Nat.lt_of_lt_of_le hk hB) (fun e => by have := hr k e.symm; omega)⟩
theorem putObj_grown (W : World) (l : Nat) (o' : Obj) : W.grownBy (W.putObj l o') (some l) := grownBy_putObj' W l o'
/-- The relation in a world whose cells have stayed. -/
theorem RelB.keepN {c : Ctx} {n : Nat} {s : FSt} {a : Act} {w w' : World} {β : Nat → Nat} {X : Nat → Prop} (h : RelB c n s a w β X) (hnc : c.nc = fun _ => none) (hk : Keeps w w') (hb : Below c.w0.heap.size w w') (hn : ∀ k, c.kp k = none := by intro k; rfl) : RelB c n s a w' β X :=
  h.keep hk ⟨h.below.bel.trans hb, fun k o ho => (by rw [hnc] at ho; cases ho), Nat.le_trans h.below.sz hk.size⟩ hn
theorem lay_all {n : Nat} {l : List (Nat × D)} {bl : List (Nat × List D)} {ns : List Nat} {Q : Nat → D → Prop} (hany : ∀ t, Q t .any) (hl : ∀ p ∈ l, Q p.1 p.2) : ∀ t, Q t ((lay n l bl ns).fs.tmp t) := by
  intro t
  rw [lay_tmp]
  split
  · cases hq : l.find? fun p => p.1 == t with
    | none => exact hany t
    | some p =>
      have ht : p.1 = t := by have := List.find?_some hq; simpa using this
      have := hl p (List.mem_of_find?_eq_some hq)
      rw [ht] at this
      exact this
  · exact hany t
/-- A frame of what is read alone. -/
theorem Rel.ofReps {r : Option Nat} {n : Nat} {l : List (Nat × D)} {a : Act} {w : World} (hs : a.tmps.size = n) (hd : a.defers = []) (h : ∀ p ∈ l, RepP w (fun _ => False) (a.tmps.getD p.1 undef) p.2) : Rel (cx P G r w) n (lay n l []).fs a w :=
  ⟨fun _ => 0, fun _ => False, hd, hs, lay_all (Q := fun t d => RepW (fun _ => 0) w (fun _ => False) (a.tmps.getD t undef) d) (fun t => .c (.p (.any _))) (fun p hp => .c (.p (h p hp))),
    fun t => lay_all (Q := fun t d => ∀ b, b ∈ d.refs → ((lay n l []).fs.blk b).isSome = true) (fun t b hb => by simp [D.refs] at hb) (fun p hp b hb => by rw [repP_refs (h p hp)] at hb; cases hb) t,
    (fun b cs hb => by rw [lay_none] at hb; cases hb), (fun b cs hb => by rw [lay_none] at hb; cases hb), (fun b b' hb => by rw [lay_none] at hb; cases hb), fun k hk => hk.elim, fun k hk => hk.elim, fun k hk => hk.elim,
    ⟨Below.refl _ _, fun _ _ hk => (by cases hk), Nat.zero_le _⟩, (fun p hp => by cases hp), (fun p hp => by cases hp), Keep.none rfl rfl⟩
def cq (P : Program) (G : World → Prop) (w : World) (gh : List (Value × D)) (gb : Nat) (rd : Option Nat) (dfs : List Deferred) (nc : Nat → Option Obj) (ns : Nat) : Ctx := ⟨P, G, fun _ => False, w, gh, gb, rd, dfs, nc, ns, fun _ => none, fun _ => False⟩
theorem fn_back {β : Nat → Nat} {w : World} {X : Nat → Prop} {v : Value} {f : FuncId} {d : D} (h : RepW β w X v (.fn f [] [d])) : ∃ u, v = .func (.func f) #[] #[u] ∧ RepP w X u d := by
  cases h with
  | c h => cases h with
    | p h => cases h with
      | fn f us us' xs xs' hl hl' hr hr' =>
        have : us = [] := List.length_eq_zero_iff.1 hl
        subst this
        match us', hl', hr' with
        | [u], _, hr' => exact ⟨u, rfl, hr' 0 (by simp) (by simp)⟩
theorem ptr_back {β : Nat → Nat} {w : World} {X : Nat → Prop} {v : Value} {b off : Nat} (h : RepW β w X v (.ptr b off)) : v = .pointer (some ⟨β b, off, none⟩) := by
  cases h with
  | c h => cases h with
    | p h => cases h
    | ptr => rfl
namespace Gr
variable {nm : D} {N : Nat} {bs rest : List D} {an : Nat → Int} {jn : Nat → Nat → Int}
def zG : List D := [nat 0, .row 0 false [], .row 0 false [], nat 0]
def pr0 (fin : D) : List (Nat × D) := [(1, .rptr [fin]), (2, .ptr 0 0), (3, .ptr 1 0)]
def pr1 (fin : D) : List (Nat × D) := [(1, .rptr [fin]), (2, .ptr 0 0), (3, .ptr 1 0), (10, .fn 322 [] [.rptr [fin]])]
def prB : List (Nat × List D) := [(0, zG), (1, [bool false])]
theorem pr_0 (hG : Steady G) : Goes Tryz.prog G 0 (kL (cBody Tryz.f239)) (startS 42 [finP nm N bs rest] []) .normal (lay 42 (pr0 (finP nm N bs rest)) prB) :=
  Goes.of_run hG (ro := [1]) (m := 60) rfl [] (by kernel_rfl)
theorem pr_1 (hG : Steady G) : Goes Tryz.prog G 0 (kL (kL (kR (cBody Tryz.f239)))) (lay 42 (pr0 (finP nm N bs rest)) prB) .normal (lay 42 (pr1 (finP nm N bs rest)) prB) :=
  Goes.of_run hG (ro := []) (m := 60) (lay_len ..) [.inl [1] Tryz.func294] (by kernel_rfl)
/-- The loop's assignment. -/
def prL (K : Code) : Code := kL (kR (kL (kR K)))
def prS (i j : Nat) (p1 p2 p3 : Value) : List (Nat × D) := [(1, .lit p1), (2, .lit p2), (3, .lit p3), (11, nat i), (12, nat j)]
def prT (i : Nat) (p1 p2 p3 : Value) : List (Nat × D) := [(1, .lit p1), (2, .lit p2), (3, .lit p3), (4, nat i), (5, .ptr 0 0)]
def prA (i j : Nat) (fin : D) : List (Nat × D) := [(1, .rptr [fin]), (2, .ptr 0 0), (3, .ptr 1 0), (4, nat i), (5, .rptr [nat j])]
def prH (i j : Nat) (a b c : Int) : List (Nat × List D) := [(0, [nat 1, .slc 2 0 2 2, .slc 3 0 3 3, nat 0]), (1, [bool true]), (2, [nat i, nat j]), (3, [int a, int b, int c])]
theorem pr_sh : kR (cBody Tryz.f239) = .seq (.seq (kL (kL (kR (cBody Tryz.f239)))) (.block 0 (.rangeFunc (.tmp 10) #[11, 12] (kL (kL (kR (kL (kR (cBody Tryz.f239)))))) (kR (kL (kR (kL (kR (cBody Tryz.f239))))))))) (kR (kR (cBody Tryz.f239))) := by kernel_rfl
/-- The loop's parts. -/
def prAs (K : Code) : Code := kL (kL (kR (kL (kR K))))
def prBd (K : Code) : Code := kR (kL (kR (kL (kR K))))
theorem pr_as (hG : Steady G) {i j : Nat} {p1 p2 p3 : Value} : Goes Tryz.prog G 0 (prAs (cBody Tryz.f239)) (lay 42 (prS i j p1 p2 p3) []) .normal (lay 42 (prT i p1 p2 p3) [(0, [nat j])]) :=
  Goes.of_run hG (ro := []) (m := 60) (lay_len ..) [] (by kernel_rfl)
def prX (i j : Nat) (fin : D) : List (Nat × D) := [(1, .rptr [fin]), (4, nat i), (5, .rptr [nat j])]
def hit (an : Nat → Int) (jn : Nat → Nat → Int) (x : Nat × Nat) : Bool := decide (an x.1 ≥ 0) && decide (an x.2 ≥ 0) && decide (jn x.1 x.2 ≥ 0)
section
variable {i j : Nat} (ci : Spec Tryz.prog G 293 [finP nm N bs rest, nat 0, nat i] (int (an i))) (cj : Spec Tryz.prog G 293 [finP nm N bs rest, nat 0, nat j] (int (an j)))
  (cc : Spec Tryz.prog G 295 [finP nm N bs rest, nat 0, nat i, .fn 296 [] [.rptr [nat j]]] (int (jn i j)))
include ci cj cc
/-- A round that goes by. -/
theorem pr_no (hG : Steady G) (h : hit an jn (i, j) = false) : Goes Tryz.prog G 0 (prBd (cBody Tryz.f239)) (lay 42 (prX i j (finP nm N bs rest)) []) .normal (lay 42 [] []) := by
  cases h1 : decide (an i ≥ 0) with
  | false => exact Goes.of_run hG (ro := []) (m := 60) (lay_len ..) [.call ci, .call cj, .call cc, .eq 24 (eqB h1)] (by kernel_rfl)
  | true =>
    cases h2 : decide (an j ≥ 0) with
    | false => exact Goes.of_run hG (ro := []) (m := 60) (lay_len ..) [.call ci, .call cj, .call cc, .eq 24 (eqB h1), .eq 27 (eqB h2)] (by kernel_rfl)
    | true =>
      cases h3 : decide (jn i j ≥ 0) with
      | false => exact Goes.of_run hG (ro := []) (m := 60) (lay_len ..) [.call ci, .call cj, .call cc, .eq 24 (eqB h1), .eq 27 (eqB h2), .eq 31 (eqB h3)] (by kernel_rfl)
      | true => exfalso; unfold hit at h; simp only [h1, h2, h3] at h; cases h
/-- The round that finds a group. -/
theorem pr_yes (hG : Steady G) (h : hit an jn (i, j) = true) : Goes Tryz.prog G 2 (prBd (cBody Tryz.f239)) (lay 42 (prA i j (finP nm N bs rest)) prB) .ret
    (lay 42 [] (prH i j (an i) (an j) (jn i j)) [0]) := by
  unfold hit at h
  rw [Bool.and_eq_true, Bool.and_eq_true] at h
  exact Goes.of_run hG (ro := [35, 39]) (m := 60) (lay_len ..) [.call ci, .call cj, .call cc, .eq 24 (eqB h.1.1), .eq 27 (eqB h.1.2), .eq 31 (eqB h.2)] (by kernel_rfl)
end
/-- None was found. -/
theorem pr_end (hG : Steady G) : Goes Tryz.prog G 0 (kR (kR (cBody Tryz.f239))) (lay 42 (pr1 (finP nm N bs rest)) prB) .ret (lay 42 [(2, .ptr 0 0), (3, .ptr 1 0)] prB) :=
  Goes.of_run hG (ro := []) (m := 60) (lay_len ..) [] (by kernel_rfl)
end Gr
end Lw
