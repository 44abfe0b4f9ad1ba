/- The search for a group of two bodies: its contract. Condition: at most a hundred bodies; the contracts of what it asks of pairs that may come. -/
import Derived.Test.YtmcpfihkambgnaaGreatLwOh
import Derived.Shelf.Abstract
namespace Lw
open Go Go.RowKit Go.Proofs
theorem RelB.tmpLit {c : Ctx} {n : Nat} {s : FSt} {a : Act} {w : World} {β : Nat → Nat} {X : Nat → Prop} (h : RelB c n s a w β X) {t : Nat} {v : Value} (e : s.tmp t = .lit v) : a.tmps.getD t undef = v := by
  have h3 := h.tmp t
  rw [e] at h3
  exact toVal_eq (h3.pure rfl) (v := v) rfl
namespace Gr
variable {G : World → Prop} {nm : D} {N : Nat} {bs rest : List D} {an : Nat → Int} {jn : Nat → Nat → Int}
def mk (D : Nat) : Deferred := { target := .collected D, args := #[] }
def failR : D := .tup [.agg [nat 0, .row 0 false [], .row 0 false [], nat 0], bool false]
def hitR (an : Nat → Int) (jn : Nat → Nat → Int) (i j : Nat) : D := .tup [.agg [nat 1, .row 2 false [nat i, nat j], .row 3 false [int (an i), int (an j), int (jn i j)], nat 0], bool true]
theorem pr_leave {w W : World} {tmps : Array Value} {β : Nat → Nat} {X : Nat → Prop} {D0 : Nat} {bl : List (Nat × List D)} {ns : List Nat} {ds : List D} {r : D} {m : Nat} (hG : Steady G) (hw : G w)
    (h : RelB (cq Tryz.prog G w [] 0 none [mk D0] (fun _ => none) 0) 42 (lay 42 [(2, .ptr 0 0), (3, .ptr 1 0)] bl ns).fs ⟨tmps, [mk D0]⟩ W β X) (hD : W.heap[D0]? = some (.deferred (some []))) (hDw : w.heap.size ≤ D0)
    (hres : resultsD Tryz.prog (lay 42 [(2, .ptr 0 0), (3, .ptr 1 0)] bl ns) (Tryz.f239).results.toList = some ds)
    (hfr : ds.all (freshW (lay 42 [(2, .ptr 0 0), (3, .ptr 1 0)] bl ns).fs.blk (lay 42 [(2, .ptr 0 0), (3, .ptr 1 0)] bl ns).fs.nst) = true)
    (hr : packD (ds.map (D.rowOf (lay 42 [(2, .ptr 0 0), (3, .ptr 1 0)] bl ns).fs.blk (lay 42 [(2, .ptr 0 0), (3, .ptr 1 0)] bl ns).fs.nst)) = r) :
    LeavesInM Fence.wide m Tryz.prog Tryz.f239 tmps (fun e w' => ∃ v, e = .returned v ∧ RepP w' (fun k => k < w.heap.size) v r ∧ Below w.heap.size w w' ∧ G w') [mk D0] .returning W := by
  refine ⟨(by simp), .inl ⟨D0, W.putObj D0 (.deferred none), rfl, run_takeDeferred hD, ?_⟩⟩
  have hg := putObj_grown W D0 (.deferred none)
  have hk : Keeps W (W.putObj D0 (.deferred none)) := Keeps.of_grown hg (fun r e => by cases e; exact ⟨_, hD, rfl⟩)
  have hb : Below w.heap.size W (W.putObj D0 (.deferred none)) := Below.of_grown hg h.below.bel.size (fun r e => by cases e; exact hDw)
  have h' := h.keepN rfl hk hb
  obtain ⟨vs, h1, h2, h3, h4⟩ := results_run h' hres
  have hreps : Reps (W.putObj D0 (.deferred none)) (fun k => k < w.heap.size) vs (ds.map (D.rowOf (lay 42 [(2, .ptr 0 0), (3, .ptr 1 0)] bl ns).fs.blk (lay 42 [(2, .ptr 0 0), (3, .ptr 1 0)] bl ns).fs.nst)) := by
    refine ⟨by simpa using h2, fun i hi hi' => ?_⟩
    rw [List.getElem_map]
    have hi2 : i < ds.length := by rw [← h2]; exact hi
    exact freshW_rep h' (List.all_eq_true.1 hfr _ (List.getElem_mem hi2)) (h3 i hi hi2)
  refine ⟨packV vs, h1, packV vs, rfl, ?_, h'.below.bel, hG _ _ h'.below.bel hw⟩
  have := pack_reps hreps
  rwa [hr] at this
/-- What a round leaves behind that has found a group. -/
def Left (G : World → Prop) (w : World) (p2 p3 : Value) (i j : Nat) (a b c : Int) (W : World) : Prop :=
  ∃ β X, RelB (cq Tryz.prog G w [(p2, .ptr 0 0), (p3, .ptr 1 0)] 2 none [] (fun _ => none) 0) 0 ⟨fun _ => .any, (lay 42 [] (prH i j a b c) [0]).fs.blk, (lay 42 [] (prH i j a b c) [0]).fs.nst⟩ ⟨#[], []⟩ W β X
theorem Left.keep {w W W' : World} {p2 p3 : Value} {i j : Nat} {a b c : Int} (h : Left G w p2 p3 i j a b c W) (hk : Keeps W W') (hb : Below w.heap.size W W') : Left G w p2 p3 i j a b c W' := by
  obtain ⟨β, X, h⟩ := h
  exact ⟨β, X, h.keepN rfl hk hb⟩
/-- What the loop's assignment leaves behind. -/
def Set (B : Nat) (p1 p2 p3 : Value) (i j : Nat) (a : Act) (W : World) : Prop :=
  a.tmps.size = 42 ∧ a.defers = [] ∧ a.tmps.getD 1 undef = p1 ∧ a.tmps.getD 2 undef = p2 ∧ a.tmps.getD 3 undef = p3 ∧ a.tmps.getD 4 undef = .int .i64 (Int.ofNat i) ∧
    ∃ b, B ≤ b ∧ a.tmps.getD 5 undef = .pointer (some ⟨b, 0, none⟩) ∧ W.cell? ⟨b, 0, none⟩ = some (.int .i64 (Int.ofNat j))
theorem Set.keep {B : Nat} {p1 p2 p3 : Value} {i j : Nat} {a : Act} {W W' : World} (h : Set B p1 p2 p3 i j a W) (hk : Keeps W W') : Set B p1 p2 p3 i j a W' := by
  obtain ⟨h1, h2, h3, h4, h5, h6, b, h7, h8, h9⟩ := h
  exact ⟨h1, h2, h3, h4, h5, h6, b, h7, h8, hk.cell h9⟩
theorem Set.box {B : Nat} {p1 p2 p3 : Value} {i j : Nat} {a : Act} {W : World} (h : Set B p1 p2 p3 i j a W) {X : Nat → Prop} (hX : ∀ k, X k → k < B) : RepP W X (a.tmps.getD 5 undef) (.rptr [nat j]) := by
  obtain ⟨h1, h2, h3, h4, h5, h6, b, h7, h8, h9⟩ := h
  rw [h8]
  refine .rptr ⟨b, 0, none⟩ [.int .i64 (Int.ofNat j)] [nat j] rfl (fun k hk => ?_) (fun k hk hk' => ?_)
  · obtain rfl : k = 0 := by simpa using hk
    exact ⟨fun hx => by have := hX _ hx; simp only at this; omega, by rw [Addr.lit_add]; exact h9⟩
  · obtain rfl : k = 0 := by simpa using hk
    exact .lit _

theorem pr_sh0 : (cBody Tryz.f239) = .seq (kL (cBody Tryz.f239)) (kR (cBody Tryz.f239)) := by kernel_rfl
theorem keepsFrom_below {B : Nat} {W W' : World} (hb : Below W.heap.size W W') : KeepsFrom B W W' := ⟨hb.size, fun k o _ hk _ => by rw [hb.block k (Array.getElem?_eq_some_iff.1 hk).1]; exact hk⟩
theorem pair_specF {free : Nat → Bool} (hG : Steady G) (hN : N < 100) (cf : ∀ i, i < N → Spec Tryz.prog G 297 [finP nm N bs rest, nat i] (bool (free i)))
    (ca : ∀ i, i < N → free i = true → Spec Tryz.prog G 293 [finP nm N bs rest, nat 0, nat i] (int (an i)))
    (cj : ∀ i j, i < j → j < N → free i = true → free j = true → Spec Tryz.prog G 295 [finP nm N bs rest, nat 0, nat i, .fn 296 [] [.rptr [nat j]]] (int (jn i j)))
    {res : D} (hd : (∀ x ∈ Lp N free N 0, hit an jn x = false) → res = failR)
    (hs : ∀ i j, i < j → j < N → free i = true → free j = true → hit an jn (i, j) = true → (∀ x ∈ Lp N free i j, hit an jn x = false) → res = hitR an jn i j) :
    SpecF Tryz.prog G 239 [finP nm N bs rest] res := by
  intro w vals hgood hargs
  obtain ⟨fv, rfl⟩ : ∃ fv, vals = [fv] := List.length_eq_one_iff.1 hargs.1
  refine (callsIn_wide (n := 3)).1 (callsIn_of_wp_marks (fn := Tryz.f239) (c := cBody Tryz.f239) (by kernel_rfl) (by kernel_rfl) trivial ?_)
  have hrel0 : Rel (cx Tryz.prog G none w) 42 (startS 42 [finP nm N bs rest] []).fs { tmps := [fv].toArray ++ Array.replicate (42 - [fv].toArray.size) undef, defers := [] } w := Rel.start (by simp) hargs
  refine seq_in pr_sh0 (step_own (c := cx Tryz.prog G none w) (start_len (by simp)) (pr_0 hG) rfl rfl hgood (Nat.le_refl _) hrel0 fun a1 W1 hr1 => ?_)
  show Code.wpIn Fence.wide 3 Tryz.prog _ _ a1 W1
  refine seq_in pr_sh (seq_in rfl (step_own (c := cx Tryz.prog G none w) (lay_len ..) (pr_1 hG) rfl rfl hgood (Nat.le_refl _) hr1 fun a2 WE hrE => ?_))
  show Code.wpIn Fence.wide 3 Tryz.prog _ _ a2 WE
  refine block_in rfl ?_
  obtain ⟨β, X, hE⟩ := hrE
  have hdf : a2.defers = [] := hE.defers
  have hsz : a2.tmps.size = 42 := hE.size
  have bE : Below w.heap.size w WE := hE.below.bel
  have gE : G WE := hG _ _ bE hgood
  obtain ⟨p1, hp1⟩ : ∃ p, p = a2.tmps.getD 1 undef := ⟨_, rfl⟩
  obtain ⟨p2, hp2⟩ : ∃ p, p = a2.tmps.getD 2 undef := ⟨_, rfl⟩
  obtain ⟨p3, hp3⟩ : ∃ p, p = a2.tmps.getD 3 undef := ⟨_, rfl⟩
  have t1 : RepW β WE X p1 (.rptr [finP nm N bs rest]) := by have := hE.tmp 1; rw [lay_tmp] at this; rw [hp1]; exact this
  have t2 : RepW β WE X p2 (.ptr 0 0) := by have := hE.tmp 2; rw [lay_tmp] at this; rw [hp2]; exact this
  have t3 : RepW β WE X p3 (.ptr 1 0) := by have := hE.tmp 3; rw [lay_tmp] at this; rw [hp3]; exact this
  have t10 : RepW β WE X (a2.tmps.getD 10 undef) (.fn 322 [] [.rptr [finP nm N bs rest]]) := by have := hE.tmp 10; rw [lay_tmp] at this; exact this
  obtain ⟨cv, hev, hcv'⟩ := fn_back t10
  have hcv : RepP WE (fun _ => False) cv (.rptr [finP nm N bs rest]) := hcv'.mono fun a u h _ => ⟨h, fun h => h⟩
  have tE : RepP WE X p1 (.rptr [finP nm N bs rest]) := t1.pure rfl
  have own : ∀ W, Keeps WE W → Below WE.heap.size WE W → RelB (cx Tryz.prog G none w) 42 (lay 42 (pr1 (finP nm N bs rest)) prB).fs a2 W β X := fun W hk hb => hE.keepN rfl hk (hb.mono bE.size)
  have sh0 : ∀ {W : World}, Keeps WE W → Shapes WE W := fun hk => hk.shapes
  refine wpIn_rangeFunc_ownH (F := Fence.wide) (n := 3) (α := Pr N free) (encs := fun x => encP x.1) (Kp := Kp WE.heap.size) rfl (by omega) (gf := 322) (lb := #[cv]) hev trivial
    (enters_of Tryz.func322 (by kernel_rfl) rfl) (pairs_seq (nm := nm) (bs := bs) (rest := rest) hG hN hcv gE cf) (fun h k => ⟨h.1.trans k.1, h.2.trans k.2⟩)
    (fun W l o o' hl ho hc hw => ⟨Keeps.of_grown (putObj_grown W l o') (fun r e => by cases e; exact ⟨o, ho, hc⟩), belowK_b (Nat.le_refl _) W l o o' hl ho hc hw⟩) (Below.refl _ _) (fun x => rfl)
    (fun pre W => (∀ x ∈ pre, hit an jn x.1 = false) ∧ Kp WE.heap.size WE W)
    (fun c pre W => c = .ret ∧ ∃ (y : Pr N free) (ys : List (Pr N free)), pre = ys ++ [y] ∧ hit an jn y.1 = true ∧ (∀ x ∈ ys, hit an jn x.1 = false) ∧ Left G w p2 p3 y.1.1 y.1.2 (an y.1.1) (an y.1.2) (jn y.1.1 y.1.2) W)
    ?_ ?_ ⟨fun x hx => (by cases hx), ⟨⟨Nat.le_refl _, fun _ _ _ _ h => h⟩, Below.refl _ _⟩⟩
    (fun x a' W => Set WE.heap.size p1 p2 p3 x.1.1 x.1.2 a' W) ?_ ?_ ?_ ?_ ?_
  · rintro pre W W' row ⟨h1, h2, h3⟩ hg hr
    exact ⟨h1, h2.trans (Keeps.of_grown hg fun r e => (hr r e).2), h3.trans (Below.of_grown hg h3.size fun r e => (hr r e).1)⟩
  · rintro c pre W W' row ⟨h1, y, ys, h2, h3, h4, h5⟩ hg hr
    have hb5 : w.heap.size ≤ W.heap.size := by obtain ⟨_, _, h⟩ := h5; exact h.below.bel.size
    exact ⟨h1, y, ys, h2, h3, h4, h5.keep (Keeps.of_grown hg fun r e => (hr r e).2) (Below.of_grown hg hb5 fun r e => Nat.le_trans bE.size (hr r e).1)⟩
  · intro x a' u W W' row h hg hr
    exact Set.keep h (Keeps.of_grown hg fun r e => (hr r e).2)
  · rintro l pre ⟨⟨i, j⟩, hij, hjN, fi, fj⟩ W K ⟨hI1, hI2, hI3⟩ hK
    have ea : ({ tmps := ((#[11, 12] : Array Tmp).zip (encP (i, j))).foldl (fun t (p, v) => t.setIfInBounds p v) a2.tmps, defers := [] } : Act) = (a2.put (some 11) (.int .i64 (Int.ofNat i))).put (some 12) (.int .i64 (Int.ofNat j)) := by
      rw [← hdf]; simp [encP, Act.put]
    have gW : G W := hG _ _ (bE.trans (hI3.mono bE.size)) hgood
    have hst : Rel (cx Tryz.prog G (some l) W) 42 (lay 42 (prS i j p1 p2 p3) []).fs ((a2.put (some 11) (.int .i64 (Int.ofNat i))).put (some 12) (.int .i64 (Int.ofNat j))) W := by
      refine Rel.ofReps (by simp [Act.put, hsz]) (by simp [Act.put, hdf]) fun p hp => ?_
      simp only [prS, List.mem_cons, List.not_mem_nil, or_false] at hp
      rcases hp with rfl | rfl | rfl | rfl | rfl
      · rw [put_getD_ne (by omega), put_getD_ne (by omega), hp1]; exact .lit _
      · rw [put_getD_ne (by omega), put_getD_ne (by omega), hp2]; exact .lit _
      · rw [put_getD_ne (by omega), put_getD_ne (by omega), hp3]; exact .lit _
      · rw [put_getD_ne (by omega), put_getD_same (by rw [hsz]; omega)]; exact .lit _
      · rw [put_getD_same (by simp [Act.put, hsz])]; exact .lit _
    show Code.wpIn (Fw (some l)) 1 Tryz.prog (prAs (cBody Tryz.f239)) _ { tmps := ((#[11, 12] : Array Tmp).zip (encP (i, j))).foldl (fun t (p, v) => t.setIfInBounds p v) a2.tmps, defers := [] } W
    rw [ea]
    refine step_own (c := cx Tryz.prog G (some l) W) (lay_len ..) (pr_as hG) rfl rfl gW (Nat.le_refl _) hst fun a' W' hr' => ?_
    show K a' W'
    obtain ⟨β', X', hB'⟩ := hr'
    have hlit : ∀ t v, (lay 42 (prT i p1 p2 p3) [(0, [nat j])]).fs.tmp t = .lit v → a'.tmps.getD t undef = v := fun t v e => hB'.tmpLit e
    have hb : Below W.heap.size W W' := hB'.below.bel
    have hp5 := hB'.tmp 5
    rw [lay_tmp] at hp5
    have hp5' := ptr_back hp5
    obtain ⟨k1, k2, us, e, k3, k4, k5⟩ := hB'.blk 0 [nat j] (by rw [lay_blk]; rfl)
    have hus : 0 < us.size := k4
    have hcell : W'.cell? ⟨β' 0, 0, none⟩ = some (.int .i64 (Int.ofNat j)) := by
      have q := k5.2 0 (by simp; omega) (by simp)
      have q2 : us[0] = .int .i64 (Int.ofNat j) := by
        have := (q.pure rfl)
        have := toVal_eq this (v := .int .i64 (Int.ofNat j)) rfl
        simpa using this
      rw [cell_of_row W' (β' 0) 0 us e (0, 0) k3, Array.getElem?_eq_getElem hus, q2]
    refine hK a' W' (keepsFrom_below hb) ⟨Keeps.of_below hb, hb.mono hI3.size⟩ ⟨hI1, hI2.trans (Keeps.of_below hb), hI3.trans (hb.mono hI3.size)⟩
      ⟨hB'.size, hB'.defers, hlit 1 _ (by rw [lay_tmp]; rfl), hlit 2 _ (by rw [lay_tmp]; rfl), hlit 3 _ (by rw [lay_tmp]; rfl), hlit 4 _ (by rw [lay_tmp]; rfl), β' 0, Nat.le_trans hI3.size k1, hp5', hcell⟩
  · rintro l pre ⟨⟨i, j⟩, hij, hjN, fi, fj⟩ a' W hl hrec ⟨hI1, hI2, hI3⟩ hSet hlen
    have hiN : i < N := Nat.lt_trans hij hjN
    have gW : G W := hG _ _ (bE.trans (hI3.mono bE.size)) hgood
    have hA := hSet
    obtain ⟨q1, q2, q3, q4, q5, q6, -⟩ := hA
    have r1 : RepP W X p1 (.rptr [finP nm N bs rest]) := tE.mono fun a u h hx => ⟨hI2.cell h, hx⟩
    show Code.wpIn (Fw (some l)) 1 Tryz.prog (prBd (cBody Tryz.f239)) _ a' W
    cases hh : hit an jn (i, j) with
    | false =>
      have hst : Rel (cx Tryz.prog G (some l) W) 42 (lay 42 (prX i j (finP nm N bs rest)) []).fs a' W := by
        refine Rel.ofReps q1 q2 fun p hp => ?_
        simp only [prX, List.mem_cons, List.not_mem_nil, or_false] at hp
        rcases hp with rfl | rfl | rfl
        · rw [q3]; exact r1.mono fun a u h _ => ⟨h, fun h => h⟩
        · rw [q6]; exact .lit _
        · exact hSet.box fun k hk => hk.elim
      refine step_own (c := cx Tryz.prog G (some l) W) (lay_len ..) (pr_no (ca i hiN fi) (ca j hjN fj) (cj i j hij hjN fi fj) hG hh) rfl rfl gW (Nat.le_refl _) hst fun a3 W3 hr3 => ?_
      obtain ⟨β', X', hB'⟩ := hr3
      have hb : Below W.heap.size W W3 := hB'.below.bel
      refine ⟨keepsFrom_below hb, ⟨Keeps.of_below hb, hb.mono hI3.size⟩, fun x hx => ?_, hI2.trans (Keeps.of_below hb), hI3.trans (hb.mono hI3.size)⟩
      rcases List.mem_append.1 hx with hx | hx
      · exact hI1 x hx
      · rw [List.mem_singleton] at hx; rw [hx]; exact hh
    | true =>
      have hW := own W hI2 hI3
      have s2 : RepW β W X p2 (.ptr 0 0) := by have := hW.tmp 2; rw [lay_tmp] at this; rw [hp2]; exact this
      have s3 : RepW β W X p3 (.ptr 1 0) := by have := hW.tmp 3; rw [lay_tmp] at this; rw [hp3]; exact this
      have hXB : ∀ k, X k → k < WE.heap.size := hE.Xlt
      have hst : RelB (cq Tryz.prog G w [(p2, .ptr 0 0), (p3, .ptr 1 0)] 2 (some l) [] (fun k => W.heap[k]?) W.heap.size) 42 (lay 42 (prA i j (finP nm N bs rest)) prB).fs a' W β X := by
        have b0 : ((lay 42 (prA i j (finP nm N bs rest)) prB).fs.blk 0).isSome = true := by rw [lay_blk]; rfl
        have b1 : ((lay 42 (prA i j (finP nm N bs rest)) prB).fs.blk 1).isSome = true := by rw [lay_blk]; rfl
        refine ⟨q2, q1, lay_all (Q := fun t d => RepW β W X (a'.tmps.getD t undef) d) (fun t => .c (.p (.any _))) (fun p hp => ?_),
          fun t => lay_all (Q := fun t d => ∀ b, b ∈ d.refs → ((lay 42 (prA i j (finP nm N bs rest)) prB).fs.blk b).isSome = true) (fun t b hb => by simp [D.refs] at hb) (fun p hp b hb => ?_) t,
          hW.blk, hW.ndc, hW.inj, hW.F, hW.Flt, hW.Xlt, ⟨hW.below.bel, fun k o hk _ => hk, Nat.le_refl _⟩, fun p hp => ?_, fun p hp b hb => ?_, Keep.none rfl rfl⟩
        · simp only [prA, List.mem_cons, List.not_mem_nil, or_false] at hp
          rcases hp with rfl | rfl | rfl | rfl | rfl
          · rw [q3]; exact .c (.p r1)
          · rw [q4]; exact s2
          · rw [q5]; exact s3
          · rw [q6]; exact .c (.p (.lit _))
          · exact .c (.p (hSet.box hXB))
        · simp only [prA, List.mem_cons, List.not_mem_nil, or_false] at hp
          rcases hp with rfl | rfl | rfl | rfl | rfl <;> simp only [D.refs, nat, List.not_mem_nil, List.mem_singleton] at hb
          · subst hb; exact b0
          · subst hb; exact b1
        · have hp' : p ∈ [(p2, D.ptr 0 0), (p3, D.ptr 1 0)] := hp
          simp only [List.mem_cons, List.not_mem_nil, or_false] at hp'
          rcases hp' with rfl | rfl
          · exact s2
          · exact s3
        · have hp' : p ∈ [(p2, D.ptr 0 0), (p3, D.ptr 1 0)] := hp
          simp only [List.mem_cons, List.not_mem_nil, or_false] at hp'
          rcases hp' with rfl | rfl <;> simp only [D.refs, List.mem_singleton] at hb <;> subst hb
          · exact ⟨by show 0 < 2; omega, b0⟩
          · exact ⟨by show 1 < 2; omega, b1⟩
      refine step_own (c := cq Tryz.prog G w [(p2, .ptr 0 0), (p3, .ptr 1 0)] 2 (some l) [] (fun k => W.heap[k]?) W.heap.size) (lay_len ..) (pr_yes (ca i hiN fi) (ca j hjN fj) (cj i j hij hjN fi fj) hG hh) rfl rfl hgood (Nat.le_refl _) ⟨β, X, hst⟩ fun a3 W3 hr3 => ?_
      obtain ⟨β', X', hB'⟩ := hr3
      refine ⟨⟨hB'.below.sz, fun k o _ hk ho => hB'.below.nc k o hk (fun us e fr e' => by rw [e'] at ho; cases ho)⟩, rfl, ⟨(i, j), hij, hjN, fi, fj⟩, pre, rfl, hh, hI1, β', X', ?_⟩
      exact ⟨rfl, rfl, fun t => .c (.p (.any _)), fun t b hb => (by simp [D.refs] at hb), hB'.blk, hB'.ndc, hB'.inj, hB'.F, hB'.Flt, hB'.Xlt, ⟨hB'.below.bel, fun _ _ hk => (by cases hk), Nat.zero_le _⟩, hB'.gh, hB'.ghnd, Keep.none rfl rfl⟩
  · rintro D0 xs W hD hS ⟨hI1, hI2, hI3⟩ hblk
    have hW := own W hI2 hI3
    show Code.wpIn Fence.wide 3 Tryz.prog (kR (kR (cBody Tryz.f239))) _ { a2 with defers := mk D0 :: a2.defers } W
    have hst : RelB (cq Tryz.prog G w [] 0 none [mk D0] (fun k => W.heap[k]?) 0) 42 (lay 42 (pr1 (finP nm N bs rest)) prB).fs { a2 with defers := mk D0 :: a2.defers } W β X :=
      ⟨by show mk D0 :: a2.defers = [mk D0]; rw [hdf], hW.size, hW.tmp, hW.nd, hW.blk, hW.ndc, hW.inj, hW.F, hW.Flt, hW.Xlt, ⟨hW.below.bel, fun _ _ hk _ => hk, Nat.zero_le _⟩, (fun p hp => by cases hp), (fun p hp => by cases hp), Keep.none rfl rfl⟩
    refine step_own (c := cq Tryz.prog G w [] 0 none [mk D0] (fun k => W.heap[k]?) 0) (lay_len ..) (pr_end hG) rfl rfl hgood (Nat.le_refl _) ⟨β, X, hst⟩ fun a3 W3 hr3 => ?_
    obtain ⟨β', X', hB'⟩ := hr3
    have hdef : a3.defers = [mk D0] := hB'.defers
    have hno : ∀ x ∈ Lp N free N 0, hit an jn x = false := fun x hx => by
      rw [← hS] at hx
      obtain ⟨y, hy, rfl⟩ := List.mem_map.1 hx
      exact hI1 y hy
    show LeavesInM Fence.wide 3 Tryz.prog Tryz.f239 a3.tmps _ a3.defers .returning W3
    rw [hdef, hd hno]
    have h3 : RelB (cq Tryz.prog G w [] 0 none [mk D0] (fun _ => none) 0) 42 (lay 42 [(2, .ptr 0 0), (3, .ptr 1 0)] prB).fs ⟨a3.tmps, [mk D0]⟩ W3 β' X' :=
      ⟨rfl, hB'.size, hB'.tmp, hB'.nd, hB'.blk, hB'.ndc, hB'.inj, hB'.F, hB'.Flt, hB'.Xlt, ⟨hB'.below.bel, fun _ _ hk => (by cases hk), Nat.zero_le _⟩, (fun p hp => by cases hp), (fun p hp => by cases hp), Keep.none rfl rfl⟩
    exact pr_leave hG hgood h3 (hB'.below.nc D0 _ hblk (fun us e fr h => by cases h)) (Nat.le_trans bE.size hD) (ds := [.agg zG, bool false]) (by kernel_rfl) (by kernel_rfl) (by kernel_rfl)
  · rintro D0 c pre W hD ⟨i, j, hij, hjN, fi, fj, hpre⟩ ⟨rfl, ⟨⟨i', j'⟩, hy⟩, ys, rfl, hh, hno, βL, XL, hL⟩ hblk
    rw [List.map_append] at hpre
    obtain ⟨e1, e2⟩ := List.append_inj' hpre rfl
    simp only [List.map_cons, List.map_nil, List.cons.injEq, Prod.mk.injEq, and_true] at e2
    obtain ⟨rfl, rfl⟩ := e2
    have hno2 : ∀ x ∈ Lp N free i' j', hit an jn x = false := fun x hx => by
      rw [← e1] at hx
      obtain ⟨y, hy, rfl⟩ := List.mem_map.1 hx
      exact hno y hy
    refine wpIn_ret ?_
    show LeavesInM Fence.wide 3 Tryz.prog Tryz.f239 a2.tmps _ (mk D0 :: a2.defers) .returning W
    rw [hdf, hs i' j' hij hjN fi fj hh hno2]
    have b0 : ((lay 42 [(2, .ptr 0 0), (3, .ptr 1 0)] (prH i' j' (an i') (an j') (jn i' j')) [0]).fs.blk 0).isSome = true := by rw [lay_blk]; rfl
    have b1 : ((lay 42 [(2, .ptr 0 0), (3, .ptr 1 0)] (prH i' j' (an i') (an j') (jn i' j')) [0]).fs.blk 1).isSome = true := by rw [lay_blk]; rfl
    have h3 : RelB (cq Tryz.prog G w [] 0 none [mk D0] (fun _ => none) 0) 42 (lay 42 [(2, .ptr 0 0), (3, .ptr 1 0)] (prH i' j' (an i') (an j') (jn i' j')) [0]).fs ⟨a2.tmps, [mk D0]⟩ W βL XL := by
      refine ⟨rfl, hsz, lay_all (Q := fun t d => RepW βL W XL (a2.tmps.getD t undef) d) (fun t => .c (.p (.any _))) (fun p hp => ?_),
        fun t => lay_all (Q := fun t d => ∀ b, b ∈ d.refs → ((lay 42 [(2, .ptr 0 0), (3, .ptr 1 0)] (prH i' j' (an i') (an j') (jn i' j')) [0]).fs.blk b).isSome = true) (fun t b hb => by simp [D.refs] at hb) (fun p hp b hb => ?_) t,
        hL.blk, hL.ndc, hL.inj, hL.F, hL.Flt, hL.Xlt, ⟨hL.below.bel, fun _ _ hk => (by cases hk), Nat.zero_le _⟩, (fun p hp => by cases hp), (fun p hp => by cases hp), Keep.none rfl rfl⟩
      · simp only [List.mem_cons, List.not_mem_nil, or_false] at hp
        rcases hp with rfl | rfl
        · show RepW βL W XL (a2.tmps.getD 2 undef) (.ptr 0 0)
          rw [← hp2]; exact hL.gh (p2, .ptr 0 0) (List.mem_cons_self ..)
        · show RepW βL W XL (a2.tmps.getD 3 undef) (.ptr 1 0)
          rw [← hp3]; exact hL.gh (p3, .ptr 1 0) (List.mem_cons_of_mem _ (List.mem_cons_self ..))
      · simp only [List.mem_cons, List.not_mem_nil, or_false] at hp
        rcases hp with rfl | rfl <;> simp only [D.refs, List.mem_singleton] at hb <;> subst hb
        · exact b0
        · exact b1
    exact pr_leave hG hgood h3 hblk (Nat.le_trans bE.size hD) (ds := [.agg [nat 1, .slc 2 0 2 2, .slc 3 0 3 3, nat 0], bool true]) (by kernel_rfl) (by kernel_rfl) (by kernel_rfl)
end Gr
end Lw
