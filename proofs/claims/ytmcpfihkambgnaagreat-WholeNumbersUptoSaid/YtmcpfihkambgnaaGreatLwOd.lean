/- The iterator over pairs of free bodies: its contract. Condition: at most a hundred bodies. -/
import Derived.Test.YtmcpfihkambgnaaGreatLwOc
namespace Lw
open Go Go.RowKit Go.Proofs
namespace Gr
variable {G : World → Prop} {nm : D} {N : Nat} {bs rest : List D} {yv : Value}

theorem b4_both (hG : Steady G) {i j l m m' : Nat} {W : World} {a : Act} {Q : Exit → Act → World → Prop} (hyv : yv = .func (.yield l) #[] #[])
    (c1 : Spec Tryz.prog G 297 [finP nm N bs rest, nat i] (bool true)) (c2 : Spec Tryz.prog G 297 [finP nm N bs rest, nat j] (bool true))
    (hr : Rel (cx Tryz.prog G none W) 42 (lay 42 (itI nm N bs rest yv i j) []).fs a W) (hg : G W) {Jt Je : World → Prop}
    (hy : ∀ W1, G W1 → Below W.heap.size W W1 → YieldAt Fence.wide m' Tryz.prog l (encP (i, j)) W1 fun e W' => (e = .returned (.bool true) ∧ Keeps W1 W' ∧ G W' ∧ Jt W') ∨ (e = .returned (.bool false) ∧ Je W'))
    (hJt : ∀ W W', Jt W → Below W.heap.size W W' → Jt W') (hJe : ∀ W W', Je W → Below W.heap.size W W' → Je W')
    (hQ1 : ∀ a' W', Rel (cx Tryz.prog G none W') 42 (lay 42 (itI nm N bs rest yv i j) []).fs a' W' → G W' → Jt W' → Q .normal a' W')
    (hQ2 : ∀ a' W', Rel (cx Tryz.prog (fun _ => True) none W') 42 (lay 42 [(40, bool true)] []).fs a' W' → Je W' → Q .ret a' W') :
    (kB4 (cBody Tryz.f322)).wpIn Fence.wide m Tryz.prog Q a W := by
  subst hyv
  obtain ⟨o, ho, hcal, hdst, hguard⟩ := op12
  refine seq_in it_b4 (wpIn_n (n := 0) rfl (wpIn_region_list ?_))
  have el : (cOps (kL (kB4 (cBody Tryz.f322)))).toArray.toList = (cOps (kL (kB4 (cBody Tryz.f322)))).take 12 ++ (cOps (kL (kB4 (cBody Tryz.f322)))).drop 12 := by
    rw [List.take_append_drop]
  rw [el, ho]
  refine ops_in (r := none) (m := 0) (lay_len ..) _ hG (seg9 hG c1 c2) hr hg fun a1 W1 hr1 hg1 hb1 => ?_
  have v0 : a1.eval (.tmp 35) = .func (.yield l) #[] #[] := hr1.tmpLit (t := 35) (by rw [lay_tmp]; rfl)
  have v1 : a1.eval (.tmp 36) = .int .i64 (Int.ofNat i) := hr1.tmpLit (t := 36) (by rw [lay_tmp]; rfl)
  have v2 : a1.eval (.tmp 37) = .int .i64 (Int.ofNat j) := hr1.tmpLit (t := 37) (by rw [lay_tmp]; rfl)
  refine yield_in (m := m') (vs := encP (i, j)) hcal hdst ?_ hr1 v0 (by rw [List.map_toArray]; show [a1.eval (.tmp 36), a1.eval (.tmp 37)].toArray = encP (i, j); rw [v1, v2]; rfl) (hy W1 hg1 hb1) ?_
  · unfold guardSays
    rw [hguard]
    simp only [op8]
    rw [lay_tmp]; rfl
  · intro e W2 he
    rcases he with ⟨rfl, hk, hg2, hj⟩ | ⟨rfl, hj⟩
    · refine ⟨_, rfl, ?_⟩
      have hr2 := (hr1.keeps (fun b => lay_none 42 _ b) hk).putLit (t := 38) (v := .bool true) (by omega)
      have := ops_in (r := none) (m := 0) (P := Tryz.prog) (l2 := []) (l1 := (cOps (kL (kB4 (cBody Tryz.f322)))).drop 13) (lay_len ..) [] hG seg10 hr2 hg2 (Q := Exit.then ((kR (kB4 (cBody Tryz.f322))).wpIn Fence.wide m Tryz.prog Q) Q) fun a3 W3 hr3 hg3 hb3 => by
        show Code.wpIn Fence.wide m Tryz.prog _ Q a3 W3
        rw [b4_end]
        refine wpIn_cond_false (hr3.tmpLit (t := 40) (by rw [lay_tmp]; rfl)) (wpIn_skip ?_)
        refine hQ1 a3 W3 ?_ hg3 (hJt _ _ hj hb3)
        have hm := hr3.mask (s := lay 42 ((40, bool false) :: itI nm N bs rest (.func (.yield l) #[] #[]) i j) []) (gb := 0) (keepT := (itI nm N bs rest (.func (.yield l) #[] #[]) i j).map (·.1)) (keepB := []) (ns := []) (Nat.le_refl _) (by kernel_rfl)
        have e := mask_lay (s := lay 42 ((40, bool false) :: itI nm N bs rest (.func (.yield l) #[] #[]) i j) []) (n := 42) (l := itI nm N bs rest (.func (.yield l) #[] #[]) i j) (bl := []) (ns := []) (lay_len ..) (by kernel_rfl) rfl
        simp only [List.map_nil] at e
        rw [e] at hm
        exact hm
      rwa [List.append_nil] at this
    · refine ⟨_, rfl, ?_⟩
      have hr2 := (hr1.putLit (t := 38) (v := .bool false) (by omega)).lits (G' := fun _ => True) (r' := none) (w' := W2) (l := itE i j) (by
        intro p hp
        simp only [itE, List.mem_cons, List.not_mem_nil, or_false] at hp
        rcases hp with rfl | rfl | rfl | rfl
        · exact ⟨_, rfl, by rw [lay_tmp]; rfl⟩
        · exact ⟨_, rfl, by rw [lay_tmp]; rfl⟩
        · exact ⟨_, rfl, by rw [lay_tmp]; rfl⟩
        · exact ⟨_, rfl, by rw [lay_tmp]; rfl⟩)
      have := ops_in (r := none) (m := 0) (P := Tryz.prog) (G := fun _ => True) (l := [(40, bool true)]) (l2 := []) (l1 := (cOps (kL (kB4 (cBody Tryz.f322)))).drop 13) (lay_len ..) [] (fun _ _ _ _ => trivial) seg11 hr2 trivial (Q := Exit.then ((kR (kB4 (cBody Tryz.f322))).wpIn Fence.wide m Tryz.prog Q) Q) fun a3 W3 hr3 hg3 hb3 => by
        show Code.wpIn Fence.wide m Tryz.prog _ Q a3 W3
        rw [b4_end]
        exact wpIn_cond_true (hr3.tmpLit (t := 40) (by rw [lay_tmp]; rfl)) (wpIn_ret (hQ2 a3 W3 hr3 (hJe _ _ hj hb3)))
      rwa [List.append_nil] at this
theorem it_fin {G' : World → Prop} {l : List (Nat × D)} {a : Act} {W : World} {R : Ending → World → Prop} (hr : Rel (cx Tryz.prog G' none W) 42 (lay 42 l []).fs a W) (h : ∀ v, R (.returned v) W) : a.defers = [] ∧ ∃ v, (results Tryz.f322 a.tmps).run Tryz.prog W = .ok v W ∧ R (.returned v) W := by
  obtain ⟨β, X, hB⟩ := hr
  refine ⟨hB.defers, ?_⟩
  obtain ⟨vs, h1, -⟩ := results_run (s := lay 42 l []) hB (fn := Tryz.f322) (ds := []) (by kernel_rfl)
  exact ⟨_, h1, h _⟩

theorem pairs_core {free : Nat → Bool} (hG : Steady G) (hN : N < 100) {cv : Value} {w W0 : World} {l m : Nat} (hcv : RepP w (fun _ => False) cv (.rptr [finP nm N bs rest])) (hw : G w)
    (cf : ∀ i, i < N → Spec Tryz.prog G 297 [finP nm N bs rest, nat i] (bool (free i))) (J Jx : List (Nat × Nat) → World → Prop) (hW0 : Below w.heap.size w W0)
    (gJ : ∀ pre W W', J pre W → Below W.heap.size W W' → J pre W') (gJx : ∀ pre W W', Jx pre W → Below W.heap.size W W' → Jx pre W')
    (hY : ∀ pre i j W1, i < j → j < N → free i = true → free j = true → J pre W1 → pre.length < N * N + 1 → YieldAt Fence.wide (m - 1) Tryz.prog l (encP (i, j)) W1 fun e W' =>
      (e = .returned (.bool true) ∧ J (pre ++ [(i, j)]) W' ∧ Kp w.heap.size W1 W') ∨ (e = .returned (.bool false) ∧ Jx (pre ++ [(i, j)]) W')) (h0 : J [] W0) :
    CallsIn Fence.wide m Tryz.prog 322 (#[.func (.yield l) #[] #[]] ++ #[cv]) W0 fun e W' => (∃ v, e = .returned v) ∧ ((∃ xs, xs = Lp N free N 0 ∧ J xs W') ∨
      ∃ pre, (∃ i j, i < j ∧ j < N ∧ free i = true ∧ free j = true ∧ pre = Lp N free i j ++ [(i, j)]) ∧ Jx pre W') := by
  have keyG : ∀ W, Below w.heap.size w W → G W := fun W h => hG _ _ h hw
  have more : ∀ {W W' : World}, Below w.heap.size w W → Below W.heap.size W W' → Below w.heap.size w W' := fun h k => h.trans (k.mono h.size)
  have hrel0 : Rel (cx Tryz.prog G none W0) 42 (startS 42 [.lit (.func (.yield l) #[] #[]), .rptr [finP nm N bs rest]] []).fs { tmps := #[.func (.yield l) #[] #[]] ++ #[cv] ++ Array.replicate (42 - (#[.func (.yield l) #[] #[]] ++ #[cv] : Array Value).size) undef, defers := [] } W0 :=
    Rel.start (vals := [.func (.yield l) #[] #[], cv]) (by simp) ⟨rfl, fun i h1 h2 => by
      match i, h1 with
      | 0, _ => exact .lit _
      | 1, _ => exact hcv.mono (fun a u h hx => ⟨(Keeps.of_below hW0).cell h, hx⟩)⟩
  refine callsIn_of_wp (fn := Tryz.f322) (c := cBody Tryz.f322) (by kernel_rfl) (by kernel_rfl) trivial ?_
  refine seq_in it_shape (step_in (r := none) (start_len (by simp)) (seg0 hG) hrel0 hG (keyG _ hW0) fun a W hr hg hb => ?_)
  show Code.wpIn Fence.wide m Tryz.prog _ _ a W
  refine block_in rfl (loop_in rfl (fun n a W => ∃ i, n + i = N ∧ Rel (cx Tryz.prog G none W) 42 (lay 42 (itO nm N bs rest (.func (.yield l) #[] #[]) i) []).fs a W ∧ Below w.heap.size w W ∧ J (Lp N free i 0) W) N ⟨0, rfl, hr, more hW0 hb, gJ _ _ _ h0 hb⟩ ?_)
  rintro n0 a W ⟨i, hi, hr, hbw, hj⟩
  refine seq_in itp_loop ?_
  by_cases hlt : i < N
  · refine step_in (r := none) (lay_len ..) (seg1t hG hlt) hr hG (keyG _ hbw) fun a W1 hr hg hb => ?_
    replace hbw := more hbw hb; replace hj := gJ _ _ _ hj hb
    show Code.wpIn Fence.wide m Tryz.prog _ _ a W1
    refine seq_in rfl (step_in (r := none) (lay_len ..) (seg2t hG) hr hG hg fun a W2 hr hg hb => ?_)
    replace hbw := more hbw hb; replace hj := gJ _ _ _ hj hb
    show Code.wpIn Fence.wide m Tryz.prog _ _ a W2
    refine seq_in rfl (block_in rfl ?_)
    refine seq_in it_blk (step_in (r := none) (lay_len ..) (seg3 hG) hr hG hg fun a W3 hr hg hb => ?_)
    replace hbw := more hbw hb; replace hj := gJ _ _ _ hj hb
    show Code.wpIn Fence.wide m Tryz.prog _ _ a W3
    refine seq_in rfl (step_in (r := none) (lay_len ..) (seg4 hG (by omega)) hr hG hg fun a W4 hr hg hb => ?_)
    replace hbw := more hbw hb; replace hj := gJ _ _ _ hj hb
    show Code.wpIn Fence.wide m Tryz.prog _ _ a W4
    rw [Lp_in] at hj
    refine block_in rfl (loop_in rfl (fun n a W => ∃ j, n + j = N ∧ i < j ∧ Rel (cx Tryz.prog G none W) 42 (lay 42 (itI nm N bs rest (.func (.yield l) #[] #[]) i j) []).fs a W ∧ Below w.heap.size w W ∧ J (Lp N free i j) W) (N - (i + 1)) ⟨i + 1, by omega, by omega, hr, hbw, hj⟩ ?_)
    clear hr hbw hj hg hb
    rintro n a W ⟨j, hnj, hij, hr, hbw, hj⟩
    refine seq_in it_inner ?_
    by_cases hjl : j < N
    · refine step_in (r := none) (lay_len ..) (seg5t hG hjl) hr hG (keyG _ hbw) fun a W1 hr hg hb => ?_
      replace hbw := more hbw hb; replace hj := gJ _ _ _ hj hb
      show Code.wpIn Fence.wide m Tryz.prog _ _ a W1
      refine seq_in rfl (block_in rfl ?_)
      have hfi := cf i hlt
      have hfj := cf j hjl
      by_cases hfree : free i = true ∧ free j = true
      · have hst : Lp N free i (j + 1) = Lp N free i j ++ [(i, j)] := by rw [Lp_step, if_pos ⟨hij, hfree.1, hfree.2⟩]
        rw [hfree.1] at hfi; rw [hfree.2] at hfj
        refine b4_both (l := l) (Jt := fun W' => Below w.heap.size w W' ∧ J (Lp N free i (j + 1)) W') (Je := Jx (Lp N free i (j + 1))) hG rfl hfi hfj hr hg (m' := m - 1) ?_ ?_ ?_ ?_ ?_
        · intro W2 hg2 hb2
          have hbw2 := more hbw hb2
          obtain ⟨fn, tmps, assign, body, h1, h2⟩ := hY _ i j W2 hij hjl hfree.1 hfree.2 (gJ _ _ _ hj hb2) (Lp_len N free hlt (by omega))
          refine ⟨fn, tmps, assign, body, h1, h2.mono ?_⟩
          rintro e W' (⟨he, hJ', hk⟩ | ⟨he, hJ'⟩)
          · exact .inl ⟨he, hk.1, keyG _ (hbw2.trans hk.2), hbw2.trans hk.2, by rw [hst]; exact hJ'⟩
          · exact .inr ⟨he, by rw [hst]; exact hJ'⟩
        · rintro W W' ⟨h1, h2⟩ hb; exact ⟨more h1 hb, gJ _ _ _ h2 hb⟩
        · intro W W' h1 hb; exact gJx _ _ _ h1 hb
        · rintro a W2 hr hg ⟨hbw, hj⟩
          show Code.wpIn Fence.wide m Tryz.prog _ _ a W2
          refine step_in (r := none) (lay_len ..) (seg7 hG (by omega)) hr hG hg fun a W3 hr hg hb => ?_
          show ∃ n', n' < n ∧ _
          exact ⟨n - 1, by omega, j + 1, by omega, by omega, hr, more hbw hb, gJ _ _ _ hj hb⟩
        · intro a W2 hr hjx
          exact it_fin (R := fun e W' => (∃ v, e = .returned v) ∧ ((∃ xs, xs = Lp N free N 0 ∧ J xs W') ∨ ∃ pre, (∃ i j, i < j ∧ j < N ∧ free i = true ∧ free j = true ∧ pre = Lp N free i j ++ [(i, j)]) ∧ Jx pre W')) hr fun v => ⟨⟨v, rfl⟩, .inr ⟨_, ⟨i, j, hij, hjl, hfree.1, hfree.2, hst⟩, hjx⟩⟩
      · have hst : Lp N free i (j + 1) = Lp N free i j := by rw [Lp_step, if_neg (by rintro ⟨-, h⟩; exact hfree h), List.append_nil]
        have hff : (free i && free j) = false := by
          cases h1 : free i <;> cases h2 : free j <;> simp_all
        refine step_in (r := none) (lay_len ..) (seg8 hG hff hfi hfj) hr hG hg fun a W2 hr hg hb => ?_
        replace hbw := more hbw hb; replace hj := gJ _ _ _ hj hb
        show Code.wpIn Fence.wide m Tryz.prog _ _ a W2
        refine step_in (r := none) (lay_len ..) (seg7 hG (by omega)) hr hG hg fun a W3 hr hg hb => ?_
        show ∃ n', n' < n ∧ _
        exact ⟨n - 1, by omega, j + 1, by omega, by omega, hr, more hbw hb, by rw [hst]; exact gJ _ _ _ hj hb⟩
    · refine step_in (r := none) (lay_len ..) (seg5f hG (by omega)) hr hG (keyG _ hbw) fun a W1 hr hg hb => ?_
      replace hbw := more hbw hb; replace hj := gJ _ _ _ hj hb
      rw [show j = N by omega, Lp_row] at hj
      show Code.wpIn Fence.wide m Tryz.prog _ _ a W1
      refine step_in (r := none) (lay_len ..) (seg6 hG (by omega)) hr hG hg fun a W2 hr hg hb => ?_
      show ∃ n', n' < n0 ∧ _
      exact ⟨n0 - 1, by omega, i + 1, by omega, hr, more hbw hb, gJ _ _ _ hj hb⟩
  · refine step_in (r := none) (lay_len ..) (seg1f hG (by omega)) hr hG (keyG _ hbw) fun a W1 hr hg hb => ?_
    replace hbw := more hbw hb; replace hj := gJ _ _ _ hj hb
    show Code.wpIn Fence.wide m Tryz.prog _ _ a W1
    refine seq_in rfl (step_in (r := none) (lay_len ..) (seg2f hG) hr hG hg fun a W2 hr hg hb => ?_)
    replace hj := gJ _ _ _ hj hb
    rw [show i = N by omega] at hj
    exact it_fin (R := fun e W' => (∃ v, e = .returned v) ∧ ((∃ xs, xs = Lp N free N 0 ∧ J xs W') ∨ ∃ pre, (∃ i j, i < j ∧ j < N ∧ free i = true ∧ free j = true ∧ pre = Lp N free i j ++ [(i, j)]) ∧ Jx pre W')) hr fun v => ⟨⟨v, rfl⟩, .inl ⟨_, rfl, hj⟩⟩
/-- A pair that may come. -/
abbrev Pr (N : Nat) (free : Nat → Bool) := { x : Nat × Nat // x.1 < x.2 ∧ x.2 < N ∧ free x.1 = true ∧ free x.2 = true }
theorem pairs_seq {free : Nat → Bool} (hG : Steady G) (hN : N < 100) {cv : Value} {w : World} {m : Nat} (hcv : RepP w (fun _ => False) cv (.rptr [finP nm N bs rest])) (hw : G w)
    (cf : ∀ i, i < N → Spec Tryz.prog G 297 [finP nm N bs rest, nat i] (bool (free i))) :
    SeqStopsK Fence.wide m Tryz.prog 322 #[cv] (fun x : Pr N free => encP x.1) (Kp w.heap.size) (fun xs => xs.map (·.1) = Lp N free N 0)
      (fun pre => ∃ i j, i < j ∧ j < N ∧ free i = true ∧ free j = true ∧ pre.map (·.1) = Lp N free i j ++ [(i, j)]) (N * N + 1) w := by
  intro l J Jx W0 hW0 hJ hJx hY h0
  refine (pairs_core (nm := nm) (bs := bs) (rest := rest) hG hN hcv hw cf (fun p W => ∃ xs : List (Pr N free), xs.map (·.1) = p ∧ J xs W) (fun p W => ∃ xs : List (Pr N free), xs.map (·.1) = p ∧ Jx xs W) hW0
    (fun pre W W' ⟨xs, e, h⟩ hb => ⟨xs, e, abides_below hJ h hb⟩) (fun pre W W' ⟨xs, e, h⟩ hb => ⟨xs, e, abides_below hJx h hb⟩) ?_ ⟨[], rfl, h0⟩).mono ?_
  · rintro pre i j W1 hij hj f1 f2 ⟨xs, e, h⟩ hlen
    obtain ⟨fn, tmps, assign, body, h1, h2⟩ := hY xs ⟨(i, j), hij, hj, f1, f2⟩ W1 h (by rw [← e, List.length_map] at hlen; exact hlen)
    refine ⟨fn, tmps, assign, body, h1, h2.mono ?_⟩
    rintro e' W' (⟨he, hJ', hk⟩ | ⟨he, hJ'⟩)
    · exact .inl ⟨he, ⟨_, by rw [List.map_append, e]; rfl, hJ'⟩, hk⟩
    · exact .inr ⟨he, ⟨_, by rw [List.map_append, e]; rfl, hJ'⟩⟩
  · rintro e W' ⟨hv, (⟨xs, rfl, ys, e2, h⟩ | ⟨pre, ⟨i, j, h1, h2, h3, h4, rfl⟩, ys, e2, h⟩)⟩
    · exact ⟨hv, .inl ⟨ys, e2, h⟩⟩
    · exact ⟨hv, .inr ⟨ys, ⟨i, j, h1, h2, h3, h4, e2⟩, h⟩⟩
end Gr
end Lw
