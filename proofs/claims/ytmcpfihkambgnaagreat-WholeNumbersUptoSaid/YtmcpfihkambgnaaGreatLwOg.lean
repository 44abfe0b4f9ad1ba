/- Contracts whose results lie in new cells alone, off runs. -/
import Derived.Test.YtmcpfihkambgnaaGreatLwOf
namespace Lw
open Go Go.RowKit Go.Proofs
variable {P : Program} {Good : World → Prop}
def plainD : D → Bool
  | .lit _ => true
  | .any => true
  | .row _ _ xs => xs.isEmpty
  | _ => false
theorem plain_rep {w w' : World} {X Y : Nat → Prop} {v : Value} {d : D} (hd : plainD d = true) (h : RepP w X v d) : RepP w' Y v d := by
  cases h with
  | any v => exact .any v
  | lit v => exact .lit v
  | row a len cap full us xs hl hlen hcap hf hm hr =>
    have hx : xs = [] := by simpa [plainD] using hd
    subst hx
    have hu : us = [] := List.length_eq_zero_iff.1 hl
    subst hu
    exact .row a len cap full [] [] rfl hlen hcap hf (fun i h => absurd h (by simp)) (fun i h => absurd h (by simp))
  | _ => cases hd
theorem plain_ref {d : D} (hd : plainD d = true) : d.ref = none := by cases d <;> first | rfl | cases hd
def freshC (blk : Nat → Option (List D)) (nst : Nat → Bool) : Nat → D → Bool
  | 0, d => match d.ref with
    | some b => match blk b, nst b with
      | some cs, false => cs.all plainD
      | _, _ => true
    | none => plainD d
  | m + 1, d => match d.ref with
    | some b => match blk b with
      | some cs => match nst b with
        | false => cs.all plainD
        | true => cs.all (freshC blk nst m)
      | none => true
    | none => plainD d
theorem repV_own {β : Nat → Nat} {w : World} {X Y : Nat → Prop} {v : Value} {d : D} {b : Nat} (h : RepV β w X v d) (hb : d.ref = some b) : RepV β w Y v d := by
  cases h with
  | p hp => rw [repP_ref hp] at hb; cases hb
  | ptr b off => exact .ptr b off
  | slc b off len cap h1 h2 => exact .slc b off len cap h1 h2
  | gsl b n size cap e h1 h2 h3 => exact .gsl b n size cap e h1 h2 h3
section
variable {c : Ctx} {n : Nat} {s : FSt} {a : Act} {w : World} {β : Nat → Nat} {X : Nat → Prop}
theorem fresh_rep (h : RelB c n s a w β X) : ∀ (m : Nat) (v : Value) (d : D), freshC s.blk s.nst m d = true → RepV β w X v d → RepP w (fun k => k < c.w0.heap.size) v (D.rowC s.blk s.nst m d) := by
  have flat : ∀ {v : Value} {d : D} {b : Nat} {cs : List D}, d.ref = some b → s.blk b = some cs → cs.all plainD = true → RepV β w X v d → RepP w (fun k => k < c.w0.heap.size) v (d.thawC b cs) := fun {v d b cs} hb hcs hp hv => by
    obtain ⟨h1, _, us, e, h3, _, h5⟩ := h.blk b cs hcs
    rw [List.all_eq_true] at hp
    have hr : Reps w (fun k => k < c.w0.heap.size) (us.toList.take cs.length) cs := ⟨h5.1, fun i hi hi' =>
      plain_rep (w := w) (X := X) (hp _ (List.getElem_mem hi')) ((h5.2 i hi hi').pure (plain_ref (hp _ (List.getElem_mem hi'))))⟩
    refine ((thaw_rep h3 hr (repV_own hv hb)).pure (thaw_own hb)).mono fun a u hu hx => ⟨hu, fun hf => hx ⟨hf, fun e => ?_⟩⟩
    have hf' : a.block < c.w0.heap.size := hf
    omega
  intro m
  induction m with
  | zero =>
    intro v d hf hv
    unfold freshC at hf
    unfold D.rowC
    split
    · rename_i b hb
      rw [hb] at hf
      split
      · rename_i cs hcs hns
        simp only [hcs, hns] at hf
        exact flat hb hcs hf hv
      · exact .any _
    · rename_i hb
      rw [hb] at hf
      exact plain_rep hf (hv.pure hb)
  | succ m ih =>
    intro v d hf hv
    unfold freshC at hf
    unfold D.rowC
    split
    · rename_i b hb
      rw [hb] at hf
      split
      · rename_i cs hcs
        split
        · rename_i hns
          simp only [hcs, hns] at hf
          exact flat hb hcs hf hv
        · rename_i hns
          simp only [hcs, hns] at hf
          rw [List.all_eq_true] at hf
          obtain ⟨h1, _, us, e, h3, _, h5⟩ := h.blk b cs hcs
          have hr : Reps w (fun k => k < c.w0.heap.size) (us.toList.take (cs.map (D.rowC s.blk s.nst m)).length) (cs.map (D.rowC s.blk s.nst m)) := by
            rw [List.length_map]
            exact h5.map fun u x hx hq => ih u x (hf x hx) hq
          refine ((thaw_rep h3 hr (repV_own hv hb)).pure (thaw_own hb)).mono fun a u hu hx => ⟨hu, fun hf => hx ⟨hf, fun e => ?_⟩⟩
          have hf' : a.block < c.w0.heap.size := hf
          omega
      · exact .any _
    · rename_i hb
      rw [hb] at hf
      exact plain_rep hf (hv.pure hb)
def freshW (blk : Nat → Option (List D)) (nst : Nat → Bool) : D → Bool
  | .agg xs => xs.all (freshC blk nst 4)
  | .tup xs => xs.all (freshC blk nst 4)
  | d => freshC blk nst 4 d
theorem freshW_rep (h : RelB c n s a w β X) {v : Value} {d : D} (hf : freshW s.blk s.nst d = true) (hv : RepW β w X v d) : RepP w (fun k => k < c.w0.heap.size) v (d.rowOf s.blk s.nst) := by
  have many : ∀ {us : List Value} {xs : List D}, xs.all (freshC s.blk s.nst 4) = true → LQ (RepV β w X) us xs → Reps w (fun k => k < c.w0.heap.size) us (xs.map (D.rowC s.blk s.nst 4)) := fun hx hl =>
    hl.map fun u x hm hq => fresh_rep h 4 u x (List.all_eq_true.1 hx x hm) hq
  cases hv with
  | c hv =>
    by_cases h1 : ∃ xs, d = .agg xs
    · obtain ⟨xs, rfl⟩ := h1
      cases hv with
      | p hp => cases hp with
        | agg us _ hl hr =>
          have := many (us := us) (xs := xs) hf ⟨hl, fun i a b => .p (hr i a b)⟩
          exact .agg us _ this.1 this.2
    · by_cases h2 : ∃ xs, d = .tup xs
      · obtain ⟨xs, rfl⟩ := h2
        cases hv with
        | p hp => cases hp with
          | tup us _ hl hr =>
            have := many (us := us) (xs := xs) hf ⟨hl, fun i a b => .p (hr i a b)⟩
            exact .tup us _ this.1 this.2
      · have e : d.rowOf s.blk s.nst = (D.rowC s.blk s.nst 4 d).relax := by
          cases d <;> first | rfl | exact absurd ⟨_, rfl⟩ h1 | exact absurd ⟨_, rfl⟩ h2
        have hf' : freshC s.blk s.nst 4 d = true := by
          cases d <;> first | exact hf | exact absurd ⟨_, rfl⟩ h1 | exact absurd ⟨_, rfl⟩ h2
        rw [e]
        exact relax_rep (fresh_rep h 4 _ _ hf' hv)
  | agg us xs hl => have := many hf hl; exact .agg us _ this.1 this.2
  | tup us xs hl => have := many hf hl; exact .tup us _ this.1 this.2
end
def runFnF (P : Program) {Good : World → Prop} (ro : List Nat) (m : Nat) (fn : Func) (args : List D) (tr : List (Item P Good)) : Option (D × List (Item P Good) × List (Got × Got)) :=
  match fn.body with
  | some k => if Nat.ble args.length fn.ntmps then
      match runC P m ro 0 k (startS fn.ntmps args []) tr with
      | some (.normal, s, tr', eqs) | some (.ret, s, tr', eqs) => match resultsD P s fn.results.toList with
        | some ds => if ds.all (freshW s.fs.blk s.fs.nst) then some (packD (ds.map (D.rowOf s.fs.blk s.fs.nst)), tr', eqs) else none
        | none => none
      | _ => none
    else none
  | none => none
theorem SpecF.of_run' (hG : Steady Good) {f : FuncId} {fn : Func} (hf : P.funcs[f]? = some fn) {ro : List Nat} {m : Nat} {args : List D} {r : D} (tr tr2 : List (Item P Good)) {eqs : List (Got × Got)} (hag : Agree eqs)
    (h : runFnF P ro m fn args tr = some (r, tr2, eqs)) : SpecF P Good f args r := by
  intro w vals hgood hargs
  unfold runFnF at h
  split at h
  · rename_i k hk
    split at h
    · rename_i hle
      rw [Nat.ble_eq] at hle
      have key : ∀ e s, runC P m ro 0 k (startS fn.ntmps args []) tr = some (e, s, tr2, eqs) → (e = .normal ∨ e = .ret) → (∃ ds, resultsD P s fn.results.toList = some ds ∧ ds.all (freshW s.fs.blk s.fs.nst) = true ∧ packD (ds.map (D.rowOf s.fs.blk s.fs.nst)) = r) →
          Calls P f vals.toArray w fun e w' => ∃ v, e = .returned v ∧ RepP w' (fun k => k < w.heap.size) v r ∧ Below w.heap.size w w' ∧ Good w' := by
        intro e s hr he hres
        obtain ⟨ds, hds, hfr, rfl⟩ := hres
        have hs := runC_sound hG m ro 0 k _ tr e s tr2 _ hr hag
        have hlen := start_len (blks := []) (ns := []) hle
        refine (callsIn_wide (n := 0)).1 (callsIn_of_wp hf hk trivial ?_)
        show Code.wpIn (Fw none) 0 _ _ _ _ _
        let c : Ctx := ⟨P, Good, fun _ => False, w, [], 0, none, [], fun _ => none, 0, fun _ => none, fun _ => False⟩
        have hnone : ∀ b, (startS fn.ntmps args []).fs.blk b = none := fun b => by simp [startS, St.fs]
        refine hs.2 c _ _ w rfl rfl hgood (Nat.le_refl _) ⟨fun _ => 0, fun _ => False, rfl, ?_, fun t => ?_, ?_, fun b cs hb => ?_, fun b cs hb => ?_, fun b b' hb => ?_, fun _ h => h, fun _ h => h.elim, fun _ h => h.elim, ⟨Below.refl _ _, fun k o hk => (by cases hk), Nat.zero_le _⟩, fun p hp => ?_, fun p hp => ?_, Keep.none rfl rfl⟩ fun a' w' hrel => ?_
        · rw [hlen]; have := hargs.1; simp; omega
        · exact start_tmp (Q' := fun v d => RepW (fun _ => 0) w (fun _ => False) v d) hargs.1 hle (fun i h1 h2 => .c (.p (hargs.2 i h1 h2))) (.c (.p (.lit _))) (.c (.p (.any _))) t
        · refine start_ref fun d hd b hb => ?_
          obtain ⟨i, hi, rfl⟩ := List.mem_iff_getElem.1 hd
          rw [repP_refs (hargs.2 i (by rw [hargs.1]; exact hi) hi)] at hb; cases hb
        · rw [hnone] at hb; cases hb
        · rw [hnone] at hb; cases hb
        · rw [hnone] at hb; cases hb
        · cases hp
        · cases hp
        · obtain ⟨β, X, hB⟩ := hrel
          obtain ⟨vs, h1, h2, h3, h4⟩ := results_run (c := c) hB hds
          have hreps : Reps w' (fun k => k < w.heap.size) vs (ds.map (D.rowOf s.fs.blk s.fs.nst)) := by
            refine ⟨by simpa using h2, fun i hi hi' => ?_⟩
            rw [List.getElem_map]
            have hi2 : i < ds.length := by rw [← h2]; exact hi
            exact freshW_rep hB (List.all_eq_true.1 hfr _ (List.getElem_mem hi2)) (h3 i hi hi2)
          have hpost : a'.defers = [] ∧ ∃ v, (results fn a'.tmps).run P w' = .ok v w' ∧ (∃ v', Ending.returned v = .returned v' ∧ RepP w' (fun k => k < w.heap.size) v' (packD (ds.map (D.rowOf s.fs.blk s.fs.nst))) ∧ Below w.heap.size w w' ∧ Good w') :=
            ⟨hB.defers, packV vs, h1, packV vs, rfl, pack_reps hreps, hB.below.bel, hB.good hG hgood⟩
          rcases he with rfl | rfl <;> exact hpost
      split at h
      · rename_i s tr' eqs' hr
        split at h
        · rename_i ds hds
          split at h
          · rename_i hfr
            simp only [Option.some.injEq, Prod.mk.injEq] at h
            obtain ⟨h1, rfl, rfl⟩ := h
            exact key _ _ hr (.inl rfl) ⟨ds, hds, hfr, h1⟩
          · cases h
        · cases h
      · rename_i s tr' eqs' hr
        split at h
        · rename_i ds hds
          split at h
          · rename_i hfr
            simp only [Option.some.injEq, Prod.mk.injEq] at h
            obtain ⟨h1, rfl, rfl⟩ := h
            exact key _ _ hr (.inr rfl) ⟨ds, hds, hfr, h1⟩
          · cases h
        · cases h
      · cases h
    · cases h
  · cases h
theorem SpecF.of_run (hG : Steady Good) {f : FuncId} {fn : Func} (hf : P.funcs[f]? = some fn) {ro : List Nat} {m : Nat} {args : List D} {r : D} (tr : List (Item P Good))
    (h : runFnF P ro m fn args tr = some (r, [], said tr)) : SpecF P Good f args r := SpecF.of_run' hG hf tr [] (agree_said tr) h
theorem SpecF.of_auto (hG : Steady Good) (A : Auto P Good) {f : FuncId} {fn : Func} (hf : P.funcs[f]? = some fn) {ro : List Nat} {m : Nat} {args : List D} {r : D} (tr : List (Item P Good))
    (h : ((runFnF P ro m fn args (.auto A :: tr)).map fun o => (o.1, o.2.2)) = some (r, said tr)) : SpecF P Good f args r := by
  cases hr : runFnF P ro m fn args (.auto A :: tr) with
  | none => rw [hr] at h; cases h
  | some o =>
    obtain ⟨d, tr2, eqs⟩ := o
    rw [hr] at h
    simp only [Option.map_some, Option.some.injEq, Prod.mk.injEq] at h
    obtain ⟨rfl, rfl⟩ := h
    exact SpecF.of_run' hG hf _ tr2 (agree_said tr) hr
end Lw
