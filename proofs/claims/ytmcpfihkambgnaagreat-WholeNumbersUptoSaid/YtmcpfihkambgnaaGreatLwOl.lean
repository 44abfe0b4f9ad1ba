/- A copy of an empty list: results as they are, of a known capacity. -/
import Derived.Test.YtmcpfihkambgnaaGreatLwOk
namespace Lw
open Go Go.RowKit
variable {P : Program} {Good : World → Prop}
/-- A function's run, its results as they are: none of them leads into an own block. -/
def runFnP (P : Program) {Good : World → Prop} (ro : List Nat) (m : Nat) (fn : Func) (args : List D) (tr : List (Item P Good)) : Option (D × List (Item P Good) × List (Got × Got)) :=
  match fn.body with
  | some k => if Nat.ble args.length fn.ntmps then
      match runC P m ro 0 k (startS fn.ntmps args []) tr with
      | some (.normal, s, tr', eqs) | some (.ret, s, tr', eqs) => match resultsD P s fn.results.toList with
        | some ds => if ds.all (fun d => d.refs.isEmpty) then some (packD ds, tr', eqs) else none
        | none => none
      | _ => none
    else none
  | none => none

theorem Spec.of_runP' (hG : Steady Good) {f : FuncId} {fn : Func} (hf : P.funcs[f]? = some fn) {ro : List Nat} {m : Nat} {args : List D} {r : D} (tr tr2 : List (Item P Good)) {eqs : List (Got × Got)} (hag : Agree eqs)
    (h : runFnP P ro m fn args tr = some (r, tr2, eqs)) : Spec P Good f args r := by
  intro w F vals hgood hargs hF
  unfold runFnP at h
  split at h
  · rename_i k hk
    split at h
    · rename_i hle
      rw [Nat.ble_eq] at hle
      have key : ∀ e s, runC P m ro 0 k (startS fn.ntmps args []) tr = some (e, s, tr2, eqs) → (e = .normal ∨ e = .ret) → (∃ ds, resultsD P s fn.results.toList = some ds ∧ ds.all (fun d => d.refs.isEmpty) = true ∧ packD ds = r) →
          Calls P f vals.toArray w fun e w' => ∃ v, e = .returned v ∧ RepP w' F v r ∧ Below w.heap.size w w' ∧ Good w' := by
        intro e s hr he hres
        obtain ⟨ds, hds, hpu, rfl⟩ := hres
        have hs := runC_sound hG m ro 0 k _ tr e s tr2 _ hr hag
        have hlen := start_len (blks := []) (ns := []) hle
        refine (callsIn_wide (n := 0)).1 (callsIn_of_wp hf hk trivial ?_)
        show Code.wpIn (Fw none) 0 _ _ _ _ _
        let c : Ctx := ⟨P, Good, F, w, [], 0, none, [], fun _ => none, 0, fun _ => none, fun _ => False⟩
        have hnone : ∀ b, (startS fn.ntmps args []).fs.blk b = none := fun b => by simp [startS, St.fs]
        refine hs.2 c _ _ w rfl rfl hgood (Nat.le_refl _) ⟨fun _ => 0, F, rfl, ?_, fun t => ?_, ?_, fun b cs hb => ?_, fun b cs hb => ?_, fun b b' hb => ?_, fun _ h => h, hF, hF, ⟨Below.refl _ _, fun k o hk => (by cases hk), Nat.zero_le _⟩, fun p hp => ?_, fun p hp => ?_, Keep.none rfl rfl⟩ fun a' w' hrel => ?_
        · rw [hlen]; have := hargs.1; simp; omega
        · exact start_tmp (Q' := fun v d => RepW (fun _ => 0) w F v d) hargs.1 hle (fun i h1 h2 => .c (.p (hargs.2 i h1 h2))) (.c (.p (.lit _))) (.c (.p (.any _))) t
        · refine start_ref fun d hd b hb => ?_
          obtain ⟨i, hi, rfl⟩ := List.mem_iff_getElem.1 hd
          rw [repP_refs (hargs.2 i (by rw [hargs.1]; exact hi) hi)] at hb; cases hb
        · rw [hnone] at hb; cases hb
        · rw [hnone] at hb; cases hb
        · rw [hnone] at hb; cases hb
        · cases hp
        · cases hp
        · obtain ⟨β, X, hB⟩ := hrel
          obtain ⟨vs, h1, h2, h3, h4⟩ := results_run (c := c) hB hds
          have hreps : Reps w' F vs ds := by
            refine ⟨h2, fun i hi hi' => ?_⟩
            have hr : ds[i].refs = [] := by
              have := List.all_eq_true.1 hpu ds[i] (List.getElem_mem hi')
              simpa using this
            exact ((h3 i hi hi').pure hr).mono fun a u hu hx => ⟨hu, fun hF => hx (hB.F _ hF)⟩
          have hpost : a'.defers = [] ∧ ∃ v, (results fn a'.tmps).run P w' = .ok v w' ∧ (∃ v', Ending.returned v = .returned v' ∧ RepP w' F v' (packD ds) ∧ Below w.heap.size w w' ∧ Good w') :=
            ⟨hB.defers, packV vs, h1, packV vs, rfl, pack_reps hreps, hB.below.bel, hB.good hG hgood⟩
          rcases he with rfl | rfl <;> exact hpost
      split at h
      · rename_i s tr' eqs hr
        split at h
        · rename_i ds hds
          split at h
          · rename_i hpu
            simp only [Option.some.injEq, Prod.mk.injEq] at h
            obtain ⟨rfl, rfl, rfl⟩ := h
            exact key _ _ hr (.inl rfl) ⟨ds, hds, hpu, rfl⟩
          · cases h
        · cases h
      · rename_i s tr' eqs hr
        split at h
        · rename_i ds hds
          split at h
          · rename_i hpu
            simp only [Option.some.injEq, Prod.mk.injEq] at h
            obtain ⟨rfl, rfl, rfl⟩ := h
            exact key _ _ hr (.inr rfl) ⟨ds, hds, hpu, rfl⟩
          · cases h
        · cases h
      · cases h
    · cases h
  · cases h

end Lw
namespace Lw
open Go Go.RowKit Go.Proofs
namespace Fb
open Gr Tw
variable {G : World → Prop}
theorem cl_nil (hG : Steady G) (cap : Nat) : Spec Tryz.prog G 146 [.lit (.slice none 0 cap)] (.row 0 true []) := Spec.of_runP' (eqs := []) hG Tryz.func146 (ro := []) (m := 60) [] [] (fun e he => by cases he) (by kernel_rfl)
theorem cl_some (hG : Steady G) (a : Addr) (cap : Nat) : Spec Tryz.prog G 146 [.lit (.slice (some a) 0 cap)] (.row 0 true []) := Spec.of_runP' (eqs := []) hG Tryz.func146 (ro := []) (m := 60) [] [] (fun e he => by cases he) (by kernel_rfl)
theorem cl_empty (hG : Steady G) : Spec Tryz.prog G 146 [.row 0 false []] (.row 0 true []) := by
  intro w F vals hg hr hF
  match vals, hr with
  | [v], hr =>
    obtain ⟨ad, cap, us, e1, e2, e3, e4, e5, e6⟩ := row_val hr.head
    subst e1
    cases ad with
    | none => exact cl_nil hG cap w F _ hg (Reps.cons (.lit _) Reps.nil) hF
    | some a => exact cl_some hG a cap w F _ hg (Reps.cons (.lit _) Reps.nil) hF
  | [], hr => have := hr.1; simp at this
  | _ :: _ :: _, hr => have := hr.1; simp at this
end Fb
end Lw
