/- The statement about cosines and sines, for turns of any length. No condition. -/
import Derived.Test.YtfdllnbmjlhliaaGreatDoorLwUa
import Derived.SizedLaws
namespace Lw
open Go Go.RowKit Go.Proofs Go.ChangeShapes Go.WideShapes Go.ChangeAt

section
variable {H : Type} {enc : TypeId × Value → H} {W : World} {fuel : Nat} {cs : List Value} {x : DataW H × List MemPlace}

/-- How many places a slice has that was read. -/
def places : DataW H → Nat
  | .slice es sp => es.length + sp.length
  | _ => 0
theorem row_len {w : World} {X : Nat → Prop} {a : Option Addr} {len cap n : Nat} {f : Bool} {xs : List D} (h : RepP w X (.slice a len cap) (.row n f xs)) : n = len := by cases h; rfl
theorem lits_len (k : IntKind) (l : List Int) : (lits (H := H) k l).length = l.length := by simp [lits]
theorem open_wordsB (h : DataW.trod enc Tryz.prog W 0 (fun _ => true) true fuel 22 cs = some x) : ∃ l : List Nat, Dig l ∧ Reps W NoX cs [rowW l] ∧ l.length ≤ places x.1 := by
  obtain ⟨l, h1, h2⟩ := open_words h
  refine ⟨l, h1, h2, ?_⟩
  rcases open_ints Tryz.underlying22 Tryz.underlying111 cells_u32 h with ⟨rfl, rfl⟩ | ⟨a, len, cap, zs, rfl, -, hl, hm, hz, rfl, -, -⟩
  · have h3 := h2.head
    unfold rowW at h3
    exact Nat.le_of_eq (row_len h3)
  · have h3 := h2.head
    unfold rowW at h3
    simp only [if_true] at hz
    have : l.length = len := row_len h3
    show l.length ≤ (lits (H := H) _ (zs.take len)).length + (lits (H := H) _ (zs.drop len)).length
    rw [lits_len, lits_len, List.length_take, List.length_drop]
    omega
theorem words_reach {d : DataW H} (h : ∀ n ∈ d.weights Tryz.prog 22, n ≤ reachBytes) : places d ≤ 35184372087808 := by
  cases d with
  | slice es sp =>
    have e : Tryz.prog.bytesOf 111 = 4 := by kernel_rfl
    have := h ((es.length + sp.length) * 4) (by unfold DataW.weights; rw [Tryz.underlying22]; simp [e])
    have e2 : reachBytes = 140737488351232 := rfl
    show es.length + sp.length ≤ 35184372087808
    omega
  | _ => exact Nat.zero_le _
def Raw.far (r : Raw) : Prop := r.n.length ≤ 35184372087808 ∧ r.d.length ≤ 35184372087808
theorem open_ratB (h : DataW.trod enc Tryz.prog W 0 (fun _ => true) true fuel 24 cs = some x) (hw : ∀ n ∈ x.1.weights Tryz.prog 24, n ≤ reachBytes) : ∃ r : Raw, (Dig r.n ∧ Dig r.d) ∧ r.far ∧ Reps W NoX cs [bool r.s, rowW r.n, rowW r.d] := by
  obtain ⟨xs, n, -, hxd, hc, hx, hf⟩ := DataW.trod_struct Tryz.underlying24 h
  rw [cells_rat] at hc
  obtain ⟨c0, c1, c2, rfl⟩ := three hc
  have hx3 : xs.length = 3 := hx
  obtain ⟨y0, y1, y2, rfl⟩ := three hx3
  have f0 := field_read hf 0 _ rfl (t := 4) (off := 0) rfl rfl cells_bool
  have f1 := field_read hf 1 _ rfl (t := 22) (off := 1) rfl rfl cells_words
  have f2 := field_read hf 2 _ rfl (t := 22) (off := 2) rfl rfl cells_words
  have f0 : DataW.trod enc Tryz.prog W 0 (fun _ => true) true n 4 [c0] = some y0 := f0
  have f1 : DataW.trod enc Tryz.prog W 0 (fun _ => true) true n 22 [c1] = some y1 := f1
  have f2 : DataW.trod enc Tryz.prog W 0 (fun _ => true) true n 22 [c2] = some y2 := f2
  obtain ⟨b, hb, -⟩ := DataW.trod_bool Tryz.underlying4 f0
  obtain ⟨l1, d1, r1, p1⟩ := open_wordsB f1
  obtain ⟨l2, d2, r2, p2⟩ := open_wordsB f2
  simp only [List.cons.injEq, and_true] at hb
  subst hb
  subst hxd
  have w1 : ∀ n ∈ y1.1.weights Tryz.prog 22, n ≤ reachBytes := fun n hn => hw n (by
    unfold DataW.weights
    rw [Tryz.underlying24]
    exact DataW.weights_mem_each (j := 1) rfl rfl n hn)
  have w2 : ∀ n ∈ y2.1.weights Tryz.prog 22, n ≤ reachBytes := fun n hn => hw n (by
    unfold DataW.weights
    rw [Tryz.underlying24]
    exact DataW.weights_mem_each (j := 2) rfl rfl n hn)
  exact ⟨⟨b, l1, l2⟩, ⟨d1, d2⟩, ⟨Nat.le_trans p1 (words_reach w1), Nat.le_trans p2 (words_reach w2)⟩, Reps.cons (.lit _) (Reps.append r1 r2)⟩
theorem turn_argB {v : Value} {d : DataW H} {ps : List MemPlace} (h : DataW.Trod enc Tryz.prog W 0 (fun _ => true) true 26 v d ps) (hw : ∀ n ∈ d.weights Tryz.prog 26, n ≤ reachBytes) : ∃ r : RTn, r.digs ∧ r.t.far ∧ RepP W NoX v r.dat := by
  obtain ⟨f, h⟩ := h
  obtain ⟨xs, n, -, hxd, hc, hx, hf⟩ := DataW.trod_struct Tryz.underlying26 h
  rw [cells_turn] at hc
  have hx2 : xs.length = 2 := hx
  obtain ⟨y0, e0⟩ := some_of (l := xs) (i := 0) (by omega)
  obtain ⟨y1, e1⟩ := some_of (l := xs) (i := 1) (by omega)
  have f0 := field_read hf 0 _ rfl (t := 24) (off := 0) rfl rfl cells_rat
  have f1 := field_read hf 1 _ rfl (t := 4) (off := 3) rfl rfl cells_bool
  rw [e0] at f0
  rw [e1] at f1
  have hd : d = .agg (xs.map (·.1)) := congrArg Prod.fst hxd
  have w0 : ∀ n ∈ y0.1.weights Tryz.prog 24, n ≤ reachBytes := fun n hn => hw n (by
    rw [hd]
    unfold DataW.weights
    rw [Tryz.underlying26]
    exact DataW.weights_mem_each (j := 0) rfl (by rw [List.getElem?_map, e0]; rfl) n hn)
  obtain ⟨r1, a1, a2, q1⟩ := open_ratB f0 w0
  obtain ⟨b, hb, -⟩ := DataW.trod_bool Tryz.underlying4 f1
  refine ⟨⟨r1, b⟩, a1, a2, rep_agg (n := 2) hc (Reps.two (a := 3) (b := 1) hc q1 (by rw [hb]; exact Reps.cons (.lit _) Reps.nil))⟩
end

variable {G : World → Prop}

theorem one_cos {t : Rat} : t * (1 + cosT t false) = sinT t false ∧ 0 < 1 + cosT t false := by
  have hc := cosT_mul t
  have hs := sinT_mul t
  have hd := dnT_ne t
  have hn := sq_nonneg t
  generalize cosT t false = c at *
  generalize sinT t false = s at *
  have e : (1 + c) * (1 + t * t) = 2 := by grind
  constructor
  · refine cancel hd ?_
    have : t * (1 + c) * (1 + t * t) = t * ((1 + c) * (1 + t * t)) := by grind
    rw [this, e, hs]
    grind
  · by_cases h : 0 < 1 + c
    · exact h
    · have h := Rat.not_lt.1 h
      have h1 : 0 ≤ -(1 + c) := by grind
      have h2 := Rat.mul_nonneg h1 (b := 1 + t * t) (by grind)
      have h3 : -(1 + c) * (1 + t * t) = -2 := by grind
      rw [h3] at h2
      exact absurd h2 (by decide +kernel)
theorem sgn_pos {a : Rat} (h : 0 < a) : sgn a = 1 := by
  rcases sgn_cases a with ⟨h1, e⟩ | ⟨h1, e⟩ | ⟨h1, e⟩
  · exact absurd h1 (Rat.not_lt.2 (Rat.le_of_lt h))
  · rw [h1] at h; exact absurd h (by decide +kernel)
  · exact e
theorem cmp_bne {a b : Rat} (h : a = b) : (cmpQ a b != 0) = false := by
  have := cmp_eq h
  rw [beq_iff_eq] at this
  rw [this]; rfl
theorem Unit_spec (hG : Steady G) {r : RTn} (hr : r.digs) (hf : r.t.far) : Spec Tryz.prog G 7 [r.dat] (bool true) := by
  have aw := awake17_spec (G := G) hG
  have ko : r.ok KBB := ⟨hr.1, hr.2, hf.1, hf.2, by rw [KBB_eq]; omega⟩
  have rt := PRTurn_specB (G := G) hG ko (Nat.le_refl _)
  cases hv : r.valid with
  | false =>
    rw [hv] at rt
    exact Spec.of_run hG Tryz.func7 (ro := [1]) (m := 60) [.call aw, .call rt, .call aw] (by kernel_rfl)
  | true =>
    rw [hv] at rt
    by_cases g1 : r.t.n.length ≤ 2
    case neg => exact Spec.of_run hG Tryz.func7 (ro := [1]) (m := 60) [.call aw, .call rt, .eq 19 (Lw.eqB (gt2_true g1)), .call aw] (by kernel_rfl)
    by_cases g2 : r.t.d.length ≤ 2
    case neg => exact Spec.of_run hG Tryz.func7 (ro := [1]) (m := 60) [.call aw, .call rt, .eq 19 (Lw.eqB (gt2_false g1)), .eq 26 (Lw.eqB (gt2_true g2)), .call aw] (by kernel_rfl)
    have kb := KB_eq
    have kr : r.t.ok 2 := ⟨hr.1, hr.2, g1, g2, by omega⟩
    obtain ⟨ec, vt⟩ := RTn.canon hv
    have su : SzQ 2 r.t.q := Raw.ok.sz kr
    have di := PDir_ok (G := G) hG su vt (by omega)
    rw [← ec] at di
    have sc := su.cosT r.h
    have ss := su.sinT r.h
    have m1 := FMul_spec (G := G) hG sc.isQ sc.isQ (by omega) (by omega)
    have m2 := FMul_spec (G := G) hG ss.isQ ss.isQ (by omega) (by omega)
    have ad := FAdd_spec (G := G) hG (sc.mul sc).isQ (ss.mul ss).isQ (by omega) (by omega)
    rw [unit_T] at ad
    have c1 := FCmp_spec (G := G) hG sz_1.isQ sz_1.isQ (by omega) (by omega)
    obtain ⟨t, h⟩ := r
    cases h with
    | true =>
      have c2 := FCmp_spec (G := G) hG sz_m1.isQ sz_m1.isQ (by omega) (by omega)
      exact Spec.of_run hG Tryz.func7 (ro := [1]) (m := 60)
        [.call aw, .call rt, .eq 19 (Lw.eqB (gt2_false g1)), .eq 26 (Lw.eqB (gt2_false g2)), .call di, .call (FOne hG), .call m1, .call m2, .call ad, .call c1, .eq 48 (Lw.eqB (cmp_bne (a := 1) rfl)), .call (FMinus hG), .call c2, .eq 55 (Lw.eqB (cmp_eq (a := -1) rfl))] (by kernel_rfl)
    | false =>
      obtain ⟨e1, e2⟩ := one_cos (t := t.q)
      have a1 := FAdd_spec (G := G) hG sz_1.isQ sc.isQ (by omega) (by omega)
      have sz1 := sz_1.add sc
      have m3 := FMul_spec (G := G) hG (Raw.ok.isQ kr) sz1.isQ (by omega) (by omega)
      have c2 := FCmp_spec (G := G) hG (su.mul sz1).isQ ss.isQ (by omega) (by omega)
      have sg := FSign_spec (G := G) hG sz1.isQ (by omega)
      have e2' : 0 < 1 + cosT t.q false := e2
      have e1' : t.q * (1 + cosT t.q false) = sinT t.q false := e1
      have sg' : Spec Tryz.prog G 30 [F (1 + cosT t.q false)] (int 1) := by rw [← sgn_pos e2']; exact sg
      exact Spec.of_run hG Tryz.func7 (ro := [1]) (m := 60)
        [.call aw, .call rt, .eq 19 (Lw.eqB (gt2_false g1)), .eq 26 (Lw.eqB (gt2_false g2)), .call di, .call (FOne hG), .call m1, .call m2, .call ad, .call c1, .eq 48 (Lw.eqB (cmp_bne (a := 1) rfl)), .call a1, .call m3, .call c2, .eq 64 (Lw.eqB (cmp_eq e1')), .call a1, .call sg'] (by kernel_rfl)
end Lw
