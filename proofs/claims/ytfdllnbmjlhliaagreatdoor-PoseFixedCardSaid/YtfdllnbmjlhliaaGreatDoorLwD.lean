/- 'eff' tells the truth, second half: places, slices, calls, and all together. No condition. -/
import Derived.Test.YtfdllnbmjlhliaaGreatDoorLwC
import Derived.Laws.MakeOwn
import Derived.Laws.AppendOwn
namespace Lw
open Go Go.RowKit

variable {c : Ctx} {n : Nat} {s : FS} {a : Act} {w : World} {β : Nat → Nat} {X : Nat → Prop}

theorem size_run {t : TypeId} {sz : Nat} {P : Program} (w : World) (hs : tySize P t = some sz) : (Go.sizeOf t).run P w = .ok sz w := by
  unfold tySize at hs
  cases hi : P.info? t with
  | none => rw [hi] at hs; cases hs
  | some i => rw [hi] at hs; simp only [Option.map_some, Option.some.injEq] at hs; subst hs; simp [Go.sizeOf, typeInfo, hi]
theorem field_run {P : Program} {t : TypeId} {f off : Nat} {ft : TypeId} (e : tyField P t f = some (off, ft)) :
    ∃ fields fd, P.underlying t = some (.struct fields) ∧ fields[f]? = some fd ∧ fd.offset = off ∧ fd.type = ft := by
  unfold tyField at e
  split at e
  · rename_i fields h1
    cases hf : fields[f]? with
    | none => rw [hf] at e; cases e
    | some fd =>
      rw [hf] at e
      simp only [Option.map_some, Option.some.injEq, Prod.mk.injEq] at e
      exact ⟨fields, fd, h1, hf, e.1, e.2⟩
  · cases e
theorem elem_slice {P : Program} {t : TypeId} {e : TypeId} (h : tyElem P t = some (none, e)) : P.underlying t = some (.slice e) := by
  unfold tyElem at h
  split at h
  · rename_i e1 h1
    simp only [Option.some.injEq, Prod.mk.injEq, true_and] at h
    rw [h1, h]
  · simp at h
  · cases h
theorem elem_array {P : Program} {t : TypeId} {n : Nat} {e : TypeId} (h : tyElem P t = some (some n, e)) : P.underlying t = some (.array n e) := by
  unfold tyElem at h
  split at h
  · simp at h
  · rename_i n1 e1 h1
    simp only [Option.some.injEq, Prod.mk.injEq] at h
    rw [h1, h.1, h.2]
  · cases h
theorem agg_run {t : TypeId} {ag : Bool} {P : Program} (w : World) (ha : tyAgg P t = some ag) : (isAgg t).run P w = .ok ag w := by
  unfold tyAgg at ha
  cases hu : P.underlying t with
  | none => rw [hu] at ha; cases ha
  | some d =>
    rw [hu] at ha
    simp only [Option.map_some, Option.some.injEq] at ha
    rw [← ha]
    cases d <;> simp [isAgg, run_underlying hu]
theorem rptr_mk {ad : Addr} {us : List Value} {xs : List D} (hr : Reps w X us xs) (hm : ∀ i (h : i < us.length), ¬ X ad.block ∧ w.cell? (ad.add i) = some us[i]) :
    RepP w X (.pointer (some ad)) (.rptr xs) := .rptr ad us xs hr.1 hm hr.2
theorem rptr_drop {ad : Addr} {us : List Value} {xs : List D} (hr : Reps w X us xs) (hm : ∀ i (h : i < us.length), ¬ X ad.block ∧ w.cell? (ad.add i) = some us[i]) (k : Nat) :
    RepP w X (.pointer (some (ad.add k))) (.rptr (xs.drop k)) := by
  refine rptr_mk (hr.drop k) fun i hi => ?_
  have h1 : k + i < us.length := by simp at hi; omega
  obtain ⟨h2, h3⟩ := hm (k + i) h1
  exact ⟨by rw [Addr.block_add]; exact h2, by rw [Addr.add_add, h3, List.getElem_drop]⟩
/-- A part of an aggregate. -/
theorem part_run {t : TypeId} {sz : Nat} {ag : Bool} {P : Program} (hs : tySize P t = some sz) (ha : tyAgg P t = some ag) {us : Array Value} {cs : List D} (hr : Reps w X us.toList cs) {off : Nat} (hlt : off < cs.length) :
    ∃ v, (part t us off).run P w = .ok v w ∧ RepP w X v (if ag then .agg ((cs.drop off).take sz) else (cs.drop off).headD .any) := by
  cases ag with
  | true =>
    refine ⟨.agg (us.extract off (off + sz)), by simp [part, agg_run w ha, size_run w hs], ?_⟩
    have := RepP.ofReps ((hr.drop off).take sz)
    have e : ((us.toList.drop off).take sz).toArray = us.extract off (off + sz) := by
      apply Array.toList_inj.1
      simp [Array.toList_extract]
    rw [e] at this; exact this
  | false =>
    have h1 : off < us.size := by have := hr.1; simp at this; omega
    refine ⟨us[off], by simp [part, agg_run w ha, h1], ?_⟩
    have := hr.2 off (by simpa using h1) hlt
    have e : (cs.drop off).headD .any = cs[off] := by
      rw [List.drop_eq_getElem_cons hlt]; rfl
    simp only [Bool.false_eq_true, if_false, e]
    simpa using this
theorem agg_val {v : Value} {cs : List D} (hv : RepP w X v (.agg cs)) : ∃ us : Array Value, v = .agg us ∧ Reps w X us.toList cs := by
  cases hv with
  | agg us _ hl hr => exact ⟨us.toArray, rfl, by simpa using hl, fun i h1 h2 => by simpa using hr i (by simpa using h1) h2⟩
theorem row_val {v : Value} {len : Nat} {full : Bool} {xs : List D} (hv : RepP w X v (.row len full xs)) :
    ∃ ad cap us, v = .slice ad len cap ∧ len ≤ cap ∧ cap ≤ maxLen ∧ (full = true → cap = len) ∧ Reps w X us xs ∧
      ∀ i (h : i < us.length), ∃ a', ad = some a' ∧ ¬ X a'.block ∧ w.cell? (a'.add i) = some us[i] := by
  cases hv with
  | row ad len cap full us _ hl hlen hcap hf hm hr => exact ⟨ad, cap, us, rfl, hlen, hcap, hf, ⟨hl, hr⟩, hm⟩
theorem str_under {P : Program} {t : TypeId} (h : tyStr P t = true) : P.underlying t = some .string := by
  unfold tyStr at h
  split at h
  · assumption
  · cases h
theorem str_val {v : Value} {d : D} {s : ByteArray} (hv : RepP w X v d) (h : d.str = some s) : v = .string s := by
  cases hv with
  | lit v => cases v <;> simp only [D.str, Option.some.injEq, reduceCtorEq] at h; subst h; rfl
  | _ => simp [D.str] at h
theorem str_ref {d : D} {s : ByteArray} (h : d.str = some s) : d.ref = none := by cases d <;> simp [D.str, D.ref] at h ⊢
theorem tup_val {v : Value} {cs : List D} (hv : RepP w X v (.tup cs)) : ∃ us : Array Value, v = .tuple us ∧ Reps w X us.toList cs := by
  cases hv with
  | tup us _ hl hr => exact ⟨us.toArray, rfl, by simpa using hl, fun i h1 h2 => by simpa using hr i (by simpa using h1) h2⟩

theorem bound_run {P : Program} (w : World) {k : IntKind} {i : Int} {y : Nat} {code : BoundsCode} (h1 : 0 ≤ i) (h2 : i ≤ y) : (Instr.sliceBound (.int k i) y code).run P w = .ok i.toNat w := by
  simp [Instr.sliceBound, asIntOf, h1, h2]
theorem gsl_val {v : Value} {b n size : Nat} (hv : RepV β w X v (.gsl b n size)) : ∃ cap e, v = .slice (some ⟨β b, 0, none⟩) n cap ∧ n ≤ cap ∧ cap ≤ maxLen ∧ w.shape? (β b) = some (e, cap * size) := by
  cases hv with
  | p hp => cases hp
  | gsl _ _ _ cap e h1 h2 h3 => exact ⟨cap, e, rfl, h1, h2, h3⟩
/-- What is appended. -/
theorem news_cells {v : Value} {q : Nat} {full : Bool} {ys : List D} (hv : RepP w X v (.row q full ys)) {sz : Nat} (hl : ys.length = q * sz) (hq : 0 < q) (h0 : 0 < sz) :
    ∃ a' cap' us', v = .slice (some a') q cap' ∧ us'.length = q * sz ∧ Reps w X us' ys ∧ ∀ j u, us'[j]? = some u → w.cell? (a'.add j) = some u := by
  obtain ⟨ad', cap', us', f1, f2, f3, f4, f5, f6⟩ := row_val hv
  have hul' : us'.length = q * sz := by rw [f5.1]; exact hl
  have hpos : 0 < us'.length := by rw [hul']; exact Nat.mul_pos hq h0
  obtain ⟨a', rfl, _, _⟩ := f6 0 hpos
  refine ⟨a', cap', us', f1, hul', f5, fun j u hj => ?_⟩
  obtain ⟨h1, rfl⟩ := List.getElem?_eq_some_iff.1 hj
  obtain ⟨a2, q1, _, q3⟩ := f6 j h1
  cases q1; exact q3
/-- Append onto a slice without room: new cells. -/
theorem append_fresh {P : Program} {t e ty : TypeId} {i : TypeInfo} {z : Value} {p q : Nat} {xs ys : List D} {v v' : Value} {full : Bool} (he : P.underlying t = some (.slice e)) (hi : P.info? e = some i) (hz : i.zero = some z) (hzs : z.cells.size = i.size) (h0 : 0 < i.size)
    (hx : RepP w X v (.row p true xs)) (hy : RepP w X v' (.row q full ys)) (hq : 0 < q)
    (hn : xs.length = p * i.size ∧ ys.length = q * i.size ∧ p + q ≤ 2 ^ 62 ∧ (p + q) * i.bytes ≤ 2 ^ 47) :
    ∃ us cap, (Builtin.append_ #[t, t] ty #[v, v']).run P w = .ok (.slice (some ⟨w.heap.size, 0, none⟩) (p + q) cap) (w.drew.alloc (.cells us e)) ∧ p + q ≤ cap ∧ cap ≤ maxLen ∧ us.size = cap * i.size ∧
      (xs ++ ys).length ≤ us.size ∧ Reps w X (us.toList.take (xs ++ ys).length) (xs ++ ys) := by
  obtain ⟨ad, cap, us, rfl, e2, e3, e4, e5, e6⟩ := row_val hx
  obtain ⟨a', cap', us', rfl, hul', f5, hnews⟩ := news_cells hy hn.2.1 hq h0
  obtain rfl := e4 rfl
  have hul : us.length = cap * i.size := by rw [e5.1]; exact hn.1
  have hby : (cap + q) * i.bytes ≤ 140737488355328 := by
    have h47 : (2:Nat) ^ 47 = 140737488355328 := by decide
    have := hn.2.2.2; omega
  have key : ∀ (old : Nat), (Builtin.append_ #[t, t] ty #[.slice ad cap cap, .slice (some a') q cap']).run P w = .ok (.slice (some ⟨w.heap.size, 0, none⟩) (cap + q) (grownCap w (cap + q) old e))
        (w.drew.alloc (.cells (us.toArray ++ us'.toArray ++ Builtin.zeroCells z.cells (grownCap w (cap + q) old e - (cap + q))) e)) →
      ∃ us2 cap2, (Builtin.append_ #[t, t] ty #[.slice ad cap cap, .slice (some a') q cap']).run P w = .ok (.slice (some ⟨w.heap.size, 0, none⟩) (cap + q) cap2) (w.drew.alloc (.cells us2 e)) ∧ cap + q ≤ cap2 ∧ cap2 ≤ maxLen ∧ us2.size = cap2 * i.size ∧
        (xs ++ ys).length ≤ us2.size ∧ Reps w X (us2.toList.take (xs ++ ys).length) (xs ++ ys) := by
    intro old hr
    have hge := grownCap_ge w (cap + q) old e
    have hl2 : (xs ++ ys).length = (us ++ us').length := by simp [e5.1, f5.1]
    refine ⟨_, _, hr, hge, grownCap_le_maxLen _ _ _ _ (by unfold maxLen; omega), ?_, ?_, ?_⟩
    · simp only [Array.size_append, List.size_toArray, size_zeroCells, hzs, hul, hul', ← Nat.add_mul]
      congr 1; omega
    · rw [hl2]; simp
    · rw [hl2]
      have : (us.toArray ++ us'.toArray ++ Builtin.zeroCells z.cells (grownCap w (cap + q) old e - (cap + q))).toList.take (us ++ us').length = us ++ us' := by
        simp only [Array.toList_append, List.append_assoc]
        rw [← List.append_assoc, List.take_left]
      rw [this]
      exact e5.append f5
  cases ad with
  | none =>
    have hc0 : cap = 0 := by
      rcases Nat.eq_zero_or_pos cap with hc | hc
      · exact hc
      · have hp : 0 < us.length := by rw [hul]; exact Nat.mul_pos hc h0
        obtain ⟨a2, q1, _⟩ := e6 0 hp
        cases q1
    subst hc0
    have hus : us = [] := List.eq_nil_of_length_eq_zero (by omega)
    subst hus
    have hr := run_append_nil (P := P) w t ty e i z he hi hz a' q cap' us' hul' hnews hq (by omega) (by rw [Nat.zero_add] at hby; omega)
    refine key 0 ?_
    simpa using hr
  | some a1 =>
    have holds : ∀ j v, us[j]? = some v → w.cell? (a1.add j) = some v := by
      intro j v hj
      obtain ⟨h1, rfl⟩ := List.getElem?_eq_some_iff.1 hj
      obtain ⟨a2, q1, _, q3⟩ := e6 j h1
      cases q1; exact q3
    exact key cap (run_append_grow (P := P) w t ty e i z he hi hz a1 cap cap us hul holds a' q cap' us' hul' hnews (by omega) (by omega) (growslice_fits (by omega) hby))
theorem append_exec {o : Oper} {k : Call} {x y : Operand} {t : TypeId} (ho : o.op = .call k) (hk : k.callee = .builtin .append) (ha : k.args.toList = [x, y]) (ht : k.argTypes.toList = [t, t]) {v : Value} {w' : World}
    (hr : (Builtin.append_ #[t, t] o.type #[a.eval x, a.eval y]).run c.P w = .ok v w') : (execOp a.eval o).run c.P w = .ok (.value v) w' := by
  have ha' : k.args = #[x, y] := by apply Array.toList_inj.1; simpa using ha
  have ht' : k.argTypes = #[t, t] := by apply Array.toList_inj.1; simpa using ht
  simp [execOp, ho, resolve, hk, invoke, builtin, ha', ht', hr]
theorem run_append_spare {P : Program} (w : World) (t ty e e' : TypeId) (i : TypeInfo) (ht : P.underlying t = some (.slice e)) (hi : P.info? e = some i)
    (g sLen sCap : Nat) (cur : Array Value) (hg : w.heap[g]? = some (.cells cur e' (0, 0)))
    (a : Addr) (m c : Nat) (news : List Value) (hl : news.length = m * i.size) (hnews : ∀ j u, news[j]? = some u → w.cell? (a.add j) = some u) (h1 : ∀ u ∈ news, u.oneCell' = true)
    (hroom : sLen + m ≤ sCap) (hfit : sLen * i.size + news.length ≤ cur.size) :
    (Builtin.append_ #[t, t] ty #[.slice (some ⟨g, 0, none⟩) sLen sCap, .slice (some a) m c]).run P w =
      .ok (.slice (some ⟨g, 0, none⟩) (sLen + m) sCap) (w.setRow g (cur.toList.take (sLen * i.size) ++ news ++ cur.toList.drop (sLen * i.size + news.length)).toArray) := by
  have hf := run_firstCells_some (P := P) w i.size m a m c news hl hnews
  have hst := run_storeCells_at P g (sLen * i.size) e' news 0 cur w hg (by simpa using hfit) h1
  simp only [Nat.add_zero] at hst
  simp [Builtin.append_, run_underlying ht, Go.sizeOf, typeInfo, hi, Builtin.lenOf, hroom, hf, Addr.lit_add, hst]
section ops
variable (h : RelB c n s a w β X) {o : Oper} {nb : Nat}
include h

theorem ok_fieldAddr_ptr {t : TypeId} {x : Operand} {f off o' b : Nat} {ft : TypeId} {sz : Nat} (ho : o.op = .fieldAddr t x f) (e : tyField c.P t f = some (off, ft)) (hs : tySize c.P ft = some sz) (h0 : 0 < sz)
    (hx : s.ev x = .ptr b o') : EffOk c n s a w β X nb o (.val (.ptr b (o' + off))) := by
  have hv := ev_rep h x
  rw [hx] at hv
  have hnd := ev_nd h x b (by rw [hx]; rfl)
  obtain ⟨fields, fd, h1, h2, h3, h4⟩ := field_run e
  subst h3 h4
  refine .same (v := .pointer (some ⟨β b, o' + fd.offset, none⟩)) ?_ (.ptr b _) (fun b' hb' => by simp only [D.ref, Option.some.injEq] at hb'; subst hb'; exact hnd)
  simp [execOp, ho, Instr.fieldAt, run_underlying h1, h2, ptr_val hv, Instr.sureAddr, fieldPlace, size_run w hs, Addr.lit_add]
  intro hz; omega
theorem ok_fieldAddr_rptr {t : TypeId} {x : Operand} {f off : Nat} {ft : TypeId} {sz : Nat} {cs : List D} (ho : o.op = .fieldAddr t x f) (e : tyField c.P t f = some (off, ft)) (hs : tySize c.P ft = some sz) (h0 : 0 < sz)
    (hx : s.ev x = .rptr cs) : EffOk c n s a w β X nb o (.val (.rptr (cs.drop off))) := by
  have hv := ev_rep h x
  rw [hx] at hv
  obtain ⟨fields, fd, h1, h2, h3, h4⟩ := field_run e
  subst h3 h4
  obtain ⟨ad, us, e1, e2, e3⟩ := rptr_cells (hv.pure rfl)
  refine .same (v := .pointer (some (ad.add fd.offset))) ?_ (.p (rptr_drop e2 e3 _)) (fun b' hb' => by simp [D.ref] at hb')
  simp [execOp, ho, Instr.fieldAt, run_underlying h1, h2, e1, Instr.sureAddr, fieldPlace, size_run w hs]
  intro hz; omega
theorem ok_field {t : TypeId} {x : Operand} {f off : Nat} {ft : TypeId} {sz : Nat} {ag : Bool} {cs : List D} (ho : o.op = .field t x f) (e : tyField c.P t f = some (off, ft)) (hs : tySize c.P ft = some sz) (ha : tyAgg c.P ft = some ag)
    (hx : s.ev x = .agg cs) (hlt : off < cs.length) : EffOk c n s a w β X nb o (.val (if ag then .agg ((cs.drop off).take sz) else (cs.drop off).headD .any)) := by
  have hv := ev_rep h x
  rw [hx] at hv
  obtain ⟨fields, fd, h1, h2, h3, h4⟩ := field_run e
  subst h3 h4
  obtain ⟨us, e1, e2⟩ := agg_val (hv.pure rfl)
  obtain ⟨v, hrun, hrep⟩ := part_run hs ha e2 hlt
  refine .same (v := v) ?_ (.p hrep) (fun b' hb' => by rw [repP_ref hrep] at hb'; cases hb')
  simp [execOp, ho, Instr.field, run_underlying h1, h2, e1, asAgg, hrun]
theorem ok_index {t : TypeId} {x ix : Operand} {i : Int} {k : IntKind} {m : Nat} {e : TypeId} {sz : Nat} {ag : Bool} {cs : List D} (ho : o.op = .index t x ix) (he : tyElem c.P t = some (some m, e))
    (hs : tySize c.P e = some sz) (ha : tyAgg c.P e = some ag) (hix : (s.ev ix).toVal = some (.int k i)) (hx : s.ev x = .agg cs) (hi : 0 ≤ i ∧ i < m) (hlt : i.toNat * sz < cs.length) :
    EffOk c n s a w β X nb o (.val (if ag then .agg ((cs.drop (i.toNat * sz)).take sz) else (cs.drop (i.toNat * sz)).headD .any)) := by
  have hv := ev_rep h x
  rw [hx] at hv
  obtain ⟨us, e1, e2⟩ := agg_val (hv.pure rfl)
  obtain ⟨v, hrun, hrep⟩ := part_run hs ha e2 hlt
  refine .same (v := v) ?_ (.p hrep) (fun b' hb' => by rw [repP_ref hrep] at hb'; cases hb')
  simp [execOp, ho, Instr.index, run_underlying (elem_array he), ev_val h hix, asIntOf, e1, hi, size_run w hs, hrun]
theorem ok_index_str {t : TypeId} {x ix : Operand} {i : Int} {k : IntKind} {b : ByteArray} (ho : o.op = .index t x ix) (he : tyStr c.P t = true)
    (hix : (s.ev ix).toVal = some (.int k i)) (hx : (s.ev x).str = some b) (hi : 0 ≤ i ∧ i.toNat < b.size) : EffOk c n s a w β X nb o (.val (.lit (.int .u8 ((b[i.toNat]?).getD 0).toNat))) := by
  have hv := str_val ((ev_rep h x).pure (str_ref hx)) hx
  refine .same (v := .int .u8 ((b[i.toNat]?).getD 0).toNat) ?_ (.p (.lit _)) (fun b' hb' => by simp [D.ref] at hb')
  simp [execOp, ho, Instr.index, run_underlying (str_under he), ev_val h hix, asIntOf, hv, hi]
theorem ok_slice_str {t : TypeId} {x : Operand} {lo hi : Option Operand} {k1 k2 : IntKind} {l u : Int} {b : ByteArray} (ho : o.op = .slice t x lo hi none) (he : tyStr c.P t = true) (hx : (s.ev x).str = some b)
    (hlo : (match lo with | some l => (s.ev l).toVal | none => none) = some (.int k1 l)) (hhi : (match hi with | some h => (s.ev h).toVal | none => none) = some (.int k2 u)) (hb : 0 ≤ l ∧ l ≤ u ∧ u ≤ b.size) :
    EffOk c n s a w β X nb o (.val (.lit (.string (b.extract l.toNat u.toNat)))) := by
  have hv := str_val ((ev_rep h x).pure (str_ref hx)) hx
  cases lo with
  | none => cases hlo
  | some lo => cases hi with
    | none => cases hhi
    | some hi =>
      refine .same (v := .string (b.extract l.toNat u.toNat)) ?_ (.p (.lit _)) (fun b' hb' => by simp [D.ref] at hb')
      have e1 := ev_val h hlo
      have e2 := ev_val h hhi
      have r1 := bound_run (P := c.P) w (k := k2) (i := u) (y := b.size) (code := .sliceAlen) (by omega) (by omega)
      have r2 := bound_run (P := c.P) w (k := k1) (i := l) (y := u.toNat) (code := .sliceB) (by omega) (by omega)
      simp [execOp, ho, Instr.sliceAt, Instr.slice, run_underlying (str_under he), Instr.sliceBounds, hv, e1, e2, r1, r2]
theorem ok_indexAddr_row {t : TypeId} {x ix : Operand} {i : Int} {k : IntKind} {e : TypeId} {sz len : Nat} {full : Bool} {cs : List D} (ho : o.op = .indexAddr t x ix) (he : tyElem c.P t = some (none, e))
    (hs : tySize c.P e = some sz) (hix : (s.ev ix).toVal = some (.int k i)) (hx : s.ev x = .row len full cs) (hi : 0 ≤ i ∧ i < len) (hlt : i.toNat * sz < cs.length) :
    EffOk c n s a w β X nb o (.val (.rptr (cs.drop (i.toNat * sz)))) := by
  have hv := ev_rep h x
  rw [hx] at hv
  obtain ⟨ad, cap, us, e1, e2, e3, e4, e5, e6⟩ := row_val (hv.pure rfl)
  obtain ⟨a', rfl, _, _⟩ := e6 (i.toNat * sz) (by rw [e5.1]; exact hlt)
  refine .same (v := .pointer (some (a'.add (i.toNat * sz)))) ?_ (.p (rptr_drop e5 (fun j hj => ?_) _)) (fun b' hb' => by simp [D.ref] at hb')
  · simp [execOp, ho, Instr.indexAt, run_underlying (elem_slice he), ev_val h hix, asIntOf, e1, hi, size_run w hs]
  · obtain ⟨a2, q1, q2, q3⟩ := e6 j hj
    cases q1
    exact ⟨q2, q3⟩
theorem ok_indexAddr_slc {t : TypeId} {x ix : Operand} {i : Int} {k : IntKind} {e : TypeId} {sz b off len cap : Nat} (ho : o.op = .indexAddr t x ix) (he : tyElem c.P t = some (none, e))
    (hs : tySize c.P e = some sz) (hix : (s.ev ix).toVal = some (.int k i)) (hx : s.ev x = .slc b off len cap) (hi : 0 ≤ i ∧ i < len) :
    EffOk c n s a w β X nb o (.val (.ptr b (off + i.toNat * sz))) := by
  have hv := ev_rep h x
  rw [hx] at hv
  have hnd := ev_nd h x b (by rw [hx]; rfl)
  refine .same (v := .pointer (some ⟨β b, off + i.toNat * sz, none⟩)) ?_ (.ptr b _) (fun b' hb' => by simp only [D.ref, Option.some.injEq] at hb'; subst hb'; exact hnd)
  simp [execOp, ho, Instr.indexAt, run_underlying (elem_slice he), ev_val h hix, asIntOf, (slc_val hv).1, hi, size_run w hs, Addr.lit_add]
theorem ok_indexAddr_gsl {t : TypeId} {x ix : Operand} {i : Int} {k : IntKind} {e : TypeId} {sz b len size : Nat} (ho : o.op = .indexAddr t x ix) (he : tyElem c.P t = some (none, e))
    (hs : tySize c.P e = some sz) (hix : (s.ev ix).toVal = some (.int k i)) (hx : s.ev x = .gsl b len size) (hi : 0 ≤ i ∧ i < len) :
    EffOk c n s a w β X nb o (.val (.ptr b (i.toNat * sz))) := by
  have hv := ev_rep h x
  rw [hx] at hv
  have hnd := ev_nd h x b (by rw [hx]; rfl)
  obtain ⟨cap, e', e1, _⟩ := gsl_val hv
  refine .same (v := .pointer (some ⟨β b, i.toNat * sz, none⟩)) ?_ (.ptr b _) (fun b' hb' => by simp only [D.ref, Option.some.injEq] at hb'; subst hb'; exact hnd)
  simp [execOp, ho, Instr.indexAt, run_underlying (elem_slice he), ev_val h hix, asIntOf, e1, hi, size_run w hs, Addr.lit_add]
theorem ok_indexAddr_rptr {t : TypeId} {x ix : Operand} {i : Int} {k : IntKind} {m : Nat} {e : TypeId} {sz : Nat} {cs : List D} (ho : o.op = .indexAddr t x ix) (he : tyElem c.P t = some (some m, e))
    (hs : tySize c.P e = some sz) (hix : (s.ev ix).toVal = some (.int k i)) (hx : s.ev x = .rptr cs) (hi : 0 ≤ i ∧ i < m) :
    EffOk c n s a w β X nb o (.val (.rptr (cs.drop (i.toNat * sz)))) := by
  have hv := ev_rep h x
  rw [hx] at hv
  obtain ⟨ad, us, e1, e2, e3⟩ := rptr_cells (hv.pure rfl)
  refine .same (v := .pointer (some (ad.add (i.toNat * sz)))) ?_ (.p (rptr_drop e2 e3 _)) (fun b' hb' => by simp [D.ref] at hb')
  simp [execOp, ho, Instr.indexAt, run_underlying (elem_array he), ev_val h hix, asIntOf, e1, Instr.sureAddr, hi, size_run w hs]
theorem ok_indexAddr_ptr {t : TypeId} {x ix : Operand} {i : Int} {k : IntKind} {m : Nat} {e : TypeId} {sz b off : Nat} (ho : o.op = .indexAddr t x ix) (he : tyElem c.P t = some (some m, e))
    (hs : tySize c.P e = some sz) (hix : (s.ev ix).toVal = some (.int k i)) (hx : s.ev x = .ptr b off) (hi : 0 ≤ i ∧ i < m) :
    EffOk c n s a w β X nb o (.val (.ptr b (off + i.toNat * sz))) := by
  have hv := ev_rep h x
  rw [hx] at hv
  have hnd := ev_nd h x b (by rw [hx]; rfl)
  refine .same (v := .pointer (some ⟨β b, off + i.toNat * sz, none⟩)) ?_ (.ptr b _) (fun b' hb' => by simp only [D.ref, Option.some.injEq] at hb'; subst hb'; exact hnd)
  simp [execOp, ho, Instr.indexAt, run_underlying (elem_array he), ev_val h hix, asIntOf, ptr_val hv, Instr.sureAddr, hi, size_run w hs, Addr.lit_add]
theorem ok_extract {x : Operand} {i : Nat} {ds : List D} {d : D} (ho : o.op = .extract x i) (hx : s.ev x = .tup ds) (hd : ds[i]? = some d) : EffOk c n s a w β X nb o (.val d) := by
  have hv := ev_rep h x
  rw [hx] at hv
  obtain ⟨us, e1, e2⟩ := tup_val (hv.pure rfl)
  obtain ⟨h1, rfl⟩ := List.getElem?_eq_some_iff.1 hd
  have h2 : i < us.size := by have := e2.1; rw [Array.length_toList] at this; omega
  have hr := e2.2 i (by simpa using h2) h1
  refine .same (v := us[i]) ?_ (.p (by simpa using hr)) (fun b' hb' => by rw [repP_ref hr] at hb'; cases hb')
  simp [execOp, ho, Instr.extract, e1, h2]
theorem ok_binOp {op : BinOp} {t u : TypeId} {x y : Operand} {va vb v : Value} (ho : o.op = .binOp op t x y u) (hx : (s.ev x).toVal = some va) (hy : (s.ev y).toVal = some vb)
    (hv : pureRun c.P (do eqGuard op t x y va vb; binOp op t va vb) = some v) : EffOk c n s a w β X nb o (.val (.lit v)) := by
  refine .lit ?_
  have := pureRun_run hv w
  simp only [execOp, ho, Sem.run_bind, ev_val h hx, ev_val h hy] at this ⊢
  rw [this]; rfl
theorem ok_quo {t u : TypeId} {x y : Operand} {k : IntKind} {p q : Int} (ho : o.op = .binOp .quo t x y u) (hx : (s.ev x).toVal = some (.int k p)) (hy : (s.ev y).toVal = some (.int k q)) (hq : q ≠ 0) :
    EffOk c n s a w β X nb o (.val (.lit (.int k (k.wrap (p.tdiv q))))) := by
  refine .lit ?_
  simp [execOp, ho, ev_val h hx, ev_val h hy, eqGuard, binOp, Op.intDiv, hq]
theorem ok_rem {t u : TypeId} {x y : Operand} {k : IntKind} {p q : Int} (ho : o.op = .binOp .rem t x y u) (hx : (s.ev x).toVal = some (.int k p)) (hy : (s.ev y).toVal = some (.int k q)) (hq : q ≠ 0) :
    EffOk c n s a w β X nb o (.val (.lit (.int k (p.tmod q)))) := by
  refine .lit ?_
  simp [execOp, ho, ev_val h hx, ev_val h hy, eqGuard, binOp, Op.intDiv, hq]
theorem ok_shl {t u : TypeId} {x y : Operand} {k k' : IntKind} {p q : Int} (ho : o.op = .binOp .shl t x y u) (hx : (s.ev x).toVal = some (.int k p)) (hy : (s.ev y).toVal = some (.int k' q)) (hq : 0 ≤ q) :
    EffOk c n s a w β X nb o (.val (.lit (.int k (k.wrap (p * 2 ^ min q.toNat k.bits))))) := by
  refine .lit ?_
  simp [execOp, ho, ev_val h hx, ev_val h hy, eqGuard, binOp, Op.shift, show ¬ q < 0 by omega]
theorem ok_shr {t u : TypeId} {x y : Operand} {k k' : IntKind} {p q : Int} (ho : o.op = .binOp .shr t x y u) (hx : (s.ev x).toVal = some (.int k p)) (hy : (s.ev y).toVal = some (.int k' q)) (hq : 0 ≤ q) :
    EffOk c n s a w β X nb o (.val (.lit (.int k (p.fdiv (2 ^ min q.toNat k.bits))))) := by
  refine .lit ?_
  simp [execOp, ho, ev_val h hx, ev_val h hy, eqGuard, binOp, Op.shift, show ¬ q < 0 by omega]
theorem ok_unOp {op : UnOp} {t : TypeId} {x : Operand} {va v : Value} (ho : o.op = .unOp op t x) (hx : (s.ev x).toVal = some va) (hv : pureRun c.P (Op.unary op va) = some v) : EffOk c n s a w β X nb o (.val (.lit v)) := by
  refine .lit ?_
  simp [execOp, ho, ev_val h hx, pureRun_run hv w]
theorem ok_convert {t u : TypeId} {x : Operand} {va v : Value} (ho : o.op = .convert t u x) (hx : (s.ev x).toVal = some va) (hv : pureRun c.P (convert t u va) = some v) : EffOk c n s a w β X nb o (.val (.lit v)) := by
  refine .lit ?_
  simp [execOp, ho, ev_val h hx, pureRun_run hv w]
theorem ok_makeInterface {t : TypeId} {x : Operand} {va v : Value} (ho : o.op = .makeInterface t x) (hx : (s.ev x).toVal = some va) (hv : pureRun c.P (Instr.makeInterface t va) = some v) : EffOk c n s a w β X nb o (.val (.lit v)) := by
  refine .lit ?_
  simp [execOp, ho, ev_val h hx, pureRun_run hv w]
theorem ok_typeAssert {t u : TypeId} {x : Operand} {ok : Bool} {va v : Value} (ho : o.op = .typeAssert x t u ok) (hx : (s.ev x).toVal = some va) (hv : pureRun c.P (Instr.typeAssert va t u ok) = some v) :
    EffOk c n s a w β X nb o (.val (match v with | .tuple vs => .tup (vs.toList.map D.ofCell) | v => D.ofCell v)) := by
  have hrun : (execOp a.eval o).run c.P w = .ok (.value v) w := by simp [execOp, ho, ev_val h hx, pureRun_run hv w]
  cases v with
  | tuple vs =>
    have := reps_ofCell w X vs.toList
    refine .same hrun (.p ?_) (fun b' hb' => by simp [D.ref] at hb')
    have := RepP.tup (w := w) (X := X) vs.toList _ this.1 this.2
    simpa using this
  | _ => exact .same hrun (.p (D.ofCell_rep w X _)) (fun b' hb' => by rw [ofCell_ref] at hb'; cases hb')
theorem ok_slice_row {t : TypeId} {x : Operand} {lo hi : Option Operand} {e : TypeId} {sz len : Nat} {full : Bool} {cs : List D} {k1 k2 : IntKind} {l u : Int} (ho : o.op = .slice t x lo hi none) (he : tyElem c.P t = some (none, e))
    (hs : tySize c.P e = some sz) (hx : s.ev x = .row len full cs)
    (hlo : (match lo with | some l => (s.ev l).toVal | none => some (.int .i64 0)) = some (.int k1 l))
    (hhi : (match hi with | some h => (s.ev h).toVal | none => some (.int .i64 len)) = some (.int k2 u)) (hb : 0 ≤ l ∧ l ≤ u ∧ u ≤ len) :
    EffOk c n s a w β X nb o (.val (.row (u.toNat - l.toNat) (full && hi.isNone) ((cs.drop (l.toNat * sz)).take ((u.toNat - l.toNat) * sz)))) := by
  have hv := ev_rep h x
  rw [hx] at hv
  obtain ⟨ad, cap, us, e1, e2, e3, e4, e5, e6⟩ := row_val (hv.pure rfl)
  have hbl : l.toNat ≤ u.toNat := by omega
  have hbu : u.toNat ≤ len := by omega
  have hrun : ∃ m, (Instr.sliceBounds true len cap (lo.map a.eval) (hi.map a.eval) none).run c.P w = .ok (l.toNat, u.toNat, m) w ∧ m = cap := by
    refine ⟨cap, ?_, rfl⟩
    cases hi with
    | none =>
      simp only [Option.some.injEq, Value.int.injEq] at hhi
      have hu : u.toNat = len := by omega
      cases lo with
      | none =>
        simp only [Option.some.injEq, Value.int.injEq] at hlo
        simp [Instr.sliceBounds, ← hlo.2, hu]
      | some lo =>
        have := ev_val h hlo
        simp [Instr.sliceBounds, this, bound_run w hb.1 (show l ≤ (len : Int) by omega), hu]
    | some hi =>
      have hhv := ev_val h hhi
      cases lo with
      | none =>
        simp only [Option.some.injEq, Value.int.injEq] at hlo
        simp [Instr.sliceBounds, hhv, bound_run w (show 0 ≤ u by omega) (show u ≤ (cap : Int) by omega), ← hlo.2]
      | some lo =>
        have := ev_val h hlo
        simp [Instr.sliceBounds, hhv, this, bound_run w (show 0 ≤ u by omega) (show u ≤ (cap : Int) by omega), bound_run w hb.1 (show l ≤ (u.toNat : Int) by omega)]
  obtain ⟨m, hrun, rfl⟩ := hrun
  have hexec : (execOp a.eval o).run c.P w = .ok (.value (.slice (if m = l.toNat then ad else ad.map (·.add (l.toNat * sz))) (u.toNat - l.toNat) (m - l.toNat))) w := by
    simp [execOp, ho, Instr.sliceAt, run_underlying (elem_slice he), Instr.slice, e1, hrun, size_run w hs]
  refine .same hexec (.p ?_) (fun b' hb' => by simp [D.ref] at hb')
  have hR := (e5.drop (l.toNat * sz)).take ((u.toNat - l.toNat) * sz)
  refine .row _ _ _ _ _ _ hR.1 (by omega) (by omega) (fun hf => ?_) (fun i hi' => ?_) hR.2
  · simp only [Bool.and_eq_true] at hf
    have := e4 hf.1
    cases hi with
    | none => simp only [Option.some.injEq, Value.int.injEq] at hhi; omega
    | some _ => simp at hf
  · have hpos : i < (u.toNat - l.toNat) * sz ∧ l.toNat * sz + i < us.length := by simp at hi'; omega
    obtain ⟨a', q1, q2, q3⟩ := e6 (l.toNat * sz + i) hpos.2
    have hne : m ≠ l.toNat := by
      intro hm
      have : u.toNat - l.toNat = 0 := by omega
      rw [this] at hpos; omega
    subst q1
    refine ⟨a'.add (l.toNat * sz), by rw [if_neg hne]; rfl, by rw [Addr.block_add]; exact q2, ?_⟩
    rw [Addr.add_add, q3, List.getElem_take, List.getElem_drop]
theorem ok_slice_array {t : TypeId} {x : Operand} {lo hi : Option Operand} {e : TypeId} {sz m : Nat} {cs : List D} {k1 k2 : IntKind} {l u : Int} (ho : o.op = .slice t x lo hi none) (he : tyElem c.P t = some (some m, e))
    (hs : tySize c.P e = some sz) (hx : s.ev x = .rptr cs)
    (hlo : (match lo with | some l => (s.ev l).toVal | none => some (.int .i64 0)) = some (.int k1 l))
    (hhi : (match hi with | some h => (s.ev h).toVal | none => some (.int .i64 m)) = some (.int k2 u)) (hb : 0 ≤ l ∧ l ≤ u ∧ u ≤ m ∧ m * sz ≤ cs.length ∧ m ≤ maxLen) :
    EffOk c n s a w β X nb o (.val (.row (u.toNat - l.toNat) hi.isNone ((cs.drop (l.toNat * sz)).take ((u.toNat - l.toNat) * sz)))) := by
  have hv := ev_rep h x
  rw [hx] at hv
  obtain ⟨ad, us, e1, e2, e3⟩ := rptr_cells (hv.pure rfl)
  have hrun : (Instr.sliceBounds false m m (lo.map a.eval) (hi.map a.eval) none).run c.P w = .ok (l.toNat, u.toNat, m) w := by
    cases hi with
    | none =>
      simp only [Option.some.injEq, Value.int.injEq] at hhi
      have hu : u.toNat = m := by omega
      cases lo with
      | none =>
        simp only [Option.some.injEq, Value.int.injEq] at hlo
        simp [Instr.sliceBounds, ← hlo.2, hu]
      | some lo =>
        have := ev_val h hlo
        simp [Instr.sliceBounds, this, bound_run w hb.1 (show l ≤ (m : Int) by omega), hu]
    | some hi =>
      have hhv := ev_val h hhi
      cases lo with
      | none =>
        simp only [Option.some.injEq, Value.int.injEq] at hlo
        simp [Instr.sliceBounds, hhv, bound_run w (show 0 ≤ u by omega) (show u ≤ (m : Int) by omega), ← hlo.2]
      | some lo =>
        have := ev_val h hlo
        simp [Instr.sliceBounds, hhv, this, bound_run w (show 0 ≤ u by omega) (show u ≤ (m : Int) by omega), bound_run w hb.1 (show l ≤ (u.toNat : Int) by omega)]
  have hexec : (execOp a.eval o).run c.P w = .ok (.value (.slice (some (if m = l.toNat then ad else ad.add (l.toNat * sz))) (u.toNat - l.toNat) (m - l.toNat))) w := by
    simp [execOp, ho, Instr.sliceAt, run_underlying (elem_array he), e1, Instr.sureAddr, hrun, size_run w hs]
  refine .same hexec (.p ?_) (fun b' hb' => by simp [D.ref] at hb')
  have hR := (e2.drop (l.toNat * sz)).take ((u.toNat - l.toNat) * sz)
  refine .row _ _ _ _ _ _ hR.1 (by omega) (by omega) (fun hf => ?_) (fun i hi' => ?_) hR.2
  · cases hi with
    | none => simp only [Option.some.injEq, Value.int.injEq] at hhi; omega
    | some _ => simp at hf
  · have hpos : i < (u.toNat - l.toNat) * sz ∧ l.toNat * sz + i < us.length := by simp at hi'; omega
    obtain ⟨q2, q3⟩ := e3 (l.toNat * sz + i) hpos.2
    have hne : m ≠ l.toNat := by
      intro hm
      have : u.toNat - l.toNat = 0 := by omega
      rw [this] at hpos; omega
    refine ⟨ad.add (l.toNat * sz), by rw [if_neg hne], by rw [Addr.block_add]; exact q2, ?_⟩
    rw [Addr.add_add, q3, List.getElem_take, List.getElem_drop]
theorem ok_slice_slc {t : TypeId} {x : Operand} {lo hi : Option Operand} {e : TypeId} {sz b off len cap : Nat} {k1 k2 : IntKind} {l u : Int} (ho : o.op = .slice t x lo hi none) (he : tyElem c.P t = some (none, e))
    (hs : tySize c.P e = some sz) (hx : s.ev x = .slc b off len cap)
    (hlo : (match lo with | some l => (s.ev l).toVal | none => some (.int .i64 0)) = some (.int k1 l))
    (hhi : (match hi with | some h => (s.ev h).toVal | none => some (.int .i64 len)) = some (.int k2 u)) (hb : 0 ≤ l ∧ l ≤ u ∧ u ≤ len ∧ l < cap) :
    EffOk c n s a w β X nb o (.val (.slc b (off + l.toNat * sz) (u.toNat - l.toNat) (cap - l.toNat))) := by
  have hv := ev_rep h x
  rw [hx] at hv
  obtain ⟨e1, e2, e3⟩ := slc_val hv
  have hnd := ev_nd h x b (by rw [hx]; rfl)
  have hrun : (Instr.sliceBounds true len cap (lo.map a.eval) (hi.map a.eval) none).run c.P w = .ok (l.toNat, u.toNat, cap) w := by
    cases hi with
    | none =>
      simp only [Option.some.injEq, Value.int.injEq] at hhi
      have hu : u.toNat = len := by omega
      cases lo with
      | none =>
        simp only [Option.some.injEq, Value.int.injEq] at hlo
        simp [Instr.sliceBounds, ← hlo.2, hu]
      | some lo =>
        have := ev_val h hlo
        simp [Instr.sliceBounds, this, bound_run w hb.1 (show l ≤ (len : Int) by omega), hu]
    | some hi =>
      have hhv := ev_val h hhi
      cases lo with
      | none =>
        simp only [Option.some.injEq, Value.int.injEq] at hlo
        simp [Instr.sliceBounds, hhv, bound_run w (show 0 ≤ u by omega) (show u ≤ (cap : Int) by omega), ← hlo.2]
      | some lo =>
        have := ev_val h hlo
        simp [Instr.sliceBounds, hhv, this, bound_run w (show 0 ≤ u by omega) (show u ≤ (cap : Int) by omega), bound_run w hb.1 (show l ≤ (u.toNat : Int) by omega)]
  have hne : ¬ cap = l.toNat := by omega
  refine .same (v := .slice (some ⟨β b, off + l.toNat * sz, none⟩) (u.toNat - l.toNat) (cap - l.toNat)) ?_ (.slc b _ _ _ (by omega) (by omega)) (fun b' hb' => by simp only [D.ref, Option.some.injEq] at hb'; subst hb'; exact hnd)
  simp [execOp, ho, Instr.sliceAt, run_underlying (elem_slice he), Instr.slice, e1, hrun, size_run w hs, hne, Addr.lit_add]
theorem ok_slice_gsl {t : TypeId} {x : Operand} {lo hi : Option Operand} {e : TypeId} {sz b len size : Nat} {k1 k2 : IntKind} {u : Int} (ho : o.op = .slice t x lo hi none) (he : tyElem c.P t = some (none, e))
    (hs : tySize c.P e = some sz) (hx : s.ev x = .gsl b len size)
    (hlo : (match lo with | some l => (s.ev l).toVal | none => some (.int .i64 0)) = some (.int k1 0))
    (hhi : (match hi with | some h => (s.ev h).toVal | none => some (.int .i64 len)) = some (.int k2 u)) (hb : 0 ≤ u ∧ u ≤ len) :
    EffOk c n s a w β X nb o (.val (.gsl b u.toNat size)) := by
  have hv := ev_rep h x
  rw [hx] at hv
  obtain ⟨cap, e', e1, e2, e3, e4⟩ := gsl_val hv
  have hnd := ev_nd h x b (by rw [hx]; rfl)
  have hrun : (Instr.sliceBounds true len cap (lo.map a.eval) (hi.map a.eval) none).run c.P w = .ok (0, u.toNat, cap) w := by
    cases hi with
    | none =>
      simp only [Option.some.injEq, Value.int.injEq] at hhi
      have hu : u.toNat = len := by omega
      cases lo with
      | none => simp [Instr.sliceBounds, hu]
      | some lo =>
        have := ev_val h hlo
        simp [Instr.sliceBounds, this, bound_run w (Int.le_refl 0) (show (0 : Int) ≤ (len : Int) by omega), hu]
    | some hi =>
      have hhv := ev_val h hhi
      cases lo with
      | none => simp [Instr.sliceBounds, hhv, bound_run w hb.1 (show u ≤ (cap : Int) by omega)]
      | some lo =>
        have := ev_val h hlo
        simp [Instr.sliceBounds, hhv, this, bound_run w hb.1 (show u ≤ (cap : Int) by omega), bound_run w (Int.le_refl 0) (show (0 : Int) ≤ (u.toNat : Int) by omega)]
  refine .same (v := .slice (some ⟨β b, 0, none⟩) u.toNat cap) ?_ (.gsl b _ _ cap e' (by omega) e3 e4) (fun b' hb' => by simp only [D.ref, Option.some.injEq] at hb'; subst hb'; exact hnd)
  have h0 : (⟨β b, 0, none⟩ : Addr).add 0 = ⟨β b, 0, none⟩ := by rw [Addr.lit_add]
  simp [execOp, ho, Instr.sliceAt, run_underlying (elem_slice he), Instr.slice, e1, hrun, size_run w hs, h0]
theorem ok_makeSlice {t : TypeId} {l k : Operand} {e : TypeId} {z : D} {i : TypeInfo} {len cap : Int} (ho : o.op = .makeSlice t l k) (he : tyElem c.P t = some (none, e))
    (hl : (s.ev l).toVal = some (.int .i64 len)) (hk : (s.ev k).toVal = some (.int .i64 cap)) (hz : tyZeros c.P e = some [z]) (hs : tySize c.P e = some 1) (hi : c.P.info? e = some i)
    (hn : len = cap ∧ 0 ≤ len ∧ len * i.bytes ≤ 2 ^ 47 ∧ len ≤ 2 ^ 62) : EffOk c n s a w β X nb o (.new nb (List.replicate len.toNat z) (.slc nb 0 len.toNat len.toNat)) := by
  obtain ⟨rfl, h1, h2, h3⟩ := hn
  unfold tyZeros tyZero at hz
  rw [hi] at hz
  simp only [Option.bind_some] at hz
  cases hzz : i.zero with
  | none => rw [hzz] at hz; cases hz
  | some zv =>
    rw [hzz] at hz
    simp only [Option.map_some, Option.some.injEq] at hz
    have hzrep := reps_ofCell w X zv.cells.toList
    rw [hz] at hzrep
    have hzs : zv.cells.size = 1 := by have := hzrep.1; simpa using this
    have hsz : i.size = 1 := by simpa [tySize, hi] using hs
    have hrep : Reps w X (madeCells zv.cells (len.toNat * i.size)).toList (List.replicate len.toNat z) := by
      refine ⟨by simp [madeCells, hsz], fun j h1 h2 => ?_⟩
      have := hzrep.2 0 (by simp [hzs]) (by simp)
      simp only [madeCells, Array.toList_map, List.getElem_map, Array.toList_range, List.getElem_replicate, hzs, Nat.mod_one]
      rw [getElem!_pos zv.cells 0 (by omega)]
      simpa using this
    have hrun := run_make (P := c.P) w t e i zv (elem_slice he) hi hzz .i64 .i64 len len h1 (Int.le_refl _) (by rw [Int.mul_comm]; omega) (by omega)
    refine ⟨rfl, w, madeCells zv.cells (len.toNat * i.size), e, .slice (some ⟨w.heap.size, 0, none⟩) len.toNat len.toNat, ?_, Below.refl _ _, rfl, by simp [madeCells, hsz], hrep.takeAll, rfl, fun β' w' X' hβ _ => by rw [← hβ]; exact .slc nb 0 _ _ (Nat.le_refl _) (by unfold maxLen; omega)⟩
    simp [execOp, ho, ev_val h hl, ev_val h hk, hrun]
theorem ok_call {k : Call} {x : Operand} {f : FuncId} {fn : Func} (ho : o.op = .call k) (hk : k.callee = .value x) (hx : s.ev x = .lit (.func (.func f) #[] #[])) (hf : c.P.funcs[f]? = some fn)
    (hb : fn.body.isSome = true) (hn : (fn.name == "runtime.NumGoroutine") = false) :
    EffOk c n s a w β X nb o (.call f (k.args.toList.map s.ev)) := by
  have hv : a.eval x = .func (.func f) #[] #[] := ev_val h (by rw [hx]; rfl)
  refine ⟨k.args.toList.map a.eval, ?_, by simp, fun i h1 h2 => by simpa using ev_rep h _, fun d hd b hb => ?_⟩
  · have hb' : fn.body ≠ none := by intro e; rw [e] at hb; cases hb
    have hn' : fn.name ≠ "runtime.NumGoroutine" := by simpa using hn
    have hargs : (k.args.toList.map a.eval).toArray = k.args.map a.eval := by apply Array.toList_inj.1; simp
    rw [hargs]
    simp [execOp, ho, resolve, hk, hv, Deferred.ofValue, invoke, callFunc, program, Sem.run, hf, hn', hb']
  · obtain ⟨x, _, rfl⟩ := List.mem_map.1 hd
    exact ev_nd h x b hb
theorem ok_len_row {k : Call} {x : Operand} {t : TypeId} {e : TypeId} {len : Nat} {full : Bool} {xs : List D} (ho : o.op = .call k) (hk : k.callee = .builtin .len) (ha : k.args.toList = [x]) (ht : k.argTypes.toList = [t])
    (he : tyElem c.P t = some (none, e)) (hx : s.ev x = .row len full xs) : EffOk c n s a w β X nb o (.val (.lit (.int .i64 len))) := by
  have hv := ev_rep h x
  rw [hx] at hv
  obtain ⟨ad, cap, us, e1, _⟩ := row_val (hv.pure rfl)
  have ha' : k.args = #[x] := by apply Array.toList_inj.1; simpa using ha
  have ht' : k.argTypes = #[t] := by apply Array.toList_inj.1; simpa using ht
  refine .lit ?_
  simp [execOp, ho, resolve, hk, invoke, builtin, Builtin.len_, ha', ht', e1, run_underlying (elem_slice he), goInt]
theorem ok_len_slc {k : Call} {x : Operand} {t : TypeId} {e : TypeId} {b off len cap : Nat} (ho : o.op = .call k) (hk : k.callee = .builtin .len) (ha : k.args.toList = [x]) (ht : k.argTypes.toList = [t])
    (he : tyElem c.P t = some (none, e)) (hx : s.ev x = .slc b off len cap) : EffOk c n s a w β X nb o (.val (.lit (.int .i64 len))) := by
  have hv := ev_rep h x
  rw [hx] at hv
  obtain ⟨e1, _⟩ := slc_val hv
  have ha' : k.args = #[x] := by apply Array.toList_inj.1; simpa using ha
  have ht' : k.argTypes = #[t] := by apply Array.toList_inj.1; simpa using ht
  refine .lit ?_
  simp [execOp, ho, resolve, hk, invoke, builtin, Builtin.len_, ha', ht', e1, run_underlying (elem_slice he), goInt]
theorem ok_len_gsl {k : Call} {x : Operand} {t : TypeId} {e : TypeId} {b len sz : Nat} (ho : o.op = .call k) (hk : k.callee = .builtin .len) (ha : k.args.toList = [x]) (ht : k.argTypes.toList = [t])
    (he : tyElem c.P t = some (none, e)) (hx : s.ev x = .gsl b len sz) : EffOk c n s a w β X nb o (.val (.lit (.int .i64 len))) := by
  have hv := ev_rep h x
  rw [hx] at hv
  obtain ⟨cap, e', e1, _⟩ := gsl_val hv
  have ha' : k.args = #[x] := by apply Array.toList_inj.1; simpa using ha
  have ht' : k.argTypes = #[t] := by apply Array.toList_inj.1; simpa using ht
  refine .lit ?_
  simp [execOp, ho, resolve, hk, invoke, builtin, Builtin.len_, ha', ht', e1, run_underlying (elem_slice he), goInt]
theorem ok_len_lit {k : Call} {x : Operand} {v r : Value} (ho : o.op = .call k) (hk : k.callee = .builtin .len) (ha : k.args.toList = [x]) (hx : (s.ev x).toVal = some v)
    (hr : pureRun c.P (Builtin.len_ k.argTypes o.type #[v]) = some r) : EffOk c n s a w β X nb o (.val (.lit r)) := by
  have ha' : k.args = #[x] := by apply Array.toList_inj.1; simpa using ha
  refine .lit ?_
  simp [execOp, ho, resolve, hk, invoke, builtin, ha', ev_val h hx, pureRun_run hr w]
theorem lits_val {l : List Operand} {vs : List Value} (e : D.toLits (l.map s.ev) = some vs) : l.map a.eval = vs := by
  induction l generalizing vs with
  | nil => simp only [List.map_nil, D.toLits, Option.some.injEq] at e; rw [← e]; rfl
  | cons x l ih =>
    simp only [List.map_cons, D.toLits] at e
    split at e
    · rename_i v vs' e1 e2
      simp only [Option.some.injEq] at e
      subst e
      have : (s.ev x).toVal = some v := by cases hx : s.ev x <;> rw [hx] at e1 <;> simp [D.toLit, D.toVal] at e1 ⊢; exact e1
      rw [List.map_cons, ih e2, ev_val h this]
    · cases e
theorem ok_max {k : Call} {vs : List Value} {r : Value} (ho : o.op = .call k) (hk : k.callee = .builtin .max) (ha : D.toLits (k.args.toList.map s.ev) = some vs)
    (hr : pureRun c.P (Builtin.max_ k.argTypes o.type vs.toArray) = some r) : EffOk c n s a w β X nb o (.val (.lit r)) := by
  have hargs : k.args.map a.eval = vs.toArray := by apply Array.toList_inj.1; simpa using lits_val h ha
  refine .lit ?_
  simp [execOp, ho, resolve, hk, invoke, builtin, hargs, pureRun_run hr w]
theorem ok_min {k : Call} {vs : List Value} {r : Value} (ho : o.op = .call k) (hk : k.callee = .builtin .min) (ha : D.toLits (k.args.toList.map s.ev) = some vs)
    (hr : pureRun c.P (Builtin.min_ k.argTypes o.type vs.toArray) = some r) : EffOk c n s a w β X nb o (.val (.lit r)) := by
  have hargs : k.args.map a.eval = vs.toArray := by apply Array.toList_inj.1; simpa using lits_val h ha
  refine .lit ?_
  simp [execOp, ho, resolve, hk, invoke, builtin, hargs, pureRun_run hr w]
theorem ok_append_row {k : Call} {x y : Operand} {t e : TypeId} {i : TypeInfo} {z : Value} {p q : Nat} {full : Bool} {xs ys : List D} (ho : o.op = .call k) (hk : k.callee = .builtin .append) (ha : k.args.toList = [x, y]) (ht : k.argTypes.toList = [t, t])
    (he : tyElem c.P t = some (none, e)) (hi : c.P.info? e = some i) (hz : i.zero = some z) (hzs : z.cells.size = i.size) (h0 : 0 < i.size) (hx : s.ev x = .row p true xs) (hy : s.ev y = .row q full ys)
    (hn : xs.length = p * i.size ∧ ys.length = q * i.size ∧ p + q ≤ 2 ^ 62 ∧ (p + q) * i.bytes ≤ 2 ^ 47) : EffOk c n s a w β X nb o (.val (.row (p + q) false (xs ++ ys))) := by
  have hvx := ev_rep h x
  rw [hx] at hvx
  have hvy := ev_rep h y
  rw [hy] at hvy
  by_cases hq : 0 < q
  · obtain ⟨us, cap, hr, h1, h2, h3, h4, h5⟩ := append_fresh (ty := o.type) (elem_slice he) hi hz hzs h0 (hvx.pure rfl) (hvy.pure rfl) hq hn
    have hb : Below w.heap.size w (w.drew.alloc (.cells us e)) := ((Below.refl _ _).drew).alloc (Nat.le_refl _) _
    have hr2 := h5.mono (stays_below (X := X) hb)
    refine ⟨_, _, append_exec ho hk ha ht hr, hb, .p (.row _ _ _ _ _ _ hr2.1 h1 h2 (fun h => by cases h) (fun i hi => ⟨_, rfl, fun hx => absurd (h.Xlt _ hx) (by simp), ?_⟩) hr2.2), fun b' hb' => by simp [D.ref] at hb'⟩
    rw [Addr.lit_add, Nat.zero_add]
    have := cell_of_row _ w.heap.size i _ e (0, 0) (heap_alloc_new w.drew (.cells us e))
    refine this.trans ?_
    simp at hi
    have hlt : i < us.size := by simp at h4; omega
    simp [hlt]
  · have hq0 : q = 0 := by omega
    subst hq0
    obtain ⟨ad, cap, us, e1, e2, e3, e4, e5, e6⟩ := row_val (hvx.pure rfl)
    obtain ⟨ad', cap', us', f1, f2, f3, f4, f5, f6⟩ := row_val (hvy.pure rfl)
    obtain rfl := e4 rfl
    have hys : ys = [] := List.eq_nil_of_length_eq_zero (by omega)
    subst hys
    rw [List.append_nil, Nat.add_zero]
    refine .same (v := .slice ad cap cap) (append_exec ho hk ha ht ?_) (.p (.row ad cap cap false us xs e5.1 (Nat.le_refl _) e3 (fun h => by cases h) e6 e5.2)) (fun b' hb' => by simp [D.ref] at hb')
    rw [e1, f1]
    cases ad with
    | none => cases ad' <;> simp [Builtin.append_, run_underlying (elem_slice he), Go.sizeOf, typeInfo, hi, Builtin.lenOf, Builtin.firstCells, loadCells, loadCellsFrom]
    | some a1 => cases ad' <;> simp [Builtin.append_, run_underlying (elem_slice he), Go.sizeOf, typeInfo, hi, Builtin.lenOf, Builtin.firstCells, loadCells, loadCellsFrom, storeCells]
theorem ok_append_new {k : Call} {x y : Operand} {t e : TypeId} {i : TypeInfo} {z : Value} {p q : Nat} {full : Bool} {xs ys : List D} (ho : o.op = .call k) (hk : k.callee = .builtin .append) (ha : k.args.toList = [x, y]) (ht : k.argTypes.toList = [t, t])
    (he : tyElem c.P t = some (none, e)) (hi : c.P.info? e = some i) (hz : i.zero = some z) (hzs : z.cells.size = i.size) (h0 : 0 < i.size) (hx : s.ev x = .row p true xs) (hy : s.ev y = .row q full ys)
    (hn : 0 < q ∧ xs.length = p * i.size ∧ ys.length = q * i.size ∧ p + q ≤ 2 ^ 62 ∧ (p + q) * i.bytes ≤ 2 ^ 47) : EffOk c n s a w β X nb o (.new nb (xs ++ ys) (.gsl nb (p + q) i.size)) := by
  have hvx := ev_rep h x
  rw [hx] at hvx
  have hvy := ev_rep h y
  rw [hy] at hvy
  obtain ⟨us, cap, hr, h1, h2, h3, h4, h5⟩ := append_fresh (ty := o.type) (elem_slice he) hi hz hzs h0 (hvx.pure rfl) (hvy.pure rfl) hn.1 hn.2
  refine ⟨rfl, w.drew, us, e, _, append_exec ho hk ha ht hr, (Below.refl _ _).drew, rfl, h4, h5, rfl, fun β' w' X' hβ hsh => ?_⟩
  rw [← hβ]
  exact .gsl nb _ _ cap e h1 h2 (by rw [hβ, ← h3]; exact hsh)
theorem ok_append_grow {k : Call} {x y : Operand} {t e : TypeId} {i : TypeInfo} {z : Value} {b p q : Nat} {full : Bool} {cs ys : List D} (ho : o.op = .call k) (hk : k.callee = .builtin .append) (ha : k.args.toList = [x, y]) (ht : k.argTypes.toList = [t, t])
    (he : tyElem c.P t = some (none, e)) (hi : c.P.info? e = some i) (hz : i.zero = some z) (hzs : z.cells.size = i.size) (h0 : 0 < i.size) (hx : s.ev x = .gsl b p i.size) (hy : s.ev y = .row q full ys) (hb : s.blk b = some cs) (hgb : c.gb ≤ b)
    (hok : ys.all D.cellOk = true)
    (hn : 0 < q ∧ cs.length = p * i.size ∧ ys.length = q * i.size ∧ p + q ≤ 2 ^ 62 ∧ (p + q) * i.bytes ≤ 2 ^ 47) : EffOk c n s a w β X nb o (.grow b (cs ++ ys) (.gsl b (p + q) i.size)) := by
  obtain ⟨hq, hn1, hn2, hn3, hn4⟩ := hn
  have hvx := ev_rep h x
  rw [hx] at hvx
  have hvy := ev_rep h y
  rw [hy] at hvy
  obtain ⟨cap, e', e1, e2, e3, e4⟩ := gsl_val hvx
  obtain ⟨a', cap', us', f1, hul', f5, hnews⟩ := news_cells (hvy.pure rfl) hn2 hq h0
  obtain ⟨g1, g2, us, eb, g3, g4, g5⟩ := h.blk b cs hb
  have hus : us.size = cap * i.size := by
    have := shape_of_cells g3
    rw [e4] at this
    simp only [Option.some.injEq, Prod.mk.injEq] at this
    exact this.2.symm
  have hone : ∀ u ∈ us', u.oneCell' = true := by
    intro v hv
    obtain ⟨j, hj, rfl⟩ := List.mem_iff_getElem.1 hv
    have h2 : j < ys.length := by rw [← f5.1]; exact hj
    exact cellOk_one (f5.2 j hj h2) (List.all_eq_true.1 hok _ (List.getElem_mem h2))
  have hcl := h.clear b
  have hcb : (s.clear b).blk b = some cs := hb
  by_cases hroom : p + q ≤ cap
  · have hfit : p * i.size + us'.length ≤ us.size := by rw [hul', hus, ← Nat.add_mul]; exact Nat.mul_le_mul_right _ hroom
    have hr := run_append_spare (P := c.P) w t o.type e eb i (elem_slice he) hi (β b) p cap us g3 a' q cap' us' hul' hnews hone hroom hfit
    have hsz : (us.toList.take (p * i.size) ++ us' ++ us.toList.drop (p * i.size + us'.length)).toArray.size = us.size := by
      simp only [List.size_toArray, List.length_append, List.length_take, List.length_drop, Array.length_toList]
      omega
    have hlen : (cs ++ ys).length = p * i.size + us'.length := by rw [List.length_append, hn1, ← f5.1]
    have hst := hcl.store b cs (cs ++ ys) hcb us _ eb g3 hsz (by rw [hsz, hlen]; exact hfit) (by
      have e5 := splice_take us.toList us' (p * i.size) (p * i.size + us'.length) (Nat.le_refl _) (by simpa using hfit)
      have e6 : (us.toList.take (p * i.size) ++ us' ++ us.toList.drop (p * i.size + us'.length)).toArray.toList.take (cs ++ ys).length =
          (us.toList.take (p * i.size) ++ us' ++ us.toList.drop (p * i.size + us'.length)).take (p * i.size + us'.length) := by rw [hlen]
      rw [e6, e5]
      have e7 : (us.toList.take (p * i.size + us'.length)).drop (p * i.size + us'.length) = [] := by simp
      have e8 : (us.toList.take (p * i.size + us'.length)).take (p * i.size) = us.toList.take cs.length := by rw [List.take_take, hn1]; congr 1; omega
      rw [e7, e8, List.append_nil]
      exact g5.append f5)
    refine ⟨_, _, β, X, append_exec ho hk ha ht (by rw [e1, f1]; exact hr), hst, .gsl b _ _ cap eb hroom e3 ?_, rfl⟩
    rw [← hus, ← hsz]
    exact shape_of_cells (setRow_heap w (β b) us _ eb (0, 0) g3)
  · have holds : ∀ j v, (us.toList.take cs.length)[j]? = some v → w.cell? ((⟨β b, 0, none⟩ : Addr).add j) = some v := by
      intro j v hj
      rw [Addr.lit_add, Nat.zero_add, cell_of_row w _ _ us eb (0, 0) g3]
      rw [List.getElem?_take] at hj
      split at hj
      · simpa using hj
      · cases hj
    have hol : (us.toList.take cs.length).length = p * i.size := by rw [g5.1]; exact hn1
    have hby : (p + q) * i.bytes ≤ 140737488355328 := by
      have h47 : (2:Nat) ^ 47 = 140737488355328 := by decide
      omega
    have hr := run_append_grow (P := c.P) w t o.type e i z (elem_slice he) hi hz ⟨β b, 0, none⟩ p cap _ hol holds a' q cap' us' hul' hnews (by omega) (by omega) (growslice_fits (by omega) hby)
    have hge := grownCap_ge w (p + q) cap e
    have hcm : grownCap w (p + q) cap e ≤ maxLen := grownCap_le_maxLen _ _ _ _ (by unfold maxLen; omega)
    generalize hG : grownCap w (p + q) cap e = G at *
    have hl2 : (cs ++ ys).length = (us.toList.take cs.length ++ us').length := by rw [List.length_append, List.length_append, g5.1, f5.1]
    have hsz2 : ((us.toList.take cs.length).toArray ++ us'.toArray ++ Builtin.zeroCells z.cells (G - (p + q))).size = G * i.size := by
      simp only [Array.size_append, List.size_toArray, size_zeroCells, hzs, hol, hul', ← Nat.add_mul]
      congr 1; omega
    have hdr : Below w.heap.size w w.drew := (Below.refl _ _).drew
    have hmv := (hcl.grow hdr).moved b hgb (fun t => by
      show (if (s.tmp t).ref = some b then D.any else s.tmp t).ref ≠ some b
      split
      · simp [D.ref]
      · assumption) e ((us.toList.take cs.length).toArray ++ us'.toArray ++ Builtin.zeroCells z.cells (G - (p + q))) (cs ++ ys) (by
        rw [hl2]; simp) (by
        rw [hl2]
        have : ((us.toList.take cs.length).toArray ++ us'.toArray ++ Builtin.zeroCells z.cells (G - (p + q))).toList.take (us.toList.take cs.length ++ us').length = us.toList.take cs.length ++ us' := by
          simp only [Array.toList_append, List.append_assoc]
          rw [← List.append_assoc, List.take_left]
        rw [this]
        exact (g5.append f5).mono (stays_below hdr))
    refine ⟨_, _, _, _, append_exec ho hk ha ht (by rw [e1, f1]; exact hr), hmv, ?_, rfl⟩
    have := RepV.gsl (β := fun k => if k = b then w.drew.heap.size else β k) (w := w.drew.alloc (.cells ((us.toList.take cs.length).toArray ++ us'.toArray ++ Builtin.zeroCells z.cells (G - (p + q))) e)) (X := fun k => X k ∨ k = w.drew.heap.size) b (p + q) i.size G e hge hcm (by
      simp only [if_true]
      rw [← hsz2]
      exact shape_of_cells (heap_alloc_new w.drew _))
    simpa using this
end ops
end Lw
