/- Arguments opened: words, fractions, intervals. No condition. -/
import Derived.Test.YtmcpfihkambgnaaGreatLwTa
import Derived.ProofKit
import Derived.OpenShut
import Derived.Carry
namespace Lw
open Go Go.RowKit Go.Proofs Go.ChangeShapes Go.WideShapes Go.ChangeAt

section
variable {H : Type} {enc : TypeId × Value → H} {W : World} {fuel : Nat} {cs : List Value} {x : DataW H × List MemPlace}

def NoX : Nat → Prop := fun _ => False
theorem u8_of {n : Int} (h : (Lit.int .u8 n).wf = true) : ∃ m : Nat, n = Int.ofNat m ∧ m < 256 := by
  simp [Lit.wf, IntKind.min, IntKind.max, IntKind.signed, IntKind.bits] at h
  exact ⟨n.toNat, by show n = (n.toNat : Int); omega, by omega⟩
theorem cells_u32 : Tryz.prog.cellsOf 206 = 1 := by kernel_rfl
theorem cells_rat : Tryz.prog.cellsOf 51 = 3 := by kernel_rfl
theorem cells_words : Tryz.prog.cellsOf 49 = 1 := by kernel_rfl
theorem cells_bool : Tryz.prog.cellsOf 4 = 1 := by kernel_rfl
theorem wf_u32 {n : Int} (h : (Lit.int .u32 n).wf = true) : 0 ≤ n ∧ n < 4294967296 := by
  simp [Lit.wf, IntKind.min, IntKind.max, IntKind.signed, IntKind.bits] at h
  omega
theorem open_words (h : DataW.trod enc Tryz.prog W 0 (fun _ => true) true fuel 49 cs = some x) : ∃ l : List Nat, Dig l ∧ Reps W NoX cs [rowW l] := by
  rcases open_ints Tryz.underlying49 Tryz.underlying206 cells_u32 h with ⟨rfl, -⟩ | ⟨a, len, cap, zs, rfl, -, hl, hm, hz, -, hcell, hwf⟩
  · exact ⟨[], (fun x hx => by cases hx), Reps.cons (nil_rep W NoX false) Reps.nil⟩
  · simp only [if_true] at hz
    have hd : ∀ i (hi : i < len), ∃ n : Nat, zs.getD i 0 = (n : Int) ∧ n < 4294967296 := fun i hi => by
      have hlt : i < zs.length := by omega
      have hmem : zs.getD i 0 ∈ zs := by rw [List.getD_eq_getElem?_getD, List.getElem?_eq_getElem hlt]; exact List.getElem_mem hlt
      obtain ⟨h1, h2⟩ := wf_u32 (hwf _ hmem)
      exact ⟨(zs.getD i 0).toNat, by omega, by omega⟩
    let l := (List.range len).map fun i => (zs.getD i 0).toNat
    have hll : l.length = len := by simp [l]
    refine ⟨l, fun y hy => ?_, Reps.cons ?_ Reps.nil⟩
    · simp only [l, List.mem_map, List.mem_range] at hy
      obtain ⟨i, hi, rfl⟩ := hy
      obtain ⟨n, e, hn⟩ := hd i hi
      rw [e]; omega
    · have hr := RepP.row (w := W) (X := NoX) (some a) len cap false (l.map fun n => Value.int .u32 (Int.ofNat n)) (l.map u32) (by simp) hl hm (fun h => by cases h)
        (fun i hi => by
          have hi' : i < len := by simpa [hll] using hi
          obtain ⟨n, e, hn⟩ := hd i hi'
          refine ⟨a, rfl, fun h => h, ?_⟩
          rw [hcell i (by omega), e]
          simp only [List.getElem_map, l, List.getElem_range, e]
          rfl)
        (fun i hi hi' => by
          simp only [List.getElem_map]
          exact .lit _)
      unfold rowW
      rw [hll]; exact hr
theorem three {α : Type} {l : List α} (h : l.length = 3) : ∃ a b c, l = [a, b, c] := by
  match l, h with
  | [a, b, c], _ => exact ⟨a, b, c, rfl⟩
theorem six {α : Type} {l : List α} (h : l.length = 6) : ∃ a b c d e f, l = [a, b, c, d, e, f] := by
  match l, h with
  | [a, b, c, d, e, f], _ => exact ⟨a, b, c, d, e, f, rfl⟩
theorem some_of {α : Type} {l : List α} {i : Nat} (h : i < l.length) : ∃ y, l[i]? = some y := ⟨l[i], List.getElem?_eq_getElem h⟩
theorem field_read {fs : Array Field} {xs : List (DataW H × List MemPlace)} {n : Nat} (hf : ∀ (i : Nat) (f : Field), fs[i]? = some f → DataW.trod enc Tryz.prog W 0 (fun _ => true) true n f.type ((cs.drop f.offset).take (Tryz.prog.cellsOf f.type)) = xs[i]?)
    (i : Nat) (f : Field) (h : fs[i]? = some f) {t : TypeId} {off sz : Nat} (ht : f.type = t) (ho : f.offset = off) (hc : Tryz.prog.cellsOf t = sz) : DataW.trod enc Tryz.prog W 0 (fun _ => true) true n t ((cs.drop off).take sz) = xs[i]? := by
  subst ht ho hc; exact hf i f h
theorem open_rat (h : DataW.trod enc Tryz.prog W 0 (fun _ => true) true fuel 51 cs = some x) : ∃ r : Raw, Dig r.n ∧ Dig r.d ∧ Reps W NoX cs [bool r.s, rowW r.n, rowW r.d] := by
  obtain ⟨xs, n, -, -, hc, hx, hf⟩ := DataW.trod_struct Tryz.underlying51 h
  rw [cells_rat] at hc
  obtain ⟨c0, c1, c2, rfl⟩ := three hc
  have hx3 : xs.length = 3 := hx
  obtain ⟨y0, e0⟩ := some_of (l := xs) (i := 0) (by omega)
  obtain ⟨y1, e1⟩ := some_of (l := xs) (i := 1) (by omega)
  obtain ⟨y2, e2⟩ := some_of (l := xs) (i := 2) (by omega)
  have f0 := field_read hf 0 _ rfl (t := 4) (off := 0) rfl rfl cells_bool
  have f1 := field_read hf 1 _ rfl (t := 49) (off := 1) rfl rfl cells_words
  have f2 := field_read hf 2 _ rfl (t := 49) (off := 2) rfl rfl cells_words
  rw [e0] at f0
  rw [e1] at f1
  rw [e2] at f2
  have f0 : DataW.trod enc Tryz.prog W 0 (fun _ => true) true n 4 [c0] = some y0 := f0
  have f1 : DataW.trod enc Tryz.prog W 0 (fun _ => true) true n 49 [c1] = some y1 := f1
  have f2 : DataW.trod enc Tryz.prog W 0 (fun _ => true) true n 49 [c2] = some y2 := f2
  obtain ⟨b, hb, -⟩ := DataW.trod_bool Tryz.underlying4 f0
  obtain ⟨l1, d1, r1⟩ := open_words f1
  obtain ⟨l2, d2, r2⟩ := open_words f2
  simp only [List.cons.injEq, and_true] at hb
  subst hb
  exact ⟨⟨b, l1, l2⟩, d1, d2, Reps.cons (.lit _) (Reps.append r1 r2)⟩
theorem open_range (h : DataW.trod enc Tryz.prog W 0 (fun _ => true) true fuel 72 cs = some x) : ∃ r : RRaw, r.digs ∧ Reps W NoX cs r.cells ∧ cs.length = 6 := by
  obtain ⟨xs, n, -, -, hc, hx, hf⟩ := DataW.trod_struct Tryz.underlying72 h
  have hc6 : cs.length = 6 := hc.trans (by kernel_rfl)
  obtain ⟨c0, c1, c2, c3, c4, c5, rfl⟩ := six hc6
  have hx2 : xs.length = 2 := hx
  obtain ⟨y0, e0⟩ := some_of (l := xs) (i := 0) (by omega)
  obtain ⟨y1, e1⟩ := some_of (l := xs) (i := 1) (by omega)
  have f0 := field_read hf 0 _ rfl (t := 51) (off := 0) rfl rfl cells_rat
  have f1 := field_read hf 1 _ rfl (t := 51) (off := 3) rfl rfl cells_rat
  rw [e0] at f0
  rw [e1] at f1
  have f0 : DataW.trod enc Tryz.prog W 0 (fun _ => true) true n 51 [c0, c1, c2] = some y0 := f0
  have f1 : DataW.trod enc Tryz.prog W 0 (fun _ => true) true n 51 [c3, c4, c5] = some y1 := f1
  obtain ⟨r1, a1, a2, q1⟩ := open_rat f0
  obtain ⟨r2, b1, b2, q2⟩ := open_rat f1
  exact ⟨⟨r1, r2⟩, ⟨a1, a2, b1, b2⟩, Reps.append q1 q2, rfl⟩
/-- A value of several cells is a struct. -/
theorem agg_of {v : Value} {n : Nat} (h : v.cells.toList.length = n + 2) : v = .agg v.cells.toList.toArray := by
  cases v <;> first | rfl | (simp [Value.cells] at h)
theorem rep_agg {X : Nat → Prop} {v : Value} {ds : List D} {n : Nat} (h : v.cells.toList.length = n + 2) (hr : Reps W X v.cells.toList ds) : RepP W X v (.agg ds) := by
  rw [agg_of h]
  exact .agg _ _ hr.1 hr.2
theorem rat_arg {v : Value} {d : DataW H} {ps : List MemPlace} (h : DataW.Trod enc Tryz.prog W 0 (fun _ => true) true 51 v d ps) : ∃ r : Raw, Dig r.n ∧ Dig r.d ∧ RepP W NoX v r.dat := by
  obtain ⟨f, hf⟩ := h
  obtain ⟨r, h1, h2, h3⟩ := open_rat hf
  exact ⟨r, h1, h2, rep_agg (n := 1) (by rw [h3.1]; rfl) h3⟩
theorem range_arg {v : Value} {d : DataW H} {ps : List MemPlace} (h : DataW.Trod enc Tryz.prog W 0 (fun _ => true) true 72 v d ps) : ∃ r : RRaw, r.digs ∧ RepP W NoX v r.dat := by
  obtain ⟨f, hf⟩ := h
  obtain ⟨r, h1, h3, h4⟩ := open_range hf
  exact ⟨r, h1, rep_agg (n := 4) h4 h3⟩
end
end Lw

namespace Lw
open Go Go.RowKit Go.Proofs

variable {G : World → Prop}

theorem rmin_self (a : Rat) : min a a = a := by rw [Rat.min_def]; split <;> rfl
theorem rmax_self (a : Rat) : max a a = a := by rw [Rat.max_def]; split <;> rfl
theorem rmin_l {a b : Rat} (h : a ≤ b) : min a b = a := by rw [Rat.min_def, if_pos h]
theorem rmin_r {a b : Rat} (h : b ≤ a) : min a b = b := by rw [Rat.min_def]; split; (· rename_i h2; exact Rat.le_antisymm h2 h); rfl
theorem rmax_r {a b : Rat} (h : a ≤ b) : max a b = b := by rw [Rat.max_def, if_pos h]
theorem rmax_l {a b : Rat} (h : b ≤ a) : max a b = a := by rw [Rat.max_def]; split; (· rename_i h2; exact Rat.le_antisymm h h2); rfl
theorem IsI.neg {k : Nat} {x : D} {a b : Rat} (h : IsI k x a b) : IsI k (FR (-b) (-a)) (-b) (-a) := FR_isI h.szL.2.neg h.szL.1.neg (Rat.neg_le_neg h.le)

/-! ### The program -/
theorem cmpQ_gt_false {a b : Rat} (h : a ≤ b) : decide (cmpQ a b > 0) = false := decide_eq_false fun hh => by have := cmpQ_le.2 h; omega
theorem cmpQ_gt_true {a b : Rat} (h : ¬ a ≤ b) : decide (cmpQ a b > 0) = true := decide_eq_true (by
  rcases Int.lt_or_le 0 (cmpQ a b) with q | q
  · exact q
  · exact absurd (cmpQ_le.1 q) h)
theorem sz_half : SzQ 1 (Rat.divInt 1 2) := by unfold SzQ; decide +kernel
/-! ### The reference -/
def Raw.cells (r : Raw) : List D := [bool r.s, rowW r.n, rowW r.d]
theorem rat_add_le {a b c d : Rat} (h : a ≤ b) (h2 : c ≤ d) : a + c ≤ b + d := by grind
end Lw
