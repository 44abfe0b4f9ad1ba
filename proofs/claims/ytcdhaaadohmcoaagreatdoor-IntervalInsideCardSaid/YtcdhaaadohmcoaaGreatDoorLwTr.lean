/- Numbers within an interval; the statement about ends that are attained, run. No condition. -/
import Derived.Test.YtcdhaaadohmcoaaGreatDoorLwTp
namespace Lw
open Go Go.RowKit Go.Proofs

variable {G : World → Prop}

/-! ### within -/
def part (n : Nat) : Rat := Rat.divInt (Int.ofNat n) 255
theorem sz_part {n : Nat} (h : n < 256) : SzQ 1 (part n) := by
  unfold part
  exact sz_divInt (by omega) ((len_le_iff _ 1).2 (by rw [show BP 1 = 4294967296 from rfl]; simp only [Int.ofNat_eq_natCast]; omega)) ((len_le_iff _ 1).2 (by rw [show BP 1 = 4294967296 from rfl]; omega))
theorem part_unit {n : Nat} (h : n < 256) : 0 ≤ part n ∧ part n ≤ 1 := by
  unfold part
  rw [Rat.divInt_eq_div, Rat.div_def]
  have h0 : (0 : Rat) ≤ ((Int.ofNat n : Int) : Rat) := Rat.intCast_nonneg.2 (Int.natCast_nonneg n)
  have h1 : ((Int.ofNat n : Int) : Rat) ≤ ((255 : Int) : Rat) := Rat.intCast_le_intCast.2 (by simp only [Int.ofNat_eq_natCast]; omega)
  have e : ((255 : Int) : Rat) * ((255 : Int) : Rat)⁻¹ = 1 := Rat.mul_inv_cancel _ (by decide +kernel)
  have p : (0 : Rat) ≤ ((255 : Int) : Rat)⁻¹ := by decide +kernel
  refine ⟨Rat.mul_nonneg h0 p, ?_⟩
  have := Rat.mul_le_mul_of_nonneg_right h1 p
  rwa [e] at this
theorem part_mono {m n : Nat} (h : m ≤ n) : part m ≤ part n := by
  unfold part
  rw [Rat.divInt_eq_div, Rat.divInt_eq_div, Rat.div_def, Rat.div_def]
  have h1 : ((Int.ofNat m : Int) : Rat) ≤ ((Int.ofNat n : Int) : Rat) := Rat.intCast_le_intCast.2 (by simp only [Int.ofNat_eq_natCast]; omega)
  exact Rat.mul_le_mul_of_nonneg_right h1 (by decide +kernel)
/-- The number at this part of the way. -/
def wayQ (a b : Rat) (n : Nat) : Rat := a + part n * (b - a)
theorem wayQ_in {a b : Rat} (h : a ≤ b) {n : Nat} (hn : n < 256) : a ≤ wayQ a b n ∧ wayQ a b n ≤ b := by
  unfold wayQ
  obtain ⟨h1, h2⟩ := part_unit hn
  have h3 : 0 ≤ b - a := by grind
  have h4 := Rat.mul_nonneg h1 h3
  have h5 := Rat.mul_le_mul_of_nonneg_right h2 h3
  rw [Rat.one_mul] at h5
  constructor
  · grind
  · grind
theorem wayQ_mono {a b : Rat} (h : a ≤ b) {m n : Nat} (hm : m ≤ n) : wayQ a b m ≤ wayQ a b n := by
  unfold wayQ
  have h3 : 0 ≤ b - a := by grind
  have h5 := Rat.mul_le_mul_of_nonneg_right (part_mono hm) h3
  grind
theorem SzQ.way {k : Nat} {a b : Rat} (ha : SzQ k a) (hb : SzQ k b) {n : Nat} (hn : n < 256) : SzQ (k + (1 + (k + k + 1)) + 1) (wayQ a b n) := ha.add ((sz_part hn).mul (hb.sub ha))
theorem within_spec (hG : Steady G) {r : RRaw} (hr : r.ok 8) (hv : r.valid = true) {n : Nat} (hn : n < 256) : Spec Tryz.prog G 31 [r.dat, u8 n] (F (wayQ r.L r.H n)) := by
  have kb := KB_eq
  obtain ⟨z1, z2⟩ := RRaw.lo_of hv
  have qlo : IsQ 8 r.lo.dat r.L := by rw [z1]; exact Raw.ok.isQ hr.1
  have qhi : IsQ 8 r.hi.dat r.H := by rw [z2]; exact Raw.ok.isQ hr.2
  have h60 : (2:Nat) ^ 60 = 1152921504606846976 := by decide
  have e9 : IntKind.wrap .i64 (Int.ofNat n) = Int.ofNat n := convS (by omega)
  have mk := RFMake_spec (G := G) hG (i := Int.ofNat n) (j := 255) (by simp only [Int.ofNat_eq_natCast]; omega) (by simp only [Int.ofNat_eq_natCast]; omega) (by omega) (by omega) (by omega)
  have sb := RFSub_spec (G := G) hG qhi qlo (by omega) (by omega)
  have ml := RFMul_spec (G := G) hG (sz_part hn).isQ (qhi.sz.sub qlo.sz).isQ (by omega) (by omega)
  have ad := RFAdd_spec (G := G) hG qlo ((sz_part hn).mul (qhi.sz.sub qlo.sz)).isQ (by omega) (by omega)
  exact Spec.of_run hG Tryz.func31 (ro := [2]) (m := 40) [.eq 9 (eqS e9), .call mk, .call sb, .call ml, .call ad] (by kernel_rfl)

/-! ### IntervalAttains -/
theorem Attains_long (hG : Steady G) (r q : RRaw) (h : (r.short && q.short) = false) : Spec Tryz.prog G 4 [r.dat, q.dat] (bool true) := by
  have s := short_two (G := G) hG r q
  rw [h] at s
  exact Spec.of_run hG Tryz.func4 (ro := [2, 3]) (m := 60) [.call s, .call (awake_spec hG)] (by kernel_rfl)
theorem Attains_bad1 (hG : Steady G) (r q : RRaw) (h : (r.short && q.short) = true) (hv : Spec Tryz.prog G 18 [r.dat] (bool false)) : Spec Tryz.prog G 4 [r.dat, q.dat] (bool true) := by
  have s := short_two (G := G) hG r q
  rw [h] at s
  exact Spec.of_run hG Tryz.func4 (ro := [2, 3]) (m := 60) [.call s, .call hv, .call (awake_spec hG)] (by kernel_rfl)
theorem Attains_bad2 (hG : Steady G) (r q : RRaw) (h : (r.short && q.short) = true) (hu : Spec Tryz.prog G 18 [r.dat] (bool true)) (hv : Spec Tryz.prog G 18 [q.dat] (bool false)) : Spec Tryz.prog G 4 [r.dat, q.dat] (bool true) := by
  have s := short_two (G := G) hG r q
  rw [h] at s
  exact Spec.of_run hG Tryz.func4 (ro := [2, 3]) (m := 60) [.call s, .call hu, .call hv, .call (awake_spec hG)] (by kernel_rfl)
def cmp0 (a b : Rat) : Bool := cmpQ a b == 0
theorem cmp0_iff {a b : Rat} : cmp0 a b = true ↔ b = a := by
  unfold cmp0
  rw [beq_iff_eq, ← cmpQ_sub, sgn_zero]
  constructor
  · intro h; grind
  · intro h; grind
/-- The frame of the inner loop at round j; the flags f. -/
def attIn (r q : RRaw) (x : Raw) (S T M N : Rat) (i j : Nat) (f1 f2 f3 f4 : Bool) : St :=
  lay 113 [(2, .rptr r.cells), (3, .rptr q.cells), (5, .ptr 0 0), (6, .ptr 1 0), (7, bool f1), (8, bool f2), (9, bool f3), (10, bool f4), (12, .ptr 2 0), (47, .row 2 true r.cells), (48, nat 2), (49, nat i), (57, .row 2 true q.cells), (58, nat 2), (59, nat j)]
    [(0, cR S T), (1, cR M N), (2, x.cells)]
def attOut (r q : RRaw) (S T M N : Rat) (i : Nat) (f1 f2 f3 f4 : Bool) : St :=
  lay 113 [(2, .rptr r.cells), (3, .rptr q.cells), (5, .ptr 0 0), (6, .ptr 1 0), (7, bool f1), (8, bool f2), (9, bool f3), (10, bool f4), (47, .row 2 true r.cells), (48, nat 2), (49, nat i)]
    [(0, cR S T), (1, cR M N)]
theorem att_round0 (hG : Steady G) {r q : RRaw} {x : Raw} {S T M N X Y : Rat} {i : Nat} (qx : IsQ 8 x.dat X) (qy : IsQ 8 q.lo.dat Y) (sS : SzQ 17 S) (sT : SzQ 17 T) (sM : SzQ 17 M) (sN : SzQ 17 N) (f1 f2 f3 f4 : Bool) :
    Goes Tryz.prog G 0 (loopOf Tryz.f4 1) (attIn r q x S T M N i 0 f1 f2 f3 f4) .normal (attIn r q x S T M N i 1 (f1 || cmp0 (X + Y) S) (f2 || cmp0 (X + Y) T) (f3 || cmp0 (X * Y) M) (f4 || cmp0 (X * Y) N)) := by
  have kb := KB_eq
  have a1 := FAdd_spec (G := G) hG qx qy (by omega) (by omega)
  have m1 := FMul_spec (G := G) hG qx qy (by omega) (by omega)
  have c1 := FCmp_spec (G := G) hG (qx.sz.add qy.sz).isQ sS.isQ (by omega) (by omega)
  have c2 := FCmp_spec (G := G) hG (qx.sz.add qy.sz).isQ sT.isQ (by omega) (by omega)
  have c3 := FCmp_spec (G := G) hG (qx.sz.mul qy.sz).isQ sM.isQ (by omega) (by omega)
  have c4 := FCmp_spec (G := G) hG (qx.sz.mul qy.sz).isQ sN.isQ (by omega) (by omega)
  cases f1 <;> cases f2 <;> cases f3 <;> cases f4
  · exact Goes.of_run hG (ro := []) (m := 30) (lay_len ..) [.call a1, .call m1, .call c1, .call c2, .call c3, .call c4] (by kernel_rfl)
  · exact Goes.of_run hG (ro := []) (m := 30) (lay_len ..) [.call a1, .call m1, .call c1, .call c2, .call c3] (by kernel_rfl)
  · exact Goes.of_run hG (ro := []) (m := 30) (lay_len ..) [.call a1, .call m1, .call c1, .call c2, .call c4] (by kernel_rfl)
  · exact Goes.of_run hG (ro := []) (m := 30) (lay_len ..) [.call a1, .call m1, .call c1, .call c2] (by kernel_rfl)
  · exact Goes.of_run hG (ro := []) (m := 30) (lay_len ..) [.call a1, .call m1, .call c1, .call c3, .call c4] (by kernel_rfl)
  · exact Goes.of_run hG (ro := []) (m := 30) (lay_len ..) [.call a1, .call m1, .call c1, .call c3] (by kernel_rfl)
  · exact Goes.of_run hG (ro := []) (m := 30) (lay_len ..) [.call a1, .call m1, .call c1, .call c4] (by kernel_rfl)
  · exact Goes.of_run hG (ro := []) (m := 30) (lay_len ..) [.call a1, .call m1, .call c1] (by kernel_rfl)
  · exact Goes.of_run hG (ro := []) (m := 30) (lay_len ..) [.call a1, .call m1, .call c2, .call c3, .call c4] (by kernel_rfl)
  · exact Goes.of_run hG (ro := []) (m := 30) (lay_len ..) [.call a1, .call m1, .call c2, .call c3] (by kernel_rfl)
  · exact Goes.of_run hG (ro := []) (m := 30) (lay_len ..) [.call a1, .call m1, .call c2, .call c4] (by kernel_rfl)
  · exact Goes.of_run hG (ro := []) (m := 30) (lay_len ..) [.call a1, .call m1, .call c2] (by kernel_rfl)
  · exact Goes.of_run hG (ro := []) (m := 30) (lay_len ..) [.call a1, .call m1, .call c3, .call c4] (by kernel_rfl)
  · exact Goes.of_run hG (ro := []) (m := 30) (lay_len ..) [.call a1, .call m1, .call c3] (by kernel_rfl)
  · exact Goes.of_run hG (ro := []) (m := 30) (lay_len ..) [.call a1, .call m1, .call c4] (by kernel_rfl)
  · exact Goes.of_run hG (ro := []) (m := 30) (lay_len ..) [.call a1, .call m1] (by kernel_rfl)
theorem att_round1 (hG : Steady G) {r q : RRaw} {x : Raw} {S T M N X Y : Rat} {i : Nat} (qx : IsQ 8 x.dat X) (qy : IsQ 8 q.hi.dat Y) (sS : SzQ 17 S) (sT : SzQ 17 T) (sM : SzQ 17 M) (sN : SzQ 17 N) (f1 f2 f3 f4 : Bool) :
    Goes Tryz.prog G 0 (loopOf Tryz.f4 1) (attIn r q x S T M N i 1 f1 f2 f3 f4) .normal (attIn r q x S T M N i 2 (f1 || cmp0 (X + Y) S) (f2 || cmp0 (X + Y) T) (f3 || cmp0 (X * Y) M) (f4 || cmp0 (X * Y) N)) := by
  have kb := KB_eq
  have a1 := FAdd_spec (G := G) hG qx qy (by omega) (by omega)
  have m1 := FMul_spec (G := G) hG qx qy (by omega) (by omega)
  have c1 := FCmp_spec (G := G) hG (qx.sz.add qy.sz).isQ sS.isQ (by omega) (by omega)
  have c2 := FCmp_spec (G := G) hG (qx.sz.add qy.sz).isQ sT.isQ (by omega) (by omega)
  have c3 := FCmp_spec (G := G) hG (qx.sz.mul qy.sz).isQ sM.isQ (by omega) (by omega)
  have c4 := FCmp_spec (G := G) hG (qx.sz.mul qy.sz).isQ sN.isQ (by omega) (by omega)
  cases f1 <;> cases f2 <;> cases f3 <;> cases f4
  · exact Goes.of_run hG (ro := []) (m := 30) (lay_len ..) [.call a1, .call m1, .call c1, .call c2, .call c3, .call c4] (by kernel_rfl)
  · exact Goes.of_run hG (ro := []) (m := 30) (lay_len ..) [.call a1, .call m1, .call c1, .call c2, .call c3] (by kernel_rfl)
  · exact Goes.of_run hG (ro := []) (m := 30) (lay_len ..) [.call a1, .call m1, .call c1, .call c2, .call c4] (by kernel_rfl)
  · exact Goes.of_run hG (ro := []) (m := 30) (lay_len ..) [.call a1, .call m1, .call c1, .call c2] (by kernel_rfl)
  · exact Goes.of_run hG (ro := []) (m := 30) (lay_len ..) [.call a1, .call m1, .call c1, .call c3, .call c4] (by kernel_rfl)
  · exact Goes.of_run hG (ro := []) (m := 30) (lay_len ..) [.call a1, .call m1, .call c1, .call c3] (by kernel_rfl)
  · exact Goes.of_run hG (ro := []) (m := 30) (lay_len ..) [.call a1, .call m1, .call c1, .call c4] (by kernel_rfl)
  · exact Goes.of_run hG (ro := []) (m := 30) (lay_len ..) [.call a1, .call m1, .call c1] (by kernel_rfl)
  · exact Goes.of_run hG (ro := []) (m := 30) (lay_len ..) [.call a1, .call m1, .call c2, .call c3, .call c4] (by kernel_rfl)
  · exact Goes.of_run hG (ro := []) (m := 30) (lay_len ..) [.call a1, .call m1, .call c2, .call c3] (by kernel_rfl)
  · exact Goes.of_run hG (ro := []) (m := 30) (lay_len ..) [.call a1, .call m1, .call c2, .call c4] (by kernel_rfl)
  · exact Goes.of_run hG (ro := []) (m := 30) (lay_len ..) [.call a1, .call m1, .call c2] (by kernel_rfl)
  · exact Goes.of_run hG (ro := []) (m := 30) (lay_len ..) [.call a1, .call m1, .call c3, .call c4] (by kernel_rfl)
  · exact Goes.of_run hG (ro := []) (m := 30) (lay_len ..) [.call a1, .call m1, .call c3] (by kernel_rfl)
  · exact Goes.of_run hG (ro := []) (m := 30) (lay_len ..) [.call a1, .call m1, .call c4] (by kernel_rfl)
  · exact Goes.of_run hG (ro := []) (m := 30) (lay_len ..) [.call a1, .call m1] (by kernel_rfl)
theorem att_last (hG : Steady G) {r q : RRaw} {x : Raw} {S T M N : Rat} {i : Nat} (f1 f2 f3 f4 : Bool) :
    Goes Tryz.prog G 0 (loopOf Tryz.f4 1) (attIn r q x S T M N i 2 f1 f2 f3 f4) (.exit 2) (attIn r q x S T M N i 2 f1 f2 f3 f4) :=
  Goes.of_run hG (ro := []) (m := 30) (lay_len ..) [] (by kernel_rfl)
/-- A flag at round j: it hit so far. -/
def hitF (f c0 c1 : Bool) (j : Nat) : Bool := match j with
  | 0 => f
  | 1 => f || c0
  | _ => (f || c0) || c1
theorem att_inner (hG : Steady G) {r q : RRaw} {x : Raw} {S T M N X Y Z : Rat} {i : Nat} (qx : IsQ 8 x.dat X) (qy : IsQ 8 q.lo.dat Y) (qz : IsQ 8 q.hi.dat Z) (sS : SzQ 17 S) (sT : SzQ 17 T) (sM : SzQ 17 M) (sN : SzQ 17 N) (f1 f2 f3 f4 : Bool) :
    Abs Tryz.prog G 113 0 (.loop (loopOf Tryz.f4 1))
      (lay 113 [(2, .rptr r.cells), (3, .rptr q.cells), (5, .ptr 0 0), (6, .ptr 1 0), (7, bool f1), (8, bool f2), (9, bool f3), (10, bool f4), (12, .ptr 2 0), (47, .row 2 true r.cells), (48, nat 2), (49, nat i), (57, .row 2 true q.cells), (58, nat 2), (59, nat 0)]
        [(0, cR S T), (1, cR M N), (2, x.cells)]) (.exit 2)
      (attIn r q x S T M N i 2 (hitF f1 (cmp0 (X + Y) S) (cmp0 (X + Z) S) 2) (hitF f2 (cmp0 (X + Y) T) (cmp0 (X + Z) T) 2) (hitF f3 (cmp0 (X * Y) M) (cmp0 (X * Z) M) 2) (hitF f4 (cmp0 (X * Y) N) (cmp0 (X * Z) N) 2)) :=
  Abs.count (fun j => attIn r q x S T M N i j (hitF f1 (cmp0 (X + Y) S) (cmp0 (X + Z) S) j) (hitF f2 (cmp0 (X + Y) T) (cmp0 (X + Z) T) j) (hitF f3 (cmp0 (X * Y) M) (cmp0 (X * Z) M) j) (hitF f4 (cmp0 (X * Y) N) (cmp0 (X * Z) N) j)) 2 (fun j => lay_len _ _ _) (by simp)
    (fun j hj => match j, hj with
      | 0, _ => att_round0 hG qx qy sS sT sM sN f1 f2 f3 f4
      | 1, _ => att_round1 hG qx qz sS sT sM sN _ _ _ _) (att_last hG _ _ _ _)
theorem att_outer0 (hG : Steady G) {r q : RRaw} {S T M N X Y Z : Rat} (qx : IsQ 8 r.lo.dat X) (qy : IsQ 8 q.lo.dat Y) (qz : IsQ 8 q.hi.dat Z) (sS : SzQ 17 S) (sT : SzQ 17 T) (sM : SzQ 17 M) (sN : SzQ 17 N) (f1 f2 f3 f4 : Bool) :
    Goes Tryz.prog G 0 (loopOf Tryz.f4 0) (attOut r q S T M N 0 f1 f2 f3 f4) .normal
      (attOut r q S T M N 1 (hitF f1 (cmp0 (X + Y) S) (cmp0 (X + Z) S) 2) (hitF f2 (cmp0 (X + Y) T) (cmp0 (X + Z) T) 2) (hitF f3 (cmp0 (X * Y) M) (cmp0 (X * Z) M) 2) (hitF f4 (cmp0 (X * Y) N) (cmp0 (X * Z) N) 2)) :=
  Goes.of_run hG (ro := []) (m := 30) (lay_len ..) [.code (att_inner (r := r) (q := q) (i := 0) (x := r.lo) hG qx qy qz sS sT sM sN f1 f2 f3 f4)] (by kernel_rfl)
theorem att_outer1 (hG : Steady G) {r q : RRaw} {S T M N X Y Z : Rat} (qx : IsQ 8 r.hi.dat X) (qy : IsQ 8 q.lo.dat Y) (qz : IsQ 8 q.hi.dat Z) (sS : SzQ 17 S) (sT : SzQ 17 T) (sM : SzQ 17 M) (sN : SzQ 17 N) (f1 f2 f3 f4 : Bool) :
    Goes Tryz.prog G 0 (loopOf Tryz.f4 0) (attOut r q S T M N 1 f1 f2 f3 f4) .normal
      (attOut r q S T M N 2 (hitF f1 (cmp0 (X + Y) S) (cmp0 (X + Z) S) 2) (hitF f2 (cmp0 (X + Y) T) (cmp0 (X + Z) T) 2) (hitF f3 (cmp0 (X * Y) M) (cmp0 (X * Z) M) 2) (hitF f4 (cmp0 (X * Y) N) (cmp0 (X * Z) N) 2)) :=
  Goes.of_run hG (ro := []) (m := 30) (lay_len ..) [.code (att_inner (r := r) (q := q) (i := 1) (x := r.hi) hG qx qy qz sS sT sM sN f1 f2 f3 f4)] (by kernel_rfl)
theorem att_outl (hG : Steady G) {r q : RRaw} {S T M N : Rat} (f1 f2 f3 f4 : Bool) :
    Goes Tryz.prog G 0 (loopOf Tryz.f4 0) (attOut r q S T M N 2 f1 f2 f3 f4) (.exit 0) (attOut r q S T M N 2 f1 f2 f3 f4) :=
  Goes.of_run hG (ro := []) (m := 30) (lay_len ..) [] (by kernel_rfl)
def hit4 (a b c d t : Rat) : Bool := hitF (hitF false (cmp0 a t) (cmp0 b t) 2) (cmp0 c t) (cmp0 d t) 2
theorem hit4_true {a b c d t : Rat} (h : t = a ∨ t = b ∨ t = c ∨ t = d) : hit4 a b c d t = true := by
  show ((((false || cmp0 a t) || cmp0 b t) || cmp0 c t) || cmp0 d t) = true
  simp only [Bool.or_eq_true, cmp0_iff]
  rcases h with h | h | h | h
  · exact .inl (.inl (.inl (.inr h)))
  · exact .inl (.inl (.inr h))
  · exact .inl (.inr h)
  · exact .inr h
theorem att_loop (hG : Steady G) {r q : RRaw} {S T M N a b c d : Rat} (qa : IsQ 8 r.lo.dat a) (qb : IsQ 8 r.hi.dat b) (qc : IsQ 8 q.lo.dat c) (qd : IsQ 8 q.hi.dat d) (sS : SzQ 17 S) (sT : SzQ 17 T) (sM : SzQ 17 M) (sN : SzQ 17 N)
    (hS : S = a + c ∨ S = a + d ∨ S = b + c ∨ S = b + d) (hT : T = a + c ∨ T = a + d ∨ T = b + c ∨ T = b + d) (hM : M = a * c ∨ M = a * d ∨ M = b * c ∨ M = b * d) (hN : N = a * c ∨ N = a * d ∨ N = b * c ∨ N = b * d) :
    Abs Tryz.prog G 113 0 (.loop (loopOf Tryz.f4 0))
      (lay 113 [(2, .rptr r.cells), (3, .rptr q.cells), (5, .ptr 0 0), (6, .ptr 1 0), (7, bool false), (8, bool false), (9, bool false), (10, bool false), (47, .row 2 true r.cells), (48, nat 2), (49, nat 0)]
        [(0, cR S T), (1, cR M N)]) (.exit 0) (attOut r q S T M N 2 true true true true) := by
  have h := Abs.count (P := Tryz.prog) (Good := G) (fun i => attOut r q S T M N i (match i with | 0 => false | 1 => hitF false (cmp0 (a + c) S) (cmp0 (a + d) S) 2 | _ => hit4 (a + c) (a + d) (b + c) (b + d) S)
      (match i with | 0 => false | 1 => hitF false (cmp0 (a + c) T) (cmp0 (a + d) T) 2 | _ => hit4 (a + c) (a + d) (b + c) (b + d) T)
      (match i with | 0 => false | 1 => hitF false (cmp0 (a * c) M) (cmp0 (a * d) M) 2 | _ => hit4 (a * c) (a * d) (b * c) (b * d) M)
      (match i with | 0 => false | 1 => hitF false (cmp0 (a * c) N) (cmp0 (a * d) N) 2 | _ => hit4 (a * c) (a * d) (b * c) (b * d) N)) 2 (fun j => lay_len _ _ _) (by simp)
    (fun i hi => match i, hi with
      | 0, _ => att_outer0 hG qa qc qd sS sT sM sN false false false false
      | 1, _ => att_outer1 hG qb qc qd sS sT sM sN _ _ _ _) (att_outl hG _ _ _ _)
  have e : attOut r q S T M N 2 (hit4 (a + c) (a + d) (b + c) (b + d) S) (hit4 (a + c) (a + d) (b + c) (b + d) T) (hit4 (a * c) (a * d) (b * c) (b * d) M) (hit4 (a * c) (a * d) (b * c) (b * d) N) = attOut r q S T M N 2 true true true true := by
    rw [hit4_true hS, hit4_true hT, hit4_true hM, hit4_true hN]
  rw [← e]
  exact h
theorem Attains_spec (hG : Steady G) {r q : RRaw} (hr : r.digs) (hq : q.digs) : Spec Tryz.prog G 4 [r.dat, q.dat] (bool true) := by
  cases hs : (r.short && q.short) with
  | false => exact Attains_long hG r q hs
  | true =>
    have s := short_two (G := G) hG r q
    have hs' := hs
    rw [hs] at s
    simp only [Bool.and_eq_true] at hs
    have kb := KB_eq
    have okr := RRaw.short_ok hr hs.1
    have okq := RRaw.short_ok hq hs.2
    have v1 := RIValid_spec (G := G) hG okr (by omega)
    have v2 := RIValid_spec (G := G) hG okq (by omega)
    cases hv1 : r.valid with
    | false => rw [hv1] at v1; exact Attains_bad1 hG r q hs' v1
    | true =>
      rw [hv1] at v1
      cases hv2 : q.valid with
      | false => rw [hv2] at v2; exact Attains_bad2 hG r q hs' v1 v2
      | true =>
        rw [hv2] at v2
        have aw := awake_spec (G := G) hG
        have hx := RRaw.isI okr
        have hy := RRaw.isI okq
        obtain ⟨z1, z2⟩ := RRaw.lo_of hv1
        obtain ⟨z3, z4⟩ := RRaw.lo_of hv2
        have qa : IsQ 8 r.lo.dat r.L := by rw [z1]; exact Raw.ok.isQ okr.1
        have qb : IsQ 8 r.hi.dat r.H := by rw [z2]; exact Raw.ok.isQ okr.2
        have qc : IsQ 8 q.lo.dat q.L := by rw [z3]; exact Raw.ok.isQ okq.1
        have qd : IsQ 8 q.hi.dat q.H := by rw [z4]; exact Raw.ok.isQ okq.2
        have ia := IAdd_spec hG hx hy (by omega) (by omega)
        have im := IMul_spec hG hx hy (by omega)
        clear z1 z2 z3 z4 hx hy
        generalize r.L = a at *
        generalize r.H = b at *
        generalize q.L = c at *
        generalize q.H = d at *
        have sS := qa.sz.add qc.sz
        have sT := qb.sz.add qd.sz
        have sM := (SzQ.mulLo qa.sz qb.sz qc.sz qd.sz).mono (l := 17) (by omega)
        have sN := (SzQ.mulHi qa.sz qb.sz qc.sz qd.sz).mono (l := 17) (by omega)
        have lp := att_loop (G := G) hG qa qb qc qd sS sT sM sN (.inl rfl) (.inr (.inr (.inr rfl))) (mulLo_mem a b c d) (mulHi_mem a b c d)
        exact Spec.of_run hG Tryz.func4 (ro := [2, 3]) (m := 60) [.call s, .call v1, .call v2, .call aw, .call ia, .call im, .code lp] (by kernel_rfl)
end Lw
