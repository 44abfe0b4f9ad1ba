/- Two more statements about catalogues, run; their arguments opened. No condition. -/
import Derived.Test.YtobmipmefimfpaaGreatDoorLwKk
namespace Lw
open Go Go.RowKit Go.Proofs Go.ChangeShapes Go.WideShapes Go.ChangeAt

/-! ### bytes -/
def by8 (n : Nat) : D := .lit (.int .u8 (Int.ofNat n))
abbrev N4 := Nat × Nat × Nat × Nat
def N4.small (k : N4) : Prop := k.1 < 256 ∧ k.2.1 < 256 ∧ k.2.2.1 < 256 ∧ k.2.2.2 < 256
def by4 (k : N4) : List D := [by8 k.1, by8 k.2.1, by8 k.2.2.1, by8 k.2.2.2]
structure N44 where
  p : N4
  q : N4
  r : N4
  s : N4
def N44.small (k : N44) : Prop := N4.small k.p ∧ N4.small k.q ∧ N4.small k.r ∧ N4.small k.s
def N44.dat (k : N44) : D := .agg (by4 k.p ++ (by4 k.q ++ (by4 k.r ++ by4 k.s)))
section
variable {H : Type} {enc : TypeId × Value → H} {W : World} {fuel : Nat} {cs : List Value} {x : DataW H × List MemPlace}
theorem cells_b : Tryz.prog.cellsOf 5 = 1 := by kernel_rfl
theorem cells_b4 : Tryz.prog.cellsOf 63 = 4 := by kernel_rfl
theorem byte_cell (h : DataW.trod enc Tryz.prog W 0 (fun _ => true) true fuel 5 cs = some x) : ∃ m : Nat, m < 256 ∧ cs = [.int .u8 (Int.ofNat m)] := by
  obtain ⟨n, hc, -, hw⟩ := DataW.trod_int Tryz.underlying5 h
  obtain ⟨m, rfl, hm⟩ := u8_of hw
  exact ⟨m, hm, hc⟩
theorem el_byte {n m : Nat} {xs : List (DataW H × List MemPlace)} (hf : ∀ (i : Nat), i < n → DataW.trod enc Tryz.prog W 0 (fun _ => true) true m 5 ((cs.drop (i * Tryz.prog.cellsOf 5)).take (Tryz.prog.cellsOf 5)) = xs[i]?) (hn : xs.length = n) (i : Nat) (hi : i < n) :
    ∃ v : Nat, v < 256 ∧ (cs.drop i).take 1 = [.int .u8 (Int.ofNat v)] := by
  have h := hf i hi
  obtain ⟨y, e⟩ := some_of (l := xs) (i := i) (by omega)
  rw [e, cells_b, Nat.mul_one] at h
  exact byte_cell h
theorem open_b4 (h : DataW.trod enc Tryz.prog W 0 (fun _ => true) true fuel 63 cs = some x) : ∃ k : N4, N4.small k ∧ Reps W NoX cs (by4 k) ∧ cs.length = 4 := by
  obtain ⟨xs, m, -, -, hc, hn, hf⟩ := DataW.trod_array Tryz.underlying63 h
  obtain ⟨c0, c1, c2, c3, rfl⟩ := four_of (hc.trans cells_b4)
  obtain ⟨i, hi, e0⟩ := el_byte hf hn 0 (by omega)
  obtain ⟨j, hj, e1⟩ := el_byte hf hn 1 (by omega)
  obtain ⟨k, hk, e2⟩ := el_byte hf hn 2 (by omega)
  obtain ⟨l, hl, e3⟩ := el_byte hf hn 3 (by omega)
  simp only [List.drop_zero, List.drop_succ_cons, List.take_succ_cons, List.take_zero, List.cons.injEq] at e0 e1 e2 e3
  refine ⟨(i, j, k, l), ⟨hi, hj, hk, hl⟩, ?_, rfl⟩
  rw [e0.1, e1.1, e2.1, e3.1]
  exact Reps.cons (.lit _) (Reps.cons (.lit _) (Reps.cons (.lit _) (Reps.cons (.lit _) Reps.nil)))
theorem part4_arg {v : Value} {d : DataW H} {ps : List MemPlace} (h : DataW.Trod enc Tryz.prog W 0 (fun _ => true) true 63 v d ps) : ∃ k : N4, N4.small k ∧ RepP W NoX v (.agg (by4 k)) := by
  obtain ⟨f, hf⟩ := h
  obtain ⟨k, h1, h2, h3⟩ := open_b4 hf
  exact ⟨k, h1, rep_agg (n := 2) h3 h2⟩
theorem c44_arg {v : Value} {d : DataW H} {ps : List MemPlace} (h : DataW.Trod enc Tryz.prog W 0 (fun _ => true) true 64 v d ps) : ∃ k : N44, N44.small k ∧ RepP W NoX v k.dat := by
  obtain ⟨f, hf⟩ := h
  obtain ⟨xs, m, -, -, hc, hn, hf⟩ := DataW.trod_array Tryz.underlying64 hf
  have hc' : v.cells.toList.length = 16 := hc.trans (by kernel_rfl)
  obtain ⟨y0, f0⟩ := el_at hf cells_b4 hn 0 (by omega)
  obtain ⟨y1, f1⟩ := el_at hf cells_b4 hn 1 (by omega)
  obtain ⟨y2, f2⟩ := el_at hf cells_b4 hn 2 (by omega)
  obtain ⟨y3, f3⟩ := el_at hf cells_b4 hn 3 (by omega)
  obtain ⟨k0, s0, q0, -⟩ := open_b4 f0
  obtain ⟨k1, s1, q1, -⟩ := open_b4 f1
  obtain ⟨k2, s2, q2, -⟩ := open_b4 f2
  obtain ⟨k3, s3, q3, -⟩ := open_b4 f3
  exact ⟨⟨k0, k1, k2, k3⟩, ⟨s0, s1, s2, s3⟩, rep_agg (n := 14) hc' (Reps.four (a := 4) hc' q0 q1 q2 q3)⟩
end
end Lw

namespace Lw
open Go Go.RowKit Go.Proofs

variable {G : World → Prop}
theorem byte_int {m : Nat} (h : m < 256) : IntKind.wrap .i64 (Int.ofNat m) = Int.ofNat m := wrapS (by simp only [Int.ofNat_eq_natCast]; omega) (by simp only [Int.ofNat_eq_natCast]; omega)
theorem len_ne0 {n : Nat} (h : 0 < n) : Int.ofNat n ≠ 0 := by simp only [Int.ofNat_eq_natCast]; omega

/-! ### CatalogueFits -/
theorem cost_fits {y : Cat} (h : y.fine) {x : Ix} (hx : x.lt y.size) :
    (Gn.mk (y.g.getD x.g 0) (y.a.getD x.a 0) (y.c.getD x.c 0) (y.b.getD x.b 0 * y.b.getD x.b 0)).fine ∧
    (fitsAll (Gn.mk (y.g.getD x.g 0) (y.a.getD x.a 0) (y.c.getD x.c 0) (y.b.getD x.b 0 * y.b.getD x.b 0)) y.p ↔ y.low x x = 0) := by
  have p0 := ((h.1 0 (by omega)).2.2.1 _ (getD_mem (l := y.g) hx.1 0)).2
  have p1 := ((h.1 1 (by omega)).2.2.1 _ (getD_mem (l := y.a) hx.2.1 0)).2
  have p2 := ((h.1 2 (by omega)).2.2.1 _ (getD_mem (l := y.b) hx.2.2.1 0)).2
  have p3 := ((h.1 3 (by omega)).2.2.1 _ (getD_mem (l := y.c) hx.2.2.2 0)).2
  have fn : (Gn.mk (y.g.getD x.g 0) (y.a.getD x.a 0) (y.c.getD x.c 0) (y.b.getD x.b 0 * y.b.getD x.b 0)).fine :=
    ⟨p0, Rat.mul_pos p2 p2, fun e => absurd p1 (Rat.not_lt.2 (by rw [show y.a.getD x.a 0 = 0 from e]; exact Rat.le_refl)), fun e => absurd p3 (Rat.not_lt.2 (by rw [show y.c.getD x.c 0 = 0 from e]; exact Rat.le_refl))⟩
  refine ⟨fn, ?_⟩
  have cz := cost_zero (y.g.getD x.g 0) (y.a.getD x.a 0) (y.b.getD x.b 0) (y.c.getD x.c 0) (y.p.map Vp.pr) (fun p hp => by obtain ⟨v, -, rfl⟩ := List.mem_map.1 hp; exact v.unit)
  have e : y.low x x = (Bx.at (y.g.getD x.g 0) (y.a.getD x.a 0) (y.b.getD x.b 0) (y.c.getD x.c 0)).low (y.p.map Vp.pr) 0 := rfl
  rw [e, cz]
  unfold fitsAll
  constructor
  · intro g p hp
    obtain ⟨v, hv, rfl⟩ := List.mem_map.1 hp
    exact (Gn.fits_iff fn v.unit).2 (g v hv)
  · intro g v hv
    exact (Gn.fits_iff fn v.unit).1 (g v.pr (List.mem_map.2 ⟨v, hv, rfl⟩))
theorem Fits49 (hG : Steady G) {x : RCt} (hd : x.digs) (hb : x.far) {k : N4} (hk : N4.small k) : Spec Tryz.prog G 9 [x.dat, .agg (by4 k)] (bool true) := by
  have aw := awake49 (G := G) hG
  have sh := CShort (G := G) hG hb
  have kb := KB_eq
  by_cases hs : x.short
  case neg =>
    rw [decide_eq_false hs] at sh
    exact Spec.of_run hG Tryz.func9 (ro := [2, 3]) (m := 60) [.call aw, .call sh, .call aw] (by kernel_rfl)
  rw [decide_eq_true hs] at sh
  have pc := PCheck (G := G) hG hd hb hs
  by_cases hc : x.code = 0
  case neg =>
    rw [errOf_ne hc] at pc
    generalize x.code = c at pc
    exact Spec.of_run hG Tryz.func9 (ro := [2, 3]) (m := 60) [.call aw, .call sh, .call pc, .call aw] (by kernel_rfl)
  obtain ⟨y, fy, rfl⟩ := cat_of hd hs hc
  have gy := good_of (G := G) hG fy hc
  rw [hc] at pc
  obtain ⟨k0, k1, k2, k3⟩ := k
  obtain ⟨h0, h1, h2, h3⟩ := hk
  simp only at h0 h1 h2 h3
  have n0 : 0 < (y.g.map rawOf).length := by rw [List.length_map]; exact (fy.1 0 (by omega)).1
  have n1 : 0 < (y.a.map rawOf).length := by rw [List.length_map]; exact (fy.1 1 (by omega)).1
  have n2 : 0 < (y.b.map rawOf).length := by rw [List.length_map]; exact (fy.1 2 (by omega)).1
  have n3 : 0 < (y.c.map rawOf).length := by rw [List.length_map]; exact (fy.1 3 (by omega)).1
  have m0 : k0 % (y.g.map rawOf).length < y.g.length := by have := Nat.mod_lt k0 n0; rwa [List.length_map] at this ⊢
  have m1 : k1 % (y.a.map rawOf).length < y.a.length := by have := Nat.mod_lt k1 n1; rwa [List.length_map] at this ⊢
  have m2 : k2 % (y.b.map rawOf).length < y.b.length := by have := Nat.mod_lt k2 n2; rwa [List.length_map] at this ⊢
  have m3 : k3 % (y.c.map rawOf).length < y.c.length := by have := Nat.mod_lt k3 n3; rwa [List.length_map] at this ⊢
  have hx : (Ix.mk (k0 % (y.g.map rawOf).length) (k1 % (y.a.map rawOf).length) (k2 % (y.b.map rawOf).length) (k3 % (y.c.map rawOf).length)).lt y.size := ⟨m0, m1, m2, m3⟩
  have co := PCost_ok gy hG hx
  have sq := f_sz fy hx
  obtain ⟨fn, iff⟩ := cost_fits fy hx
  have s0 := sz_at (fy.1 0 (by omega)) m0
  have s1 := sz_at (fy.1 1 (by omega)) m1
  have s2 := sz_at (fy.1 2 (by omega)) m2
  have s3 := sz_at (fy.1 3 (by omega)) m3
  have ml := FMul_spec (G := G) hG s2.isQ s2.isQ (by omega) (by omega)
  have ft := Fits_ok (G := G) (n := 2) (k := 2) (vs := y.p) hG ⟨s0.mono (by omega), s1.mono (by omega), s3.mono (by omega), s2.mul s2⟩ fn fy.2.2 (by omega) (by have := fy.2.1.2; omega)
  have sg := FSign_spec (G := G) hG sq.isQ (by omega)
  have a0 := aggR m0
  have a1 := aggR m1
  have a2 := aggR m2
  have a3 := aggR m3
  simp only at iff ft ml
  have ed := sgn_dec (y.f (Ix.mk (k0 % (y.g.map rawOf).length) (k1 % (y.a.map rawOf).length) (k2 % (y.b.map rawOf).length) (k3 % (y.c.map rawOf).length)))
  have en : (sgn (y.f (Ix.mk (k0 % (y.g.map rawOf).length) (k1 % (y.a.map rawOf).length) (k2 % (y.b.map rawOf).length) (k3 % (y.c.map rawOf).length))) == 0) = decide (fitsAll (Gn.mk (y.g.getD (k0 % (y.g.map rawOf).length) 0) (y.a.getD (k1 % (y.a.map rawOf).length) 0) (y.c.getD (k3 % (y.c.map rawOf).length) 0) (y.b.getD (k2 % (y.b.map rawOf).length) 0 * y.b.getD (k2 % (y.b.map rawOf).length) 0)) y.p) := by
    rw [ed]; exact decide_eq_decide.2 iff.symm
  clear ed iff
  have e1 := eqS (byte_int h0)
  have e2 := eqS (byte_int h1)
  have e3 := eqS (byte_int h2)
  have e4 := eqS (byte_int h3)
  cases hv : decide (fitsAll (Gn.mk (y.g.getD (k0 % (y.g.map rawOf).length) 0) (y.a.getD (k1 % (y.a.map rawOf).length) 0) (y.c.getD (k3 % (y.c.map rawOf).length) 0) (y.b.getD (k2 % (y.b.map rawOf).length) 0 * y.b.getD (k2 % (y.b.map rawOf).length) 0)) y.p) with
  | true =>
    rw [hv] at ft en
    exact Spec.of_run hG Tryz.func9 (ro := [2, 3]) (m := 60)
      [.call aw, .call sh, .call pc, .call (CLists hG y.raw), .eq 37 e1, .prop (len_ne0 n0), .eq 37 e2, .prop (len_ne0 n1), .eq 37 e3, .prop (len_ne0 n2), .eq 37 e4, .prop (len_ne0 n3),
       .eq 46 (Eq.refl (nat (k2 % (y.b.map rawOf).length))), .prop (atR m2), .prop (loR m2), .eq 48 a2,
       .eq 52 (Eq.refl (nat (k0 % (y.g.map rawOf).length))), .prop (atR m0), .prop (loR m0), .eq 54 a0,
       .eq 58 (Eq.refl (nat (k1 % (y.a.map rawOf).length))), .prop (atR m1), .prop (loR m1), .eq 60 a1,
       .eq 64 (Eq.refl (nat (k3 % (y.c.map rawOf).length))), .prop (atR m3), .prop (loR m3), .eq 66 a3,
       .call ml, .call co, .call ft, .call sg, .eq 94 (Lw.eqB en)] (by kernel_rfl)
  | false =>
    rw [hv] at ft en
    exact Spec.of_run hG Tryz.func9 (ro := [2, 3]) (m := 60)
      [.call aw, .call sh, .call pc, .call (CLists hG y.raw), .eq 37 e1, .prop (len_ne0 n0), .eq 37 e2, .prop (len_ne0 n1), .eq 37 e3, .prop (len_ne0 n2), .eq 37 e4, .prop (len_ne0 n3),
       .eq 46 (Eq.refl (nat (k2 % (y.b.map rawOf).length))), .prop (atR m2), .prop (loR m2), .eq 48 a2,
       .eq 52 (Eq.refl (nat (k0 % (y.g.map rawOf).length))), .prop (atR m0), .prop (loR m0), .eq 54 a0,
       .eq 58 (Eq.refl (nat (k1 % (y.a.map rawOf).length))), .prop (atR m1), .prop (loR m1), .eq 60 a1,
       .eq 64 (Eq.refl (nat (k3 % (y.c.map rawOf).length))), .prop (atR m3), .prop (loR m3), .eq 66 a3,
       .call ml, .call co, .call ft, .call sg, .eq 94 (Lw.eqB en)] (by kernel_rfl)

/-! ### CatalogueUnder -/
theorem min_ix (a b : Nat) : (if Int.ofNat b < Int.ofNat a then Int.ofNat b else Int.ofNat a) = Int.ofNat (min a b) := by
  simp only [Int.ofNat_eq_natCast]
  split <;> omega
theorem max_ix (a b : Nat) : (if Int.ofNat a < Int.ofNat b then Int.ofNat b else Int.ofNat a) = Int.ofNat (max a b) := by
  simp only [Int.ofNat_eq_natCast]
  split <;> omega
/-- What the corners say of an axis with n lengths. -/
structure Ax where
  n : Nat
  p : Nat
  q : Nat
  r : Nat
  s : Nat
def Ax.lo (x : Ax) : Nat := min (x.p % x.n) (x.q % x.n)
def Ax.hi (x : Ax) : Nat := max (x.p % x.n) (x.q % x.n)
def Ax.m (x : Ax) : Nat := x.hi - x.lo + 1
def Ax.lo2 (x : Ax) : Nat := x.lo + min (x.r % x.m) (x.s % x.m)
def Ax.hi2 (x : Ax) : Nat := x.lo + max (x.r % x.m) (x.s % x.m)
def ixLo (a b c d : Ax) : Ix := ⟨a.lo, b.lo, c.lo, d.lo⟩
def ixHi (a b c d : Ax) : Ix := ⟨a.hi, b.hi, c.hi, d.hi⟩
def ixLo2 (a b c d : Ax) : Ix := ⟨a.lo2, b.lo2, c.lo2, d.lo2⟩
def ixHi2 (a b c d : Ax) : Ix := ⟨a.hi2, b.hi2, c.hi2, d.hi2⟩
theorem Ax.order (x : Ax) (h : 0 < x.n) : x.lo ≤ x.lo2 ∧ x.lo2 ≤ x.hi2 ∧ x.hi2 ≤ x.hi ∧ x.hi < x.n ∧ x.lo ≤ x.hi := by
  have h1 := Nat.mod_lt x.p h
  have h2 := Nat.mod_lt x.q h
  have hm : 0 < x.m := Nat.succ_pos _
  have h3 := Nat.mod_lt x.r hm
  have h4 := Nat.mod_lt x.s hm
  have e : x.m = x.hi - x.lo + 1 := rfl
  have l : x.lo ≤ x.hi := by unfold Ax.lo Ax.hi; omega
  have hh : x.hi < x.n := by unfold Ax.hi; omega
  refine ⟨by unfold Ax.lo2; omega, by unfold Ax.lo2 Ax.hi2; omega, ?_, hh, l⟩
  unfold Ax.hi2
  omega
theorem sgn_ge {a : Rat} (h : 0 ≤ a) : decide (sgn a ≥ 0) = true := by
  refine decide_eq_true ?_
  rcases sgn_cases a with ⟨h1, -⟩ | ⟨-, h2⟩ | ⟨-, h2⟩
  · exact absurd h1 (Rat.not_lt.2 h)
  · rw [h2]; decide
  · rw [h2]; decide
theorem add_ix' {a b : Nat} (ha : a ≤ 9) (hb : b ≤ 9) : IntKind.wrap .i64 (Int.ofNat a + Int.ofNat b) = Int.ofNat (a + b) := by
  rw [wrapS (by simp only [Int.ofNat_eq_natCast]; omega) (by simp only [Int.ofNat_eq_natCast]; omega)]
  simp only [Int.ofNat_eq_natCast]; omega

theorem Under_spec (hG : Steady G) {x : RCt} (hd : x.digs) (hb : x.far) {k : N44} (hk : N44.small k) : Spec Tryz.prog G 7 [x.dat, k.dat] (bool true) := by
  have aw := awake49 (G := G) hG
  have sh := CShort (G := G) hG hb
  have kb := KB_eq
  by_cases hs : x.short
  case neg =>
    rw [decide_eq_false hs] at sh
    exact Spec.of_run hG Tryz.func7 (ro := [2, 3]) (m := 60) [.call aw, .call sh, .call aw] (by kernel_rfl)
  rw [decide_eq_true hs] at sh
  have pc := PCheck (G := G) hG hd hb hs
  by_cases hc : x.code = 0
  case neg =>
    rw [errOf_ne hc] at pc
    generalize x.code = c at pc
    exact Spec.of_run hG Tryz.func7 (ro := [2, 3]) (m := 60) [.call aw, .call sh, .call pc, .call aw] (by kernel_rfl)
  obtain ⟨y, fy, rfl⟩ := cat_of hd hs hc
  have gy := good_of (G := G) hG fy hc
  rw [hc] at pc
  obtain ⟨⟨p0, p1, p2, p3⟩, ⟨q0, q1, q2, q3⟩, ⟨r0, r1, r2, r3⟩, ⟨s0, s1, s2, s3⟩⟩ := k
  obtain ⟨⟨hp0, hp1, hp2, hp3⟩, ⟨hq0, hq1, hq2, hq3⟩, ⟨hr0, hr1, hr2, hr3⟩, ⟨hs0, hs1, hs2, hs3⟩⟩ := hk
  simp only at hp0 hp1 hp2 hp3 hq0 hq1 hq2 hq3 hr0 hr1 hr2 hr3 hs0 hs1 hs2 hs3
  have n0 : 0 < (y.g.map rawOf).length := by rw [List.length_map]; exact (fy.1 0 (by omega)).1
  have z0 : (y.g.map rawOf).length ≤ 4 := by rw [List.length_map]; exact (fy.1 0 (by omega)).2.1
  have o0 := Ax.order ⟨(y.g.map rawOf).length, p0, q0, r0, s0⟩ n0
  have n1 : 0 < (y.a.map rawOf).length := by rw [List.length_map]; exact (fy.1 1 (by omega)).1
  have z1 : (y.a.map rawOf).length ≤ 4 := by rw [List.length_map]; exact (fy.1 1 (by omega)).2.1
  have o1 := Ax.order ⟨(y.a.map rawOf).length, p1, q1, r1, s1⟩ n1
  have n2 : 0 < (y.b.map rawOf).length := by rw [List.length_map]; exact (fy.1 2 (by omega)).1
  have z2 : (y.b.map rawOf).length ≤ 4 := by rw [List.length_map]; exact (fy.1 2 (by omega)).2.1
  have o2 := Ax.order ⟨(y.b.map rawOf).length, p2, q2, r2, s2⟩ n2
  have n3 : 0 < (y.c.map rawOf).length := by rw [List.length_map]; exact (fy.1 3 (by omega)).1
  have z3 : (y.c.map rawOf).length ≤ 4 := by rw [List.length_map]; exact (fy.1 3 (by omega)).2.1
  have o3 := Ax.order ⟨(y.c.map rawOf).length, p3, q3, r3, s3⟩ n3
  have w1 : (ixLo (Ax.mk (y.g.map rawOf).length p0 q0 r0 s0) (Ax.mk (y.a.map rawOf).length p1 q1 r1 s1) (Ax.mk (y.b.map rawOf).length p2 q2 r2 s2) (Ax.mk (y.c.map rawOf).length p3 q3 r3 s3)).le (ixLo2 (Ax.mk (y.g.map rawOf).length p0 q0 r0 s0) (Ax.mk (y.a.map rawOf).length p1 q1 r1 s1) (Ax.mk (y.b.map rawOf).length p2 q2 r2 s2) (Ax.mk (y.c.map rawOf).length p3 q3 r3 s3)) := ⟨o0.1, o1.1, o2.1, o3.1⟩
  have w2 : (ixLo2 (Ax.mk (y.g.map rawOf).length p0 q0 r0 s0) (Ax.mk (y.a.map rawOf).length p1 q1 r1 s1) (Ax.mk (y.b.map rawOf).length p2 q2 r2 s2) (Ax.mk (y.c.map rawOf).length p3 q3 r3 s3)).le (ixHi2 (Ax.mk (y.g.map rawOf).length p0 q0 r0 s0) (Ax.mk (y.a.map rawOf).length p1 q1 r1 s1) (Ax.mk (y.b.map rawOf).length p2 q2 r2 s2) (Ax.mk (y.c.map rawOf).length p3 q3 r3 s3)) := ⟨o0.2.1, o1.2.1, o2.2.1, o3.2.1⟩
  have w3 : (ixHi2 (Ax.mk (y.g.map rawOf).length p0 q0 r0 s0) (Ax.mk (y.a.map rawOf).length p1 q1 r1 s1) (Ax.mk (y.b.map rawOf).length p2 q2 r2 s2) (Ax.mk (y.c.map rawOf).length p3 q3 r3 s3)).le (ixHi (Ax.mk (y.g.map rawOf).length p0 q0 r0 s0) (Ax.mk (y.a.map rawOf).length p1 q1 r1 s1) (Ax.mk (y.b.map rawOf).length p2 q2 r2 s2) (Ax.mk (y.c.map rawOf).length p3 q3 r3 s3)) := ⟨o0.2.2.1, o1.2.2.1, o2.2.2.1, o3.2.2.1⟩
  have t0 : (Ax.mk (y.g.map rawOf).length p0 q0 r0 s0).hi < y.g.length := by have := o0.2.2.2.1; rwa [List.length_map] at this ⊢
  have t1 : (Ax.mk (y.a.map rawOf).length p1 q1 r1 s1).hi < y.a.length := by have := o1.2.2.2.1; rwa [List.length_map] at this ⊢
  have t2 : (Ax.mk (y.b.map rawOf).length p2 q2 r2 s2).hi < y.b.length := by have := o2.2.2.2.1; rwa [List.length_map] at this ⊢
  have t3 : (Ax.mk (y.c.map rawOf).length p3 q3 r3 s3).hi < y.c.length := by have := o3.2.2.2.1; rwa [List.length_map] at this ⊢
  have w4 : (ixHi (Ax.mk (y.g.map rawOf).length p0 q0 r0 s0) (Ax.mk (y.a.map rawOf).length p1 q1 r1 s1) (Ax.mk (y.b.map rawOf).length p2 q2 r2 s2) (Ax.mk (y.c.map rawOf).length p3 q3 r3 s3)).lt y.size := ⟨t0, t1, t2, t3⟩
  have w5 : (ixLo (Ax.mk (y.g.map rawOf).length p0 q0 r0 s0) (Ax.mk (y.a.map rawOf).length p1 q1 r1 s1) (Ax.mk (y.b.map rawOf).length p2 q2 r2 s2) (Ax.mk (y.c.map rawOf).length p3 q3 r3 s3)).le (ixHi (Ax.mk (y.g.map rawOf).length p0 q0 r0 s0) (Ax.mk (y.a.map rawOf).length p1 q1 r1 s1) (Ax.mk (y.b.map rawOf).length p2 q2 r2 s2) (Ax.mk (y.c.map rawOf).length p3 q3 r3 s3)) := Ix.le_trans w1 (Ix.le_trans w2 w3)
  have w6 : (ixHi2 (Ax.mk (y.g.map rawOf).length p0 q0 r0 s0) (Ax.mk (y.a.map rawOf).length p1 q1 r1 s1) (Ax.mk (y.b.map rawOf).length p2 q2 r2 s2) (Ax.mk (y.c.map rawOf).length p3 q3 r3 s3)).lt y.size := Ix.lt_of_le w3 w4
  have w7 : (ixLo2 (Ax.mk (y.g.map rawOf).length p0 q0 r0 s0) (Ax.mk (y.a.map rawOf).length p1 q1 r1 s1) (Ax.mk (y.b.map rawOf).length p2 q2 r2 s2) (Ax.mk (y.c.map rawOf).length p3 q3 r3 s3)).lt y.size := Ix.lt_of_le w2 w6
  have L1 := PLower_ok gy hG w5 w4
  have L2 := PLower_ok gy hG w2 w6
  have L3 := PLower_ok gy hG (Ix.le_refl (ixLo2 (Ax.mk (y.g.map rawOf).length p0 q0 r0 s0) (Ax.mk (y.a.map rawOf).length p1 q1 r1 s1) (Ax.mk (y.b.map rawOf).length p2 q2 r2 s2) (Ax.mk (y.c.map rawOf).length p3 q3 r3 s3))) w7
  have C4 := PCost_ok gy hG w7
  have S1 := low_sz fy w5 w4
  have S2 := low_sz fy w2 w6
  have S3 := low_sz fy (Ix.le_refl (ixLo2 (Ax.mk (y.g.map rawOf).length p0 q0 r0 s0) (Ax.mk (y.a.map rawOf).length p1 q1 r1 s1) (Ax.mk (y.b.map rawOf).length p2 q2 r2 s2) (Ax.mk (y.c.map rawOf).length p3 q3 r3 s3))) w7
  have M1 := low_mono' fy w1 w2 w3 w4
  have M2 := low_mono' fy (Ix.le_refl (ixLo2 (Ax.mk (y.g.map rawOf).length p0 q0 r0 s0) (Ax.mk (y.a.map rawOf).length p1 q1 r1 s1) (Ax.mk (y.b.map rawOf).length p2 q2 r2 s2) (Ax.mk (y.c.map rawOf).length p3 q3 r3 s3))) (Ix.le_refl (ixLo2 (Ax.mk (y.g.map rawOf).length p0 q0 r0 s0) (Ax.mk (y.a.map rawOf).length p1 q1 r1 s1) (Ax.mk (y.b.map rawOf).length p2 q2 r2 s2) (Ax.mk (y.c.map rawOf).length p3 q3 r3 s3))) w2 w6
  have P1 : 0 ≤ y.low (ixLo (Ax.mk (y.g.map rawOf).length p0 q0 r0 s0) (Ax.mk (y.a.map rawOf).length p1 q1 r1 s1) (Ax.mk (y.b.map rawOf).length p2 q2 r2 s2) (Ax.mk (y.c.map rawOf).length p3 q3 r3 s3)) (ixHi (Ax.mk (y.g.map rawOf).length p0 q0 r0 s0) (Ax.mk (y.a.map rawOf).length p1 q1 r1 s1) (Ax.mk (y.b.map rawOf).length p2 q2 r2 s2) (Ax.mk (y.c.map rawOf).length p3 q3 r3 s3)) := Bx.low_nonneg _ _ Rat.le_refl
  generalize y.low (ixLo (Ax.mk (y.g.map rawOf).length p0 q0 r0 s0) (Ax.mk (y.a.map rawOf).length p1 q1 r1 s1) (Ax.mk (y.b.map rawOf).length p2 q2 r2 s2) (Ax.mk (y.c.map rawOf).length p3 q3 r3 s3)) (ixHi (Ax.mk (y.g.map rawOf).length p0 q0 r0 s0) (Ax.mk (y.a.map rawOf).length p1 q1 r1 s1) (Ax.mk (y.b.map rawOf).length p2 q2 r2 s2) (Ax.mk (y.c.map rawOf).length p3 q3 r3 s3)) = X at L1 S1 M1 P1
  generalize y.low (ixLo2 (Ax.mk (y.g.map rawOf).length p0 q0 r0 s0) (Ax.mk (y.a.map rawOf).length p1 q1 r1 s1) (Ax.mk (y.b.map rawOf).length p2 q2 r2 s2) (Ax.mk (y.c.map rawOf).length p3 q3 r3 s3)) (ixHi2 (Ax.mk (y.g.map rawOf).length p0 q0 r0 s0) (Ax.mk (y.a.map rawOf).length p1 q1 r1 s1) (Ax.mk (y.b.map rawOf).length p2 q2 r2 s2) (Ax.mk (y.c.map rawOf).length p3 q3 r3 s3)) = Y at L2 S2 M1 M2
  generalize y.low (ixLo2 (Ax.mk (y.g.map rawOf).length p0 q0 r0 s0) (Ax.mk (y.a.map rawOf).length p1 q1 r1 s1) (Ax.mk (y.b.map rawOf).length p2 q2 r2 s2) (Ax.mk (y.c.map rawOf).length p3 q3 r3 s3)) (ixLo2 (Ax.mk (y.g.map rawOf).length p0 q0 r0 s0) (Ax.mk (y.a.map rawOf).length p1 q1 r1 s1) (Ax.mk (y.b.map rawOf).length p2 q2 r2 s2) (Ax.mk (y.c.map rawOf).length p3 q3 r3 s3)) = Z at L3 C4 S3 M2
  have c1 := FCmp_spec (G := G) hG S1.isQ S2.isQ (by omega) (by omega)
  have c2 := FCmp_spec (G := G) hG S2.isQ S3.isQ (by omega) (by omega)
  have c3 := FCmp_spec (G := G) hG S3.isQ S3.isQ (by omega) (by omega)
  have sg := FSign_spec (G := G) hG S1.isQ (by omega)
  have b0 := o0.2.2.2.1
  have d0 := o0.2.2.2.2
  have mm0 : 0 < (Ax.mk (y.g.map rawOf).length p0 q0 r0 s0).m := Nat.succ_pos _
  have mr0 := Nat.mod_lt r0 mm0
  have ms0 := Nat.mod_lt s0 mm0
  have me0 : (Ax.mk (y.g.map rawOf).length p0 q0 r0 s0).m = (Ax.mk (y.g.map rawOf).length p0 q0 r0 s0).hi - (Ax.mk (y.g.map rawOf).length p0 q0 r0 s0).lo + 1 := rfl
  simp only at b0
  have b1 := o1.2.2.2.1
  have d1 := o1.2.2.2.2
  have mm1 : 0 < (Ax.mk (y.a.map rawOf).length p1 q1 r1 s1).m := Nat.succ_pos _
  have mr1 := Nat.mod_lt r1 mm1
  have ms1 := Nat.mod_lt s1 mm1
  have me1 : (Ax.mk (y.a.map rawOf).length p1 q1 r1 s1).m = (Ax.mk (y.a.map rawOf).length p1 q1 r1 s1).hi - (Ax.mk (y.a.map rawOf).length p1 q1 r1 s1).lo + 1 := rfl
  simp only at b1
  have b2 := o2.2.2.2.1
  have d2 := o2.2.2.2.2
  have mm2 : 0 < (Ax.mk (y.b.map rawOf).length p2 q2 r2 s2).m := Nat.succ_pos _
  have mr2 := Nat.mod_lt r2 mm2
  have ms2 := Nat.mod_lt s2 mm2
  have me2 : (Ax.mk (y.b.map rawOf).length p2 q2 r2 s2).m = (Ax.mk (y.b.map rawOf).length p2 q2 r2 s2).hi - (Ax.mk (y.b.map rawOf).length p2 q2 r2 s2).lo + 1 := rfl
  simp only at b2
  have b3 := o3.2.2.2.1
  have d3 := o3.2.2.2.2
  have mm3 : 0 < (Ax.mk (y.c.map rawOf).length p3 q3 r3 s3).m := Nat.succ_pos _
  have mr3 := Nat.mod_lt r3 mm3
  have ms3 := Nat.mod_lt s3 mm3
  have me3 : (Ax.mk (y.c.map rawOf).length p3 q3 r3 s3).m = (Ax.mk (y.c.map rawOf).length p3 q3 r3 s3).hi - (Ax.mk (y.c.map rawOf).length p3 q3 r3 s3).lo + 1 := rfl
  simp only at b3
  exact Spec.of_run hG Tryz.func7 (ro := [2, 3]) (m := 60)
    [.call aw,
     .call sh,
     .call pc,
     .call (CLists hG y.raw),
     .eq 49 (eqS (byte_int hp0)),
     .prop (len_ne0 n0),
     .eq 51 (Eq.refl (nat (p0 % (y.g.map rawOf).length))),
     .eq 56 (eqS (byte_int hq0)),
     .prop (len_ne0 n0),
     .eq 58 (Eq.refl (nat (q0 % (y.g.map rawOf).length))),
     .eq 63 (eqS (min_ix (p0 % (y.g.map rawOf).length) (q0 % (y.g.map rawOf).length))),
     .eq 66 (eqS (max_ix (p0 % (y.g.map rawOf).length) (q0 % (y.g.map rawOf).length))),
     .eq 75 (eqS (sub_ix (a := (Ax.mk (y.g.map rawOf).length p0 q0 r0 s0).lo) (b := (Ax.mk (y.g.map rawOf).length p0 q0 r0 s0).hi) d0 (by omega))),
     .eq 76 (eqS (nat_succ' (i := (Ax.mk (y.g.map rawOf).length p0 q0 r0 s0).hi - (Ax.mk (y.g.map rawOf).length p0 q0 r0 s0).lo) (n := 9) (by omega) (by omega))),
     .eq 81 (eqS (byte_int hr0)),
     .prop (len_ne0 mm0),
     .eq 83 (Eq.refl (nat (r0 % (Ax.mk (y.g.map rawOf).length p0 q0 r0 s0).m))),
     .eq 88 (eqS (byte_int hs0)),
     .prop (len_ne0 mm0),
     .eq 90 (Eq.refl (nat (s0 % (Ax.mk (y.g.map rawOf).length p0 q0 r0 s0).m))),
     .eq 98 (eqS (min_ix (r0 % (Ax.mk (y.g.map rawOf).length p0 q0 r0 s0).m) (s0 % (Ax.mk (y.g.map rawOf).length p0 q0 r0 s0).m))),
     .eq 99 (eqS (add_ix' (a := (Ax.mk (y.g.map rawOf).length p0 q0 r0 s0).lo) (b := min (r0 % (Ax.mk (y.g.map rawOf).length p0 q0 r0 s0).m) (s0 % (Ax.mk (y.g.map rawOf).length p0 q0 r0 s0).m)) (by omega) (by omega))),
     .eq 105 (eqS (max_ix (r0 % (Ax.mk (y.g.map rawOf).length p0 q0 r0 s0).m) (s0 % (Ax.mk (y.g.map rawOf).length p0 q0 r0 s0).m))),
     .eq 106 (eqS (add_ix' (a := (Ax.mk (y.g.map rawOf).length p0 q0 r0 s0).lo) (b := max (r0 % (Ax.mk (y.g.map rawOf).length p0 q0 r0 s0).m) (s0 % (Ax.mk (y.g.map rawOf).length p0 q0 r0 s0).m)) (by omega) (by omega))),
     .eq 49 (eqS (byte_int hp1)),
     .prop (len_ne0 n1),
     .eq 51 (Eq.refl (nat (p1 % (y.a.map rawOf).length))),
     .eq 56 (eqS (byte_int hq1)),
     .prop (len_ne0 n1),
     .eq 58 (Eq.refl (nat (q1 % (y.a.map rawOf).length))),
     .eq 63 (eqS (min_ix (p1 % (y.a.map rawOf).length) (q1 % (y.a.map rawOf).length))),
     .eq 66 (eqS (max_ix (p1 % (y.a.map rawOf).length) (q1 % (y.a.map rawOf).length))),
     .eq 75 (eqS (sub_ix (a := (Ax.mk (y.a.map rawOf).length p1 q1 r1 s1).lo) (b := (Ax.mk (y.a.map rawOf).length p1 q1 r1 s1).hi) d1 (by omega))),
     .eq 76 (eqS (nat_succ' (i := (Ax.mk (y.a.map rawOf).length p1 q1 r1 s1).hi - (Ax.mk (y.a.map rawOf).length p1 q1 r1 s1).lo) (n := 9) (by omega) (by omega))),
     .eq 81 (eqS (byte_int hr1)),
     .prop (len_ne0 mm1),
     .eq 83 (Eq.refl (nat (r1 % (Ax.mk (y.a.map rawOf).length p1 q1 r1 s1).m))),
     .eq 88 (eqS (byte_int hs1)),
     .prop (len_ne0 mm1),
     .eq 90 (Eq.refl (nat (s1 % (Ax.mk (y.a.map rawOf).length p1 q1 r1 s1).m))),
     .eq 98 (eqS (min_ix (r1 % (Ax.mk (y.a.map rawOf).length p1 q1 r1 s1).m) (s1 % (Ax.mk (y.a.map rawOf).length p1 q1 r1 s1).m))),
     .eq 99 (eqS (add_ix' (a := (Ax.mk (y.a.map rawOf).length p1 q1 r1 s1).lo) (b := min (r1 % (Ax.mk (y.a.map rawOf).length p1 q1 r1 s1).m) (s1 % (Ax.mk (y.a.map rawOf).length p1 q1 r1 s1).m)) (by omega) (by omega))),
     .eq 105 (eqS (max_ix (r1 % (Ax.mk (y.a.map rawOf).length p1 q1 r1 s1).m) (s1 % (Ax.mk (y.a.map rawOf).length p1 q1 r1 s1).m))),
     .eq 106 (eqS (add_ix' (a := (Ax.mk (y.a.map rawOf).length p1 q1 r1 s1).lo) (b := max (r1 % (Ax.mk (y.a.map rawOf).length p1 q1 r1 s1).m) (s1 % (Ax.mk (y.a.map rawOf).length p1 q1 r1 s1).m)) (by omega) (by omega))),
     .eq 49 (eqS (byte_int hp2)),
     .prop (len_ne0 n2),
     .eq 51 (Eq.refl (nat (p2 % (y.b.map rawOf).length))),
     .eq 56 (eqS (byte_int hq2)),
     .prop (len_ne0 n2),
     .eq 58 (Eq.refl (nat (q2 % (y.b.map rawOf).length))),
     .eq 63 (eqS (min_ix (p2 % (y.b.map rawOf).length) (q2 % (y.b.map rawOf).length))),
     .eq 66 (eqS (max_ix (p2 % (y.b.map rawOf).length) (q2 % (y.b.map rawOf).length))),
     .eq 75 (eqS (sub_ix (a := (Ax.mk (y.b.map rawOf).length p2 q2 r2 s2).lo) (b := (Ax.mk (y.b.map rawOf).length p2 q2 r2 s2).hi) d2 (by omega))),
     .eq 76 (eqS (nat_succ' (i := (Ax.mk (y.b.map rawOf).length p2 q2 r2 s2).hi - (Ax.mk (y.b.map rawOf).length p2 q2 r2 s2).lo) (n := 9) (by omega) (by omega))),
     .eq 81 (eqS (byte_int hr2)),
     .prop (len_ne0 mm2),
     .eq 83 (Eq.refl (nat (r2 % (Ax.mk (y.b.map rawOf).length p2 q2 r2 s2).m))),
     .eq 88 (eqS (byte_int hs2)),
     .prop (len_ne0 mm2),
     .eq 90 (Eq.refl (nat (s2 % (Ax.mk (y.b.map rawOf).length p2 q2 r2 s2).m))),
     .eq 98 (eqS (min_ix (r2 % (Ax.mk (y.b.map rawOf).length p2 q2 r2 s2).m) (s2 % (Ax.mk (y.b.map rawOf).length p2 q2 r2 s2).m))),
     .eq 99 (eqS (add_ix' (a := (Ax.mk (y.b.map rawOf).length p2 q2 r2 s2).lo) (b := min (r2 % (Ax.mk (y.b.map rawOf).length p2 q2 r2 s2).m) (s2 % (Ax.mk (y.b.map rawOf).length p2 q2 r2 s2).m)) (by omega) (by omega))),
     .eq 105 (eqS (max_ix (r2 % (Ax.mk (y.b.map rawOf).length p2 q2 r2 s2).m) (s2 % (Ax.mk (y.b.map rawOf).length p2 q2 r2 s2).m))),
     .eq 106 (eqS (add_ix' (a := (Ax.mk (y.b.map rawOf).length p2 q2 r2 s2).lo) (b := max (r2 % (Ax.mk (y.b.map rawOf).length p2 q2 r2 s2).m) (s2 % (Ax.mk (y.b.map rawOf).length p2 q2 r2 s2).m)) (by omega) (by omega))),
     .eq 49 (eqS (byte_int hp3)),
     .prop (len_ne0 n3),
     .eq 51 (Eq.refl (nat (p3 % (y.c.map rawOf).length))),
     .eq 56 (eqS (byte_int hq3)),
     .prop (len_ne0 n3),
     .eq 58 (Eq.refl (nat (q3 % (y.c.map rawOf).length))),
     .eq 63 (eqS (min_ix (p3 % (y.c.map rawOf).length) (q3 % (y.c.map rawOf).length))),
     .eq 66 (eqS (max_ix (p3 % (y.c.map rawOf).length) (q3 % (y.c.map rawOf).length))),
     .eq 75 (eqS (sub_ix (a := (Ax.mk (y.c.map rawOf).length p3 q3 r3 s3).lo) (b := (Ax.mk (y.c.map rawOf).length p3 q3 r3 s3).hi) d3 (by omega))),
     .eq 76 (eqS (nat_succ' (i := (Ax.mk (y.c.map rawOf).length p3 q3 r3 s3).hi - (Ax.mk (y.c.map rawOf).length p3 q3 r3 s3).lo) (n := 9) (by omega) (by omega))),
     .eq 81 (eqS (byte_int hr3)),
     .prop (len_ne0 mm3),
     .eq 83 (Eq.refl (nat (r3 % (Ax.mk (y.c.map rawOf).length p3 q3 r3 s3).m))),
     .eq 88 (eqS (byte_int hs3)),
     .prop (len_ne0 mm3),
     .eq 90 (Eq.refl (nat (s3 % (Ax.mk (y.c.map rawOf).length p3 q3 r3 s3).m))),
     .eq 98 (eqS (min_ix (r3 % (Ax.mk (y.c.map rawOf).length p3 q3 r3 s3).m) (s3 % (Ax.mk (y.c.map rawOf).length p3 q3 r3 s3).m))),
     .eq 99 (eqS (add_ix' (a := (Ax.mk (y.c.map rawOf).length p3 q3 r3 s3).lo) (b := min (r3 % (Ax.mk (y.c.map rawOf).length p3 q3 r3 s3).m) (s3 % (Ax.mk (y.c.map rawOf).length p3 q3 r3 s3).m)) (by omega) (by omega))),
     .eq 105 (eqS (max_ix (r3 % (Ax.mk (y.c.map rawOf).length p3 q3 r3 s3).m) (s3 % (Ax.mk (y.c.map rawOf).length p3 q3 r3 s3).m))),
     .eq 106 (eqS (add_ix' (a := (Ax.mk (y.c.map rawOf).length p3 q3 r3 s3).lo) (b := max (r3 % (Ax.mk (y.c.map rawOf).length p3 q3 r3 s3).m) (s3 % (Ax.mk (y.c.map rawOf).length p3 q3 r3 s3).m)) (by omega) (by omega))),
     .call L1,
     .call L2,
     .call L3,
     .call C4,
     .call c1,
     .eq 160 (Lw.eqB (cmp_leT M1)),
     .call c2,
     .eq 166 (Lw.eqB (cmp_leT M2)),
     .call c3,
     .eq 172 (Lw.eqB (cmp_eq (a := Z) rfl)),
     .call sg,
     .eq 177 (Lw.eqB (sgn_ge P1))] (by kernel_rfl)
end Lw
