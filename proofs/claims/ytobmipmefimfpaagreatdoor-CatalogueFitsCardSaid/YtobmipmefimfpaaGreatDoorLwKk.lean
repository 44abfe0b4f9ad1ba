/- The statements about certificates of a catalogue, run. No condition. -/
import Derived.Test.YtobmipmefimfpaaGreatDoorLwKj
namespace Lw
open Go Go.RowKit Go.Proofs

variable {G : World → Prop}

/-! ### the same -/
theorem same_zero (hG : Steady G) : Spec Tryz.prog G 23 [chD (Ix.zero, 0), chD (Ix.zero, 0)] (bool true) :=
  Spec.of_run hG Tryz.func23 (ro := [2, 3]) (m := 60) [.call (FRat_same hG (sz_zero (k := 1) (by omega)) (by rw [KB_eq]; omega))] (by kernel_rfl)
theorem lt4 {n : Nat} (h : n < 4) : n = 0 ∨ n = 1 ∨ n = 2 ∨ n = 3 := by omega
theorem same_ok (hG : Steady G) {x : Ix} {q : Rat} (s : SzQ 3500 q) (hx : x.g < 4 ∧ x.a < 4 ∧ x.b < 4 ∧ x.c < 4) : Spec Tryz.prog G 23 [chD (x, q), chD (x, q)] (bool true) := by
  have r := FRat_same (G := G) hG s (by rw [KB_eq]; omega)
  obtain ⟨g, a, b, c⟩ := x
  obtain ⟨h0, h1, h2, h3⟩ := hx
  simp only at h0 h1 h2 h3
  rcases lt4 h0 with rfl | rfl | rfl | rfl <;> rcases lt4 h1 with rfl | rfl | rfl | rfl <;> rcases lt4 h2 with rfl | rfl | rfl | rfl <;> rcases lt4 h3 with rfl | rfl | rfl | rfl <;>
    exact Spec.of_run hG Tryz.func23 (ro := [2, 3]) (m := 60) [.call r] (by kernel_rfl)
/-- No node has other than no or two kids. -/
def Bt.full : Bt → Prop
  | .leaf _ _ => True
  | .two _ _ l r => l.full ∧ r.full
  | .odd _ _ _ => False
theorem grow_full (low : Ix → Ix → Rat) (cost : Rat) : ∀ (m : Nat) (lo hi : Ix), (growT low cost m lo hi).full
  | 0, _, _ => trivial
  | m + 1, lo, hi => by
    unfold growT
    split
    · trivial
    · exact ⟨grow_full low cost m _ _, grow_full low cost m _ _⟩
theorem Same_tree (hG : Steady G) : ∀ {t : Bt}, t.full → Spec Tryz.prog G 24 [t.dat, t.dat] (bool true)
  | .leaf a i, _ =>
    Spec.of_run hG Tryz.func24 (ro := [2, 3]) (m := 60) [.eq 10 (Lw.eqB (bne_self' a)), .eq 16 (Lw.eqB (bne_self' i))] (by kernel_rfl)
  | .two a i l r, h => by
    have s1 := Same_tree hG h.1
    have s2 := Same_tree hG h.2
    exact Spec.of_run hG Tryz.func24 (ro := [2, 3]) (m := 60) [.eq 10 (Lw.eqB (bne_self' a)), .eq 16 (Lw.eqB (bne_self' i)), .call s1, .call s2] (by kernel_rfl)
  | .odd _ _ _, h => h.elim

/-! ### CatalogueVerifies -/
theorem Raw.ok20 {r : Raw} (h : r.digs) (h1 : r.n.length ≤ 20) (h2 : r.d.length ≤ 20) : r.ok 8000 := ⟨h.1, h.2, by omega, by omega, by omega⟩
theorem Verifies_spec (hG : Steady G) {x : RCt} (hd : x.digs) (hb : x.far) (ix : I4) {r : Raw} (hr : r.digs) {t : Bt} (ht : t.wf) : Spec Tryz.prog G 6 [x.dat, chR ix r, t.dat] (bool true) := by
  have aw := awake49 (G := G) hG
  have sh := CShort (G := G) hG hb
  have kb := KB_eq
  by_cases hs : x.short
  case neg =>
    rw [decide_eq_false hs] at sh
    exact Spec.of_run hG Tryz.func6 (ro := [3, 4, 5]) (m := 60) [.call aw, .call sh, .call aw] (by kernel_rfl)
  rw [decide_eq_true hs] at sh
  by_cases hn : r.n.length ≤ 20
  case neg =>
    exact Spec.of_run hG Tryz.func6 (ro := [3, 4, 5]) (m := 60) [.call aw, .call sh, .eq 22 (Lw.eqB (gtk_true hn)), .call aw] (by kernel_rfl)
  have g1 := Lw.eqB (gtk_false hn)
  by_cases hdn : r.d.length ≤ 20
  case neg =>
    exact Spec.of_run hG Tryz.func6 (ro := [3, 4, 5]) (m := 60) [.call aw, .call sh, .eq 22 g1, .eq 29 (Lw.eqB (gtk_true hdn)), .call aw] (by kernel_rfl)
  have g2 := Lw.eqB (gtk_false hdn)
  have ok := Raw.ok20 hr hn hdn
  have rc := RCheck (G := G) hG hd hb hs
  by_cases hc : x.code = 0
  case neg =>
    have ve := PVerify_bad (G := G) hG hd hb hs hc ix r t
    generalize x.code = c at rc ve hc
    exact Spec.of_run hG Tryz.func6 (ro := [3, 4, 5]) (m := 60)
      [.call aw, .call sh, .eq 22 g1, .eq 29 g2, .call ve, .call rc, .eq 42 (Lw.eqB (eq0_f hc)), .eq 53 (Lw.eqB (ne0_t hc)), .call (Num_err hG c), .eq 60 (Lw.eqB (beq_self' c))] (by kernel_rfl)
  have ins := RInside (G := G) hG x ix ix
  by_cases hi : inside x ix ix
  case neg =>
    rw [decide_eq_false hi] at ins
    have ve := PVerify_out (G := G) hG hd hb hs hc hi r t
    rw [hc] at rc
    exact Spec.of_run hG Tryz.func6 (ro := [3, 4, 5]) (m := 60)
      [.call aw, .call sh, .eq 22 g1, .eq 29 g2, .call ve, .call rc, .call ins, .call (Num_err hG 9)] (by kernel_rfl)
  rw [decide_eq_true hi] at ins
  obtain ⟨y, fy, rfl⟩ := cat_of hd hs hc
  obtain ⟨l, m, el, em, h1, h2⟩ := inside_ix hi
  subst el
  have gy := good_of (G := G) hG fy hc
  have hl : l.lt y.size := Ix.lt_of_le h1 h2
  have ve := PVerify_ok (G := G) hG gy hl ok ht
  have re := RVerify_ok (G := G) hG fy hl ok ht
  rw [hc] at rc
  cases hv : y.ver l r t with
  | true =>
    rw [hv] at ve re
    exact Spec.of_run hG Tryz.func6 (ro := [3, 4, 5]) (m := 60)
      [.call aw, .call sh, .eq 22 g1, .eq 29 g2, .call ve, .call rc, .call ins, .call re] (by kernel_rfl)
  | false =>
    rw [hv] at ve re
    exact Spec.of_run hG Tryz.func6 (ro := [3, 4, 5]) (m := 60)
      [.call aw, .call sh, .eq 22 g1, .eq 29 g2, .call ve, .call rc, .call ins, .call re] (by kernel_rfl)

/-! ### CatalogueBest -/
theorem BestLaw (hG : Steady G) {x : RCt} (hd : x.digs) (hb : x.far) : Spec Tryz.prog G 5 [x.dat] (bool true) := by
  have aw := awake49 (G := G) hG
  have sh := CShort (G := G) hG hb
  have kb := KB_eq
  by_cases hs : x.short
  case neg =>
    rw [decide_eq_false hs] at sh
    exact Spec.of_run hG Tryz.func5 (ro := [1]) (m := 60) [.call aw, .call sh, .call aw] (by kernel_rfl)
  rw [decide_eq_true hs] at sh
  have rc := RCheck (G := G) hG hd hb hs
  by_cases hc : x.code = 0
  case neg =>
    have b := PBest_bad (G := G) hG hd hb hs hc
    have m := PMake_bad (G := G) hG hd hb hs hc
    have s0 := same_zero (G := G) hG
    have st := Same_tree (G := G) hG (t := .leaf 0 0) trivial
    generalize x.code = c at rc b m hc
    exact Spec.of_run hG Tryz.func5 (ro := [1]) (m := 60)
      [.call aw, .call sh, .call b, .call m, .call rc, .eq 36 (Lw.eqB (ne0_t hc)), .call (Num_err hG c), .eq 40 (Lw.eqB (beq_self' c)), .call (Num_err hG c), .eq 45 (Lw.eqB (beq_self' c)), .call s0, .call s0, .call st] (by kernel_rfl)
  obtain ⟨y, fy, rfl⟩ := cat_of hd hs hc
  have gy := good_of (G := G) hG fy hc
  have b := PBest_ok (G := G) hG gy
  have m := PMake_ok (G := G) hG gy
  have rb := RBest (G := G) hG fy
  have ra := RAll (G := G) hG fy
  obtain ⟨p1, p2⟩ := best_at' fy
  have z4 := Cat.size4 fy
  have sz := best_szq fy
  have sm := same_ok (G := G) hG (x := y.best.1) sz ⟨Nat.lt_of_lt_of_le p1.1 z4.1, Nat.lt_of_lt_of_le p1.2.1 z4.2.1, Nat.lt_of_lt_of_le p1.2.2.1 z4.2.2.1, Nat.lt_of_lt_of_le p1.2.2.2 z4.2.2.2⟩
  have sm : Spec Tryz.prog G 23 [chD y.best, chD y.best] (bool true) := sm
  have rt := RTree (G := G) hG fy sz (m := vol Ix.zero y.top + 1) (zero_le_top y) (top_lt fy) (by omega) (fun x _ hx => best_all fy x hx)
  have rt : Spec Tryz.prog G 27 [y.raw.dat, Ix.zero.dat, y.top.dat, F y.best.2] y.cert.dat := rt
  have st := Same_tree (G := G) hG (t := y.cert) (grow_full _ _ _ _ _)
  have v := PVerify_ok (G := G) hG gy (x := y.best.1) (r := rawOf y.best.2) (t := y.cert) p1 (sz.mono (by omega)).ok (grow_wf _ _ _ _ _)
  rw [ver_cert fy] at v
  rw [hc] at rc
  have v : Spec Tryz.prog G 28 [y.raw.dat, chD y.best, y.cert.dat] (.tup [bool true, .lit .nilIface]) := v
  generalize y.cert = t at m rt st v
  generalize y.best = c at b m rb sm rt v
  exact Spec.of_run hG Tryz.func5 (ro := [1]) (m := 60)
    [.call aw, .call sh, .call b, .call m, .call rc, .call rb, .call ra, .call sm, .call sm, .call rt, .call st, .call v] (by kernel_rfl)

/-! ### CatalogueAccepts -/
def A0 (y : Cat) (ix : I4) (r : Raw) (g : Nat) : St :=
  lay 116 [(3, .rptr y.raw.cells), (4, .rptr (ix.cells ++ r.cells)), (56, nat (y.g.map rawOf).length), (57, nat g)] []
def A1 (y : Cat) (ix : I4) (r : Raw) (g a : Nat) : St :=
  lay 116 [(3, .rptr y.raw.cells), (4, .rptr (ix.cells ++ r.cells)), (56, nat (y.g.map rawOf).length), (57, nat g), (9, nat g), (62, nat (y.a.map rawOf).length), (63, nat a)] []
def A2 (y : Cat) (ix : I4) (r : Raw) (g a b : Nat) : St :=
  lay 116 [(3, .rptr y.raw.cells), (4, .rptr (ix.cells ++ r.cells)), (56, nat (y.g.map rawOf).length), (57, nat g), (9, nat g), (62, nat (y.a.map rawOf).length), (63, nat a), (10, nat a), (68, nat (y.b.map rawOf).length), (69, nat b)] []
def A3 (y : Cat) (ix : I4) (r : Raw) (g a b c : Nat) : St :=
  lay 116 [(3, .rptr y.raw.cells), (4, .rptr (ix.cells ++ r.cells)), (56, nat (y.g.map rawOf).length), (57, nat g), (9, nat g), (62, nat (y.a.map rawOf).length), (63, nat a), (10, nat a), (68, nat (y.b.map rawOf).length), (69, nat b), (11, nat b), (74, nat (y.c.map rawOf).length), (75, nat c)] []
section
variable {y : Cat} (gy : y.good G) {ix : I4} {r : Raw} (ok : r.ok 8000) (all : ∀ x : Ix, x.lt y.size → r.q ≤ y.f x)
include gy ok all
theorem ac_3 (hG : Steady G) {x : Ix} (hx : x.lt y.size) : Goes Tryz.prog G 0 (loopOf Tryz.f8 3) (A3 y ix r x.g x.a x.b x.c) .normal (A3 y ix r x.g x.a x.b (x.c + 1)) := by
  have kb := KB_eq
  have co := PCost_ok gy hG hx
  have cm : Spec Tryz.prog G 31 [F (y.low x x), r.dat] (int (cmpQ (y.low x x) r.q)) := FCmp_spec (G := G) hG (f_sz gy.fine hx).isQ (Raw.ok.isQ ok) (by omega) (by omega)
  have h : ¬ y.low x x < r.q := Rat.not_lt.2 (all x hx)
  have sz := Cat.size4 gy.fine
  have hc : x.c < y.size.c := hx.2.2.2
  have nx := eqS (nat_succ' (i := x.c) (n := 9) (by omega) (by omega))
  have lt := ltR (l := y.c) hx.2.2.2
  generalize y.low x x = q at co cm h
  exact Goes.of_run hG (ro := []) (m := 60) (lay_len ..) [.eq 76 (Lw.eqB lt), .call co, .call cm, .eq 95 (Lw.eqB (cmp_ltF h)), .eq 97 nx] (by kernel_rfl)
theorem ac_2 (hG : Steady G) {g a b : Nat} (hg : g < y.g.length) (ha : a < y.a.length) (hb : b < y.b.length) : Goes Tryz.prog G 0 (loopOf Tryz.f8 2) (A2 y ix r g a b) .normal (A2 y ix r g a (b + 1)) := by
  have sz := Cat.size4 gy.fine
  have hb4 : y.b.length ≤ 4 := sz.2.2.1
  have nx := eqS (nat_succ' (i := b) (n := 9) (by omega) (by omega))
  have lp := Abs.count (P := Tryz.prog) (Good := G) (gb := 0) (body := loopOf Tryz.f8 3) (e := .exit 6) (s' := A3 y ix r g a b y.c.length) (fun c => A3 y ix r g a b c) y.c.length (fun i => lay_len ..) (by intro h; cases h)
    (fun c hc => ac_3 gy ok all hG (x := ⟨g, a, b, c⟩) ⟨hg, ha, hb, hc⟩) (Goes.of_run hG (ro := []) (m := 60) (lay_len ..) [.eq 76 (Lw.eqB (ltRF y.c))] (by kernel_rfl))
  exact Goes.of_run hG (ro := []) (m := 60) (lay_len ..) [.eq 70 (Lw.eqB (ltR (l := y.b) hb)), .code lp, .eq 98 nx] (by kernel_rfl)
theorem ac_1 (hG : Steady G) {g a : Nat} (hg : g < y.g.length) (ha : a < y.a.length) : Goes Tryz.prog G 0 (loopOf Tryz.f8 1) (A1 y ix r g a) .normal (A1 y ix r g (a + 1)) := by
  have sz := Cat.size4 gy.fine
  have ha4 : y.a.length ≤ 4 := sz.2.1
  have nx := eqS (nat_succ' (i := a) (n := 9) (by omega) (by omega))
  have lp := Abs.count (P := Tryz.prog) (Good := G) (gb := 0) (body := loopOf Tryz.f8 2) (e := .exit 4) (s' := A2 y ix r g a y.b.length) (fun b => A2 y ix r g a b) y.b.length (fun i => lay_len ..) (by intro h; cases h)
    (fun b hb => ac_2 gy ok all hG hg ha hb) (Goes.of_run hG (ro := []) (m := 60) (lay_len ..) [.eq 70 (Lw.eqB (ltRF y.b))] (by kernel_rfl))
  exact Goes.of_run hG (ro := []) (m := 60) (lay_len ..) [.eq 64 (Lw.eqB (ltR (l := y.a) ha)), .code lp, .eq 99 nx] (by kernel_rfl)
theorem ac_0 (hG : Steady G) {g : Nat} (hg : g < y.g.length) : Goes Tryz.prog G 0 (loopOf Tryz.f8 0) (A0 y ix r g) .normal (A0 y ix r (g + 1)) := by
  have sz := Cat.size4 gy.fine
  have hg4 : y.g.length ≤ 4 := sz.1
  have nx := eqS (nat_succ' (i := g) (n := 9) (by omega) (by omega))
  have lp := Abs.count (P := Tryz.prog) (Good := G) (gb := 0) (body := loopOf Tryz.f8 1) (e := .exit 2) (s' := A1 y ix r g y.a.length) (fun a => A1 y ix r g a) y.a.length (fun i => lay_len ..) (by intro h; cases h)
    (fun a ha => ac_1 gy ok all hG hg ha) (Goes.of_run hG (ro := []) (m := 60) (lay_len ..) [.eq 64 (Lw.eqB (ltRF y.a))] (by kernel_rfl))
  exact Goes.of_run hG (ro := []) (m := 60) (lay_len ..) [.eq 58 (Lw.eqB (ltR (l := y.g) hg)), .code lp, .eq 100 nx] (by kernel_rfl)
theorem ac_loop (hG : Steady G) : Abs Tryz.prog G 116 0 (.loop (loopOf Tryz.f8 0)) (A0 y ix r 0) (.exit 0) (A0 y ix r y.g.length) :=
  Abs.count (P := Tryz.prog) (Good := G) (gb := 0) (body := loopOf Tryz.f8 0) (e := .exit 0) (s' := A0 y ix r y.g.length) (fun g => A0 y ix r g) y.g.length (fun i => lay_len ..) (by intro h; cases h)
    (fun g hg => ac_0 gy ok all hG hg) (Goes.of_run hG (ro := []) (m := 60) (lay_len ..) [.eq 58 (Lw.eqB (ltRF y.g))] (by kernel_rfl))
end
/-- A smaller box lies in the box. -/
theorem low_mono' {y : Cat} (h : y.fine) {l m p q : Ix} (h1 : l.le p) (h2 : p.le q) (h3 : q.le m) (h4 : m.lt y.size) : y.low l m ≤ y.low p q := by
  have f0 : fineL y.g := h.1 0 (by omega)
  have f1 : fineL y.a := h.1 1 (by omega)
  have f2 : fineL y.b := h.1 2 (by omega)
  have f3 : fineL y.c := h.1 3 (by omega)
  have a := Cat.bx_fine h (Ix.le_trans h1 (Ix.le_trans h2 h3)) h4
  have b := Cat.bx_fine h h2 (Ix.lt_of_le h3 h4)
  have pl := Ix.lt_of_le (Ix.le_trans h2 h3) h4
  refine Bx.low_mono a b ⟨⟨mono_at f0 h1.1 pl.1, mono_at f0 h3.1 h4.1⟩, ⟨mono_at f1 h1.2.1 pl.2.1, mono_at f1 h3.2.1 h4.2.1⟩, ⟨mono_at f2 h1.2.2.1 pl.2.2.1, mono_at f2 h3.2.2.1 h4.2.2.1⟩, mono_at f3 h1.2.2.2 pl.2.2.2, mono_at f3 h3.2.2.2 h4.2.2.2⟩ _ Rat.le_refl
theorem ver_sound {y : Cat} (h : y.fine) {l : Ix} {r : Raw} {t : Bt} (hv : y.ver l r t = true) : y.f l = r.q ∧ ∀ x : Ix, x.lt y.size → r.q ≤ y.f x := by
  unfold Cat.ver at hv
  rw [Bool.and_eq_true, Bool.and_eq_true] at hv
  obtain ⟨-, h1, h2⟩ := hv
  have e : y.f l = r.q := of_decide_eq_true h1
  refine ⟨e, fun x hx => ?_⟩
  rw [← e]
  exact prove_sound (low := y.low) (cost := y.f l) (zero_le_top y) (fun u w z _ b c d => low_mono' h b (Ix.le_refl z) c (Ix.lt_of_le d (top_lt h))) h2 x (zero_le x) (le_top hx)
theorem Accepts_spec (hG : Steady G) {x : RCt} (hd : x.digs) (hb : x.far) (ix : I4) {r : Raw} (hr : r.digs) {t : Bt} (ht : t.wf) : Spec Tryz.prog G 8 [x.dat, chR ix r, t.dat] (bool true) := by
  have aw := awake49 (G := G) hG
  have sh := CShort (G := G) hG hb
  have kb := KB_eq
  by_cases hs : x.short
  case neg =>
    rw [decide_eq_false hs] at sh
    exact Spec.of_run hG Tryz.func8 (ro := [3, 4, 5]) (m := 60) [.call aw, .call sh, .call aw] (by kernel_rfl)
  rw [decide_eq_true hs] at sh
  by_cases hn : r.n.length ≤ 20
  case neg =>
    exact Spec.of_run hG Tryz.func8 (ro := [3, 4, 5]) (m := 60) [.call aw, .call sh, .eq 29 (Lw.eqB (gtk_true hn)), .call aw] (by kernel_rfl)
  have g1 := Lw.eqB (gtk_false hn)
  by_cases hdn : r.d.length ≤ 20
  case neg =>
    exact Spec.of_run hG Tryz.func8 (ro := [3, 4, 5]) (m := 60) [.call aw, .call sh, .eq 29 g1, .eq 36 (Lw.eqB (gtk_true hdn)), .call aw] (by kernel_rfl)
  have g2 := Lw.eqB (gtk_false hdn)
  have ok := Raw.ok20 hr hn hdn
  by_cases hc : x.code = 0
  case neg =>
    have ve := PVerify_bad (G := G) hG hd hb hs hc ix r t
    generalize x.code = c at ve hc
    exact Spec.of_run hG Tryz.func8 (ro := [3, 4, 5]) (m := 60) [.call aw, .call sh, .eq 29 g1, .eq 36 g2, .call ve] (by kernel_rfl)
  by_cases hi : inside x ix ix
  case neg =>
    exact Spec.of_run hG Tryz.func8 (ro := [3, 4, 5]) (m := 60) [.call aw, .call sh, .eq 29 g1, .eq 36 g2, .call (PVerify_out (G := G) hG hd hb hs hc hi r t)] (by kernel_rfl)
  obtain ⟨y, fy, rfl⟩ := cat_of hd hs hc
  obtain ⟨l, m, el, em, h1, h2⟩ := inside_ix hi
  subst el
  have gy := good_of (G := G) hG fy hc
  have hl : l.lt y.size := Ix.lt_of_le h1 h2
  have ve := PVerify_ok (G := G) hG gy hl ok ht
  cases hv : y.ver l r t with
  | false =>
    rw [hv] at ve
    exact Spec.of_run hG Tryz.func8 (ro := [3, 4, 5]) (m := 60) [.call aw, .call sh, .eq 29 g1, .eq 36 g2, .call ve] (by kernel_rfl)
  | true =>
    rw [hv] at ve
    obtain ⟨s1, s2⟩ := ver_sound fy hv
    have lp := ac_loop gy (ix := l.i4) ok s2 hG
    have b := PBest_ok (G := G) hG gy
    obtain ⟨p1, p2⟩ := best_at' fy
    have eb : y.best.2 = r.q := by
      have a1 : y.best.2 ≤ y.f l := bestOf_le y.f hl
      have a2 := s2 y.best.1 p1
      rw [← p2] at a2
      rw [s1] at a1
      exact Rat.le_antisymm a1 a2
    have cm : Spec Tryz.prog G 31 [F y.best.2, r.dat] (int (cmpQ y.best.2 r.q)) := FCmp_spec (G := G) hG (best_szq fy).isQ (Raw.ok.isQ ok) (by omega) (by omega)
    generalize y.best = c at b cm eb
    exact Spec.of_run hG Tryz.func8 (ro := [3, 4, 5]) (m := 60)
      [.call aw, .call sh, .eq 29 g1, .eq 36 g2, .call ve, .code lp, .call b, .call cm, .eq 114 (Lw.eqB (cmp_eq eb))] (by kernel_rfl)
end Lw
