/- The statements about the poles of lists, run. No condition. -/
import Derived.Test.YthccbdlkfiogiaaGreatDoorLwPq
namespace Lw
open Go Go.RowKit Go.Proofs

variable {G : World → Prop}

theorem chk_zero {l : List RPo} (h : chkCode l = 0) : ¬ l.length < 2 ∧ ¬ 5 < l.length ∧ ∀ r ∈ l, r.valid = true := by
  unfold chkCode at h
  by_cases h1 : l.length < 2
  · rw [if_pos h1] at h; cases h
  · rw [if_neg h1] at h
    by_cases h2 : 5 < l.length
    · rw [if_pos h2] at h; cases h
    · rw [if_neg h2] at h
      by_cases h3 : ∀ r ∈ l, r.valid = true
      · exact ⟨h1, h2, h3⟩
      · rw [if_neg h3] at h; cases h
theorem AllErr (hG : Steady G) {l : List RPo} (hb : l.length ≤ 9223372036854775807) (hk : ∀ r ∈ l, r.ok 2) (hc : ¬ chkCode l = 0) : Spec Tryz.prog G 37 [rowS RPo.cells l] (.tup [rowS RPl.cells [], errno (chkCode l)]) := by
  have c := ChkL (G := G) hG l hb hk
  unfold chkErr at c
  rw [if_neg hc] at c
  exact Spec.of_run hG Tryz.func37 (ro := []) (m := 60) [.call c] (by kernel_rfl)
theorem mvs_of : ∀ {l : List RPo}, (∀ r ∈ l, r.ok 2) → (∀ r ∈ l, r.valid = true) → ∃ ms : List Mv, (∀ m ∈ ms, m.ok 2) ∧ l = ms.map Mv.raw
  | [], _, _ => ⟨[], (fun m h => by cases h), rfl⟩
  | r :: l, h, g => by
    obtain ⟨ms, h1, h2⟩ := mvs_of (l := l) (fun x hx => h x (by simp [hx])) (fun x hx => g x (by simp [hx]))
    obtain ⟨m, h3, h4⟩ := RPo.valid_elim (h r (by simp)) (g r (by simp))
    refine ⟨m :: ms, fun x hx => ?_, by rw [h2, h4]; rfl⟩
    rcases List.mem_cons.1 hx with rfl | hx
    · exact h3
    · exact h1 x hx
theorem both_any (hG : Steady G) : ∀ {ms : List Mv}, (∀ m ∈ ms, m.ok 2) → 2 ≤ ms.length → ms.length ≤ 5 → AllBoth G ms
  | [], _, h, _ => by simp at h
  | [_], _, h, _ => by simp at h
  | [a, b], k, _, _ => both2 hG (k a (by simp)) (k b (by simp))
  | [a, b, c], k, _, _ => both3 hG (k a (by simp)) (k b (by simp)) (k c (by simp))
  | [a, b, c, d], k, _, _ => both4 hG (k a (by simp)) (k b (by simp)) (k c (by simp)) (k d (by simp))
  | [a, b, c, d, e], k, _, _ => both5 hG (k a (by simp)) (k b (by simp)) (k c (by simp)) (k d (by simp)) (k e (by simp))
  | _ :: _ :: _ :: _ :: _ :: _ :: _, _, _, h => by simp at h
def lstInv (ps : List RPl) (i : Nat) : St := lay 76 [(3, rowS RPl.cells ps), (6, rowS RPl.cells ps), (61, nat ps.length), (62, nat i)] []
theorem lst_round (hG : Steady G) {ps : List RPl} {i : Nat} (hi : i < ps.length) (hb : ps.length ≤ 9223372036854775807) (hp : ∀ p ∈ ps, ∃ x y : Rat, SzQ (16 * 86 + 40) x ∧ SzQ (16 * 86 + 40) y ∧ p = ⟨rawOf x, rawOf y⟩) :
    Goes Tryz.prog G 0 (loopOf Tryz.f7 0) (lstInv ps i) .normal (lstInv ps (i + 1)) := by
  have e := aggS RPl.cells_len hi RPl.zero
  obtain ⟨x, y, sx, sy, hxy⟩ := hp _ (getD_mem hi RPl.zero)
  rw [hxy] at e
  have sm := same45 (G := G) hG sx sy (by rw [KB_eq]; omega)
  have n1 := atS_need RPl.cells_len (by omega) hi
  have n2 := loadS_need RPl.cells_len (by omega) hi
  exact Goes.of_run hG (ro := []) (m := 60) (lay_len ..)
    [.eq 63 (Lw.eqB (lt_true hi)), .prop n1, .prop n2, .eq 68 e, .prop n1, .prop n2, .eq 72 e, .call sm, .eq 75 (eqS (nat_succ' hi hb))] (by kernel_rfl)
theorem bne_self (k : Int) : (k != k) = false := by simp
theorem Lists_spec (hG : Steady G) {l : List RPo} (hd : ∀ r ∈ l, r.digs) (hb : l.length ≤ 9223372036854775807) : Spec Tryz.prog G 7 [rowS RPo.cells l] (bool true) := by
  have aw := awake45_spec (G := G) hG
  have sh := ShortL (G := G) hG l hb
  by_cases hs : ∀ r ∈ l, r.short
  case neg =>
    rw [decide_eq_false hs] at sh
    exact Spec.of_run hG Tryz.func7 (ro := []) (m := 60) [.call aw, .call sh, .call aw] (by kernel_rfl)
  rw [decide_eq_true hs] at sh
  by_cases hl : 30 < l.length
  case pos => exact Spec.of_run hG Tryz.func7 (ro := []) (m := 60) [.call aw, .call sh, .eq 18 (Lw.eqB (gtn_true hl)), .call aw] (by kernel_rfl)
  have hk : ∀ r ∈ l, r.ok 2 := fun r hr => RPo.short_ok (hd r hr) (hs r hr)
  have ck := ChkL (G := G) hG l hb hk
  have rc := RChkL (G := G) hG l hb hk
  unfold chkErr at ck
  by_cases hc : chkCode l = 0
  case neg =>
    rw [if_neg hc] at ck
    have al := AllErr (G := G) hG hb hk hc
    have nm := Num_err (G := G) hG (chkCode l)
    generalize chkCode l = k at *
    exact Spec.of_run hG Tryz.func7 (ro := []) (m := 60)
      [.call aw, .call sh, .eq 18 (Lw.eqB (gtn_false hl)), .call al, .call rc, .call ck, .call nm, .eq 32 (Lw.eqB (bne_self k)), .eq 34 (Lw.eqB (bne_iff_ne.2 hc)), .call nm, .eq 38 (Lw.eqB (beq_self_eq_true k))] (by kernel_rfl)
  rw [if_pos hc] at ck
  rw [hc] at rc
  obtain ⟨h1, h2, h3⟩ := chk_zero hc
  obtain ⟨ms, om, rfl⟩ := mvs_of hk h3
  have n0 := Num_nil (G := G) hG
  have n8 := Num_err (G := G) hG 8
  rcases both_any (G := G) hG om (by simpa using h1) (by simpa using h2) with ⟨ps, hp, hpl, a1, a2⟩ | ⟨a1, a2⟩
  · have lp := Abs.count (P := Tryz.prog) (Good := G) (gb := 0) (body := loopOf Tryz.f7 0) (e := .exit 0) (s' := lstInv ps ps.length) (fun i => lstInv ps i) ps.length (fun i => lay_len ..) (by intro h; cases h)
      (fun i hi => lst_round hG hi hpl hp) (Goes.of_run hG (ro := []) (m := 60) (lay_len ..) [.eq 63 (Lw.eqB (lt_false (Nat.le_refl ps.length)))] (by kernel_rfl))
    exact Spec.of_run hG Tryz.func7 (ro := []) (m := 60)
      [.call aw, .call sh, .eq 18 (Lw.eqB (gtn_false hl)), .call a1, .call rc, .call ck, .call n0, .call a2, .call n0, .eq 58 (Lw.eqB (bne_self (Int.ofNat ps.length))), .code lp] (by kernel_rfl)
  · exact Spec.of_run hG Tryz.func7 (ro := []) (m := 60)
      [.call aw, .call sh, .eq 18 (Lw.eqB (gtn_false hl)), .call a1, .call rc, .call ck, .call n0, .call a2, .call n8] (by kernel_rfl)

/-! ### PolesThree -/
theorem Three_valid (hG : Steady G) {a b c : Mv} (ha : a.ok 2) (hb : b.ok 2) (hc : c.ok 2) (h1 : a.raw.short ∧ b.raw.short ∧ c.raw.short) : Spec Tryz.prog G 9 [poses3 a.raw b.raw c.raw] (bool true) := by
  have kb := KB_eq
  have aw := awake45_spec (G := G) hG
  have sh := (Short3 (G := G) hG a.raw b.raw c.raw).1 h1
  by_cases hs : (a.bet b).still ∨ (a.bet c).still ∨ (b.bet c).still
  · have al := All3_still (G := G) hG ha hb hc hs
    exact Spec.of_run hG Tryz.func9 (ro := [1]) (m := 60) [.call aw, .call sh, .call al] (by kernel_rfl)
  · simp only [not_or] at hs
    obtain ⟨n1, n2, n3⟩ := hs
    have al := All3_ok (G := G) hG ha hb hc n1 n2 n3
    have t1 := Angle_ok (G := G) hG ha hb
    have t2 := Angle_ok (G := G) hG ha hc
    have t3 := Angle_ok (G := G) hG hb hc
    have o1 := Mv.bet_ok ha hb
    have o2 := Mv.bet_ok ha hc
    have o3 := Mv.bet_ok hb hc
    obtain ⟨x1, y1⟩ := Mv.fix_sz o1
    obtain ⟨x2, y2⟩ := Mv.fix_sz o2
    obtain ⟨x3, y3⟩ := Mv.fix_sz o3
    have r1 := About_ok (G := G) hG o1.1 o1.2.2.2 x1 y1 (by omega)
    have r2 := About_ok (G := G) hG o2.1 o2.2.2.2 x2 y2 (by omega)
    have r3 := About_ok (G := G) hG o3.1 o3.2.2.2 x3 y3 (by omega)
    rw [Mv.about_fix n1] at r1
    rw [Mv.about_fix n2] at r2
    rw [Mv.about_fix n3] at r3
    have th := PThenM (G := G) hG o1 o3 (by omega)
    rw [Mv.bet_bet ha.2.2.2 hb.2.2.2 hc.2.2.2] at th
    have sm := PSameSelf (G := G) hG o2 (by omega)
    exact Spec.of_run hG Tryz.func9 (ro := [1]) (m := 60)
      [.call aw, .call sh, .call al, .call t1, .call r1, .call t2, .call r2, .call t3, .call r3, .call th, .call sm] (by kernel_rfl)
theorem Three_spec (hG : Steady G) {a b c : RPo} (ha : a.digs) (hb : b.digs) (hc : c.digs) : Spec Tryz.prog G 9 [poses3 a b c] (bool true) := by
  have aw := awake45_spec (G := G) hG
  by_cases h1 : a.short ∧ b.short ∧ c.short
  case neg => exact Spec.of_run hG Tryz.func9 (ro := [1]) (m := 60) [.call aw, .call ((Short3 hG a b c).2 h1), .call aw] (by kernel_rfl)
  have sh := (Short3 (G := G) hG a b c).1 h1
  have ka := RPo.short_ok ha h1.1
  have kb' := RPo.short_ok hb h1.2.1
  have kc := RPo.short_ok hc h1.2.2
  by_cases hv : a.valid = true ∧ b.valid = true ∧ c.valid = true
  · obtain ⟨m1, o1, rfl⟩ := RPo.valid_elim ka hv.1
    obtain ⟨m2, o2, rfl⟩ := RPo.valid_elim kb' hv.2.1
    obtain ⟨m3, o3, rfl⟩ := RPo.valid_elim kc hv.2.2
    exact Three_valid hG o1 o2 o3 h1
  · have hk : ∀ r ∈ [a, b, c], r.ok 2 := by intro r hr; simp at hr; rcases hr with rfl | rfl | rfl; (· exact ka); (· exact kb'); exact kc
    have e : chkCode [a, b, c] = 2 := by
      unfold chkCode
      rw [if_neg (by simp), if_neg (by simp), if_neg (by intro h; exact hv ⟨h a (by simp), h b (by simp), h c (by simp)⟩)]
    have al := AllErr (G := G) hG (l := [a, b, c]) (by simp) hk (by rw [e]; decide)
    rw [e] at al
    exact Spec.of_run hG Tryz.func9 (ro := [1]) (m := 60) [.call aw, .call sh, .call al] (by kernel_rfl)
end Lw
