/- The iterator over pairs of free bodies, run: which pairs come, and in which order. Condition: at most eight bodies. -/
import Derived.Test.YtmcpfihkambgnaaGreatLwOa
namespace Lw
namespace Gr
open Go Go.RowKit Go.Proofs
variable {G : World → Prop}

/-- The pairs that come ahead of (i, j). -/
def prow (N : Nat) (free : Nat → Bool) (i j : Nat) : List (Nat × Nat) := ((List.range j).filter fun k => decide (i < k) && (free i && free k)).map fun k => (i, k)
def Lp (N : Nat) (free : Nat → Bool) (i j : Nat) : List (Nat × Nat) := ((List.range i).flatMap fun h => prow N free h N) ++ prow N free i j
theorem prow_start (N : Nat) (free : Nat → Bool) (i : Nat) : prow N free i (i + 1) = [] := by
  unfold prow
  rw [List.filter_eq_nil_iff.2, List.map_nil]
  intro k hk
  have := List.mem_range.1 hk
  simp; omega
theorem prow_le (N : Nat) (free : Nat → Bool) (i : Nat) {j : Nat} (h : j ≤ i + 1) : prow N free i j = [] := by
  unfold prow
  rw [List.filter_eq_nil_iff.2, List.map_nil]
  intro k hk
  have := List.mem_range.1 hk
  simp; omega
theorem prow_step (N : Nat) (free : Nat → Bool) {i j : Nat} : prow N free i (j + 1) = prow N free i j ++ if i < j ∧ free i = true ∧ free j = true then [(i, j)] else [] := by
  unfold prow
  rw [List.range_succ, List.filter_append, List.map_append]
  congr 1
  by_cases h : i < j ∧ free i = true ∧ free j = true
  · rw [if_pos h, List.filter_cons_of_pos (by simp [h])]; rfl
  · rw [if_neg h, List.filter_cons_of_neg (by simpa using h)]; rfl
theorem Lp_step (N : Nat) (free : Nat → Bool) {i j : Nat} : Lp N free i (j + 1) = Lp N free i j ++ if i < j ∧ free i = true ∧ free j = true then [(i, j)] else [] := by
  unfold Lp; rw [prow_step, List.append_assoc]
theorem Lp_row (N : Nat) (free : Nat → Bool) (i : Nat) : Lp N free i N = Lp N free (i + 1) 0 := by
  unfold Lp
  rw [List.range_succ, List.flatMap_append, prow_le N free (i + 1) (j := 0) (by omega), List.append_nil]
  simp
theorem Lp_in (N : Nat) (free : Nat → Bool) (i : Nat) : Lp N free i 0 = Lp N free i (i + 1) := by
  unfold Lp
  rw [prow_start, prow_le N free i (j := 0) (by omega)]
theorem Lp_len (N : Nat) (free : Nat → Bool) {i j : Nat} (hi : i < N) (hj : j ≤ N) : (Lp N free i j).length < N * N + 1 := by
  have hp : ∀ h k, (prow N free h k).length ≤ k := fun h k => by
    unfold prow
    rw [List.length_map]
    exact Nat.le_trans (List.length_filter_le _ _) (by simp)
  have hf : ∀ m, ((List.range m).flatMap fun h => prow N free h N).length ≤ m * N := by
    intro m
    induction m with
    | zero => simp
    | succ m ih =>
      rw [List.range_succ, List.flatMap_append, List.length_append, Nat.succ_mul]
      have := hp m N
      simp only [List.flatMap_cons, List.flatMap_nil, List.append_nil]
      omega
  unfold Lp
  rw [List.length_append]
  have h1 := hf i
  have h2 := hp i j
  have h3 : (i + 1) * N ≤ N * N := Nat.mul_le_mul_right _ hi
  rw [Nat.succ_mul] at h3
  omega

def encP (x : Nat × Nat) : Array Value := #[.int .i64 (Int.ofNat x.1), .int .i64 (Int.ofNat x.2)]
/-- What a round that goes on keeps. -/
def Kp (n0 : Nat) (W W' : World) : Prop := Keeps W W' ∧ Below n0 W W'
def kLoop (K : Code) : Code := kL (kL (kR K))
def kIn (K : Code) : Code := kR (kR (kLoop K))
def kBlk (K : Code) : Code := kL (kL (kIn K))
def kInner (K : Code) : Code := kL (kL (kR (kR (kBlk K))))
def kB4 (K : Code) : Code := kL (kL (kR (kInner K)))
/-- The finder, as the iterator reads it. -/
def finP (nm : D) (N : Nat) (bs rest : List D) : D := .rptr (nm :: .row N false bs :: rest)
section
variable (nm : D) (N : Nat) (bs rest : List D) (yv : Value)
def itO (i : Nat) : List (Nat × D) := [(0, .lit yv), (1, .rptr [finP nm N bs rest]), (10, nat N), (11, nat i)]
def itI (i j : Nat) : List (Nat × D) := [(0, .lit yv), (1, .rptr [finP nm N bs rest]), (3, nat i), (4, nat j), (10, nat N), (11, nat i)]
end
variable {nm : D} {N : Nat} {bs rest : List D} {yv : Value}
theorem it_shape : (cBody Tryz.f322) = .seq (kL (cBody Tryz.f322)) (.block 0 (.loop (kLoop (cBody Tryz.f322)))) := by kernel_rfl
theorem itp_loop : (kLoop (cBody Tryz.f322)) = .seq (kL (kLoop (cBody Tryz.f322))) (.seq (kL (kR (kLoop (cBody Tryz.f322)))) (.seq (.block 1 (kBlk (cBody Tryz.f322))) (kR (kIn (cBody Tryz.f322))))) := by kernel_rfl
theorem it_blk : (kBlk (cBody Tryz.f322)) = .seq (kL (kBlk (cBody Tryz.f322))) (.seq (kL (kR (kBlk (cBody Tryz.f322)))) (.block 2 (.loop (kInner (cBody Tryz.f322))))) := by kernel_rfl
theorem it_inner : (kInner (cBody Tryz.f322)) = .seq (kL (kInner (cBody Tryz.f322))) (.seq (.block 3 (kB4 (cBody Tryz.f322))) (kR (kR (kInner (cBody Tryz.f322))))) := by kernel_rfl
theorem it_b4 : (kB4 (cBody Tryz.f322)) = .seq (.region 6 (cOps (kL (kB4 (cBody Tryz.f322)))).toArray false) (kR (kB4 (cBody Tryz.f322))) := by kernel_rfl

theorem seg0 (hG : Steady G) : Goes Tryz.prog G 0 (kL (cBody Tryz.f322)) (startS 42 [.lit yv, .rptr [finP nm N bs rest]] []) .normal (lay 42 (itO nm N bs rest yv 0) []) :=
  Goes.of_run hG (ro := []) (m := 60) rfl [] (by kernel_rfl)
theorem seg1t (hG : Steady G) {i : Nat} (hi : i < N) : Goes Tryz.prog G 0 (kL (kLoop (cBody Tryz.f322))) (lay 42 (itO nm N bs rest yv i) []) .normal (lay 42 ((12, bool true) :: itO nm N bs rest yv i) []) :=
  Goes.of_run hG (ro := []) (m := 60) (lay_len ..) [.eq 12 (eqB (lt_true hi))] (by kernel_rfl)
theorem seg1f (hG : Steady G) {i : Nat} (hi : N ≤ i) : Goes Tryz.prog G 0 (kL (kLoop (cBody Tryz.f322))) (lay 42 (itO nm N bs rest yv i) []) .normal (lay 42 ((12, bool false) :: itO nm N bs rest yv i) []) :=
  Goes.of_run hG (ro := []) (m := 60) (lay_len ..) [.eq 12 (eqB (lt_false hi))] (by kernel_rfl)
theorem seg2t (hG : Steady G) {i : Nat} : Goes Tryz.prog G 0 (kL (kR (kLoop (cBody Tryz.f322)))) (lay 42 ((12, bool true) :: itO nm N bs rest yv i) []) .normal (lay 42 (itO nm N bs rest yv i) []) :=
  Goes.of_run hG (ro := []) (m := 60) (lay_len ..) [] (by kernel_rfl)
theorem seg2f (hG : Steady G) {i : Nat} : Goes Tryz.prog G 0 (kL (kR (kLoop (cBody Tryz.f322)))) (lay 42 ((12, bool false) :: itO nm N bs rest yv i) []) (.exit 0) (lay 42 (itO nm N bs rest yv i) []) :=
  Goes.of_run hG (ro := []) (m := 60) (lay_len ..) [] (by kernel_rfl)
theorem seg3 (hG : Steady G) {i : Nat} : Goes Tryz.prog G 0 (kL (kBlk (cBody Tryz.f322))) (lay 42 (itO nm N bs rest yv i) []) .normal (lay 42 ((3, nat i) :: itO nm N bs rest yv i) []) :=
  Goes.of_run hG (ro := []) (m := 60) (lay_len ..) [] (by kernel_rfl)
theorem seg4 (hG : Steady G) {i : Nat} (hi : i < 100) : Goes Tryz.prog G 0 (kL (kR (kBlk (cBody Tryz.f322)))) (lay 42 ((3, nat i) :: itO nm N bs rest yv i) []) .normal (lay 42 (itI nm N bs rest yv i (i + 1)) []) :=
  Goes.of_run hG (ro := []) (m := 60) (lay_len ..) [.eq 15 (eqS (nat_succ (i := i) (by omega)))] (by kernel_rfl)
theorem seg5t (hG : Steady G) {i j : Nat} (hj : j < N) : Goes Tryz.prog G 0 (kL (kInner (cBody Tryz.f322))) (lay 42 (itI nm N bs rest yv i j) []) .normal (lay 42 (itI nm N bs rest yv i j) []) :=
  Goes.of_run hG (ro := []) (m := 60) (lay_len ..) [.eq 23 (eqB (lt_true hj))] (by kernel_rfl)
theorem seg5f (hG : Steady G) {i j : Nat} (hj : N ≤ j) : Goes Tryz.prog G 0 (kL (kInner (cBody Tryz.f322))) (lay 42 (itI nm N bs rest yv i j) []) (.exit 2) (lay 42 (itO nm N bs rest yv i) []) :=
  Goes.of_run hG (ro := []) (m := 60) (lay_len ..) [.eq 23 (eqB (lt_false hj))] (by kernel_rfl)
theorem seg6 (hG : Steady G) {i : Nat} (hi : i < 100) : Goes Tryz.prog G 0 (kR (kIn (cBody Tryz.f322))) (lay 42 (itO nm N bs rest yv i) []) .normal (lay 42 (itO nm N bs rest yv (i + 1)) []) :=
  Goes.of_run hG (ro := []) (m := 60) (lay_len ..) [.eq 41 (eqS (nat_succ (i := i) (by omega)))] (by kernel_rfl)
theorem seg7 (hG : Steady G) {i j : Nat} (hj : j < 100) : Goes Tryz.prog G 0 (kR (kR (kInner (cBody Tryz.f322)))) (lay 42 (itI nm N bs rest yv i j) []) .normal (lay 42 (itI nm N bs rest yv i (j + 1)) []) :=
  Goes.of_run hG (ro := []) (m := 60) (lay_len ..) [.eq 25 (eqS (nat_succ (i := j) (by omega)))] (by kernel_rfl)
/-- One of the two is not free: the round goes by. -/
theorem seg8 (hG : Steady G) {i j : Nat} {fi fj : Bool} (h : (fi && fj) = false) (c1 : Spec Tryz.prog G 297 [finP nm N bs rest, nat i] (bool fi)) (c2 : Spec Tryz.prog G 297 [finP nm N bs rest, nat j] (bool fj)) :
    Goes Tryz.prog G 0 (kB4 (cBody Tryz.f322)) (lay 42 (itI nm N bs rest yv i j) []) .normal (lay 42 (itI nm N bs rest yv i j) []) := by
  cases fi with
  | false => exact Goes.of_run hG (ro := []) (m := 60) (lay_len ..) [.call c1] (by kernel_rfl)
  | true =>
    cases fj with
    | false => exact Goes.of_run hG (ro := []) (m := 60) (lay_len ..) [.call c1, .call c2] (by kernel_rfl)
    | true => cases h
def itM (nm : D) (N : Nat) (bs rest : List D) (yv : Value) (i j : Nat) : List (Nat × D) := (34, bool true) :: (35, .lit yv) :: (36, nat i) :: (37, nat j) :: itI nm N bs rest yv i j
theorem seg9 (hG : Steady G) {i j : Nat} (c1 : Spec Tryz.prog G 297 [finP nm N bs rest, nat i] (bool true)) (c2 : Spec Tryz.prog G 297 [finP nm N bs rest, nat j] (bool true)) :
    keepOps Tryz.prog (cOps (kL (kB4 (cBody Tryz.f322)))).toArray ((cOps (kL (kB4 (cBody Tryz.f322)))).take 12) (lay 42 (itI nm N bs rest yv i j) []) [Item.call c1, Item.call c2] ((itM nm N bs rest yv i j).map (·.1)) = some ((itM nm N bs rest yv i j).map (·.2), [], said [Item.call c1, Item.call c2]) := by
  kernel_rfl
end Gr
end Lw
