/- Contracts looked up in a table, beside those of the operations on small numbers. -/
import Derived.Test.YtmcpfihkambgnaaGreatLwOe
namespace Lw
open Go Go.RowKit Go.Proofs
/-- A contract in a table. -/
structure Ent (P : Program) (G : World → Prop) where
  f : FuncId
  args : List D
  r : D
  ok : Spec P G f args r
def lookE {P : Program} {G : World → Prop} : List (Ent P G) → FuncId → List D → Option D
  | [], _, _ => none
  | e :: l, f, args => if e.f = f then (match eqL (dEq 12) e.args args with
    | true => some e.r
    | false => lookE l f args) else lookE l f args
theorem lookE_ok {P : Program} {G : World → Prop} : ∀ (l : List (Ent P G)) (f : FuncId) (args : List D) (r : D), lookE l f args = some r → Spec P G f args r
  | [], _, _, _, h => by cases h
  | e :: l, f, args, r, h => by
    unfold lookE at h
    split at h
    · rename_i hf
      split at h
      · rename_i ha
        cases h
        have := e.ok
        rw [hf, eqL_ok (fun hh => dEq_ok 12 hh) ha] at this
        exact this
      · exact lookE_ok l f args r h
    · exact lookE_ok l f args r h
/-- A contract with a fresh result in a table. -/
structure EntF (P : Program) (G : World → Prop) where
  f : FuncId
  args : List D
  r : D
  ok : SpecF P G f args r
def lookF {P : Program} {G : World → Prop} : List (EntF P G) → FuncId → List D → Option D
  | [], _, _ => none
  | e :: l, f, args => if e.f = f then (match eqL (dEq 12) e.args args with
    | true => some e.r
    | false => lookF l f args) else lookF l f args
theorem lookF_ok {P : Program} {G : World → Prop} : ∀ (l : List (EntF P G)) (f : FuncId) (args : List D) (r : D), lookF l f args = some r → SpecF P G f args r
  | [], _, _, _, h => by cases h
  | e :: l, f, args, r, h => by
    unfold lookF at h
    split at h
    · rename_i hf
      split at h
      · rename_i ha
        cases h
        have := e.ok
        rw [hf, eqL_ok (fun hh => dEq_ok 12 hh) ha] at this
        exact this
      · exact lookF_ok l f args r h
    · exact lookF_ok l f args r h
/-- A table of what callees do in place. -/
structure EntI (P : Program) (G : World → Prop) where
  f : FuncId
  mx : Nat
  args : List D
  blks : List (Option (List D))
  d : D
  blks' : List (Option (List D))
  ok : ∀ fn, P.funcs[f]? = some fn → Inl P G fn mx args blks [] d blks' []
def lookI {P : Program} {G : World → Prop} : List (EntI P G) → FuncId → Nat → List D → List (Option (List D)) → Option (D × List (Option (List D)))
  | [], _, _, _, _ => none
  | e :: l, f, mx, args, blks => if e.f = f then (match Nat.ble mx e.mx && eqL (dEq 12) e.args args && blksSame e.blks blks with
    | true => some (e.d, e.blks')
    | false => lookI l f mx args blks) else lookI l f mx args blks
theorem lookI_ok {P : Program} {G : World → Prop} : ∀ (l : List (EntI P G)) (f : FuncId) (mx : Nat) (args : List D) (blks : List (Option (List D))) (d : D) (blks' : List (Option (List D))) (fn : Func), lookI l f mx args blks = some (d, blks') → P.funcs[f]? = some fn → Inl P G fn mx args blks [] d blks' []
  | [], _, _, _, _, _, _, _, h, _ => by cases h
  | e :: l, f, mx, args, blks, d, blks', fn, h, hfn => by
    unfold lookI at h
    split at h
    · rename_i hf
      split at h
      · rename_i ha
        simp only [Bool.and_eq_true] at ha
        simp only [Option.some.injEq, Prod.mk.injEq] at h
        obtain ⟨rfl, rfl⟩ := h
        have := e.ok fn (by rw [hf]; exact hfn)
        rw [eqL_ok (fun hh => dEq_ok 12 hh) ha.1.2, blksSame_ok ha.2] at this
        exact this.mono (Nat.le_of_ble_eq_true ha.1.1)
      · exact lookI_ok l f mx args blks d blks' fn h hfn
    · exact lookI_ok l f mx args blks d blks' fn h hfn
namespace Tw
variable {G : World → Prop}
def base (f : FuncId) : List D → Option D
  | [a] => o1 f a
  | [a, b] => o2 f a b
  | [a, b, c] => o3 f a b c
  | _ => none
theorem base_ok (hG : Steady G) {f : FuncId} : ∀ {args : List D} {r : D}, base f args = some r → Spec Tryz.prog G f args r
  | [_], _, h => o1_ok hG h
  | [_, _], _, h => o2_ok hG h
  | [_, _, _], _, h => o3_ok hG h
  | [], _, h => by cases h
  | _ :: _ :: _ :: _ :: _, _, h => by cases h
def autoOf (hG : Steady G) (l : List (Ent Tryz.prog G)) (lf : List (EntF Tryz.prog G) := []) (ro : FuncId → List Nat := fun _ => []) (stop : FuncId → Bool := fun _ => false) (li : List (EntI Tryz.prog G) := []) : Auto Tryz.prog G where
  orc f args := match lookE l f args with
    | some r => some r
    | none => match base f args with
      | some r => frD 12 r some
      | none => none
  ok f args r h := by
    split at h
    · rename_i r' hr
      cases h
      exact lookE_ok _ _ _ _ hr
    · split at h
      · rename_i r' hr
        rw [frD_eq] at h
        cases h
        exact base_ok hG hr
      · cases h
  ro := ro
  stop := stop
  orcF f args := lookF lf f args
  okF f args r h := lookF_ok _ _ _ _ h
  orcI f mx args blks := lookI li f mx args blks
  okI f fn mx args blks d blks' h hf := lookI_ok _ _ _ _ _ _ _ _ h hf
end Tw
/-- Words in memory: a literal of bytes. -/
def str (l : List Nat) : D := .lit (.string ⟨(l.map UInt8.ofNat).toArray⟩)
def qd (s : Bool) (n d : List Nat) : D := .agg [bool s, rowW n, rowW d]
end Lw
