/- The four-bar of the fixed run: its data, made and checked. -/
import Derived.Test.YtmcpfihkambgnaaGreatLwOi
namespace Lw
open Go Go.RowKit Go.Proofs
namespace Fb
open Gr Tw
variable {G : World → Prop}
def lkNm : D := str [102, 111, 117, 114, 98, 97, 114]
def lkBs : List D := [str [102, 114, 97, 109, 101], .row 2 false [str [79], bool false, .row 0 false [], .row 0 false [], bool false, .row 0 false [], .row 0 false [], str [81], bool false, .row 1 false [u32 4], .row 1 false [u32 1], bool false, .row 0 false [], .row 0 false []], str [99, 114, 97, 110, 107], .row 2 false [str [79], bool false, .row 0 false [], .row 0 false [], bool false, .row 0 false [], .row 0 false [], str [65], bool false, .row 1 false [u32 1], .row 1 false [u32 1], bool false, .row 0 false [], .row 0 false []], str [99, 111, 117, 112, 108, 101, 114], .row 3 false [str [65], bool false, .row 0 false [], .row 0 false [], bool false, .row 0 false [], .row 0 false [], str [66], bool false, .row 1 false [u32 3], .row 1 false [u32 1], bool false, .row 0 false [], .row 0 false [], str [80], bool false, .row 0 false [], .row 0 false [], bool false, .row 0 false [], .row 0 false []], str [114, 111, 99, 107, 101, 114], .row 2 false [str [81], bool false, .row 0 false [], .row 0 false [], bool false, .row 0 false [], .row 0 false [], str [66], bool false, .row 1 false [u32 3], .row 1 false [u32 1], bool false, .row 0 false [], .row 0 false []]]
def lkJs : List D := [str [111], nat 0, nat 1, nat 0, nat 0, nat 0, nat 0, str [97], nat 0, nat 2, nat 0, nat 1, nat 1, nat 0, str [98], nat 0, nat 3, nat 1, nat 2, nat 1, nat 0, str [113], nat 0, nat 3, nat 0, nat 0, nat 1, nat 0]
def lkDs : List D := [str [100], nat 1]
def lk : D := .agg [lkNm, .row 4 false lkBs, .row 4 false lkJs, .row 1 false lkDs]
theorem mark_spec (hG : Steady G) (s : ByteArray) (a b : Bool) (m n p q : List Nat) : Spec Tryz.prog G 73 [.lit (.string s), qd a m n, qd b p q] (.agg [.lit (.string s), bool a, rowW m, rowW n, bool b, rowW p, rowW q]) :=
  Spec.of_run hG Tryz.func73 (ro := []) (m := 60) [] (by kernel_rfl)
def markE (hG : Steady G) (s : List Nat) (n m : List Nat) : Ent Tryz.prog G := ⟨73, [str s, qd false n m, qd false [] []], _, mark_spec hG ⟨(s.map UInt8.ofNat).toArray⟩ false false n m [] []⟩
def q0 : List D := [bool false, rowW [], rowW []]
def qn (n : Nat) : List D := [bool false, rowW [n], rowW [1]]
theorem link_spec (hG : Steady G) : Spec Tryz.prog G 29 [.agg (qn 4 ++ qn 1 ++ qn 3 ++ qn 3 ++ q0 ++ q0)] lk :=
  Spec.of_auto hG (autoOf hG [markE hG [79] [] [], markE hG [81] [4] [1], markE hG [65] [1] [1], markE hG [65] [] [], markE hG [66] [3] [1], markE hG [80] [] [], markE hG [81] [] []]) Tryz.func29 (ro := []) (m := 60) [] (by kernel_rfl)
theorem in_02 (hG : Steady G) : Spec Tryz.prog G 156 [nat 0, nat 2] (bool true) := Spec.of_run hG Tryz.func156 (ro := []) (m := 60) [] (by kernel_rfl)
theorem in_12 (hG : Steady G) : Spec Tryz.prog G 156 [nat 1, nat 2] (bool true) := Spec.of_run hG Tryz.func156 (ro := []) (m := 60) [] (by kernel_rfl)
theorem in_03 (hG : Steady G) : Spec Tryz.prog G 156 [nat 0, nat 3] (bool true) := Spec.of_run hG Tryz.func156 (ro := []) (m := 60) [] (by kernel_rfl)
theorem in_13 (hG : Steady G) : Spec Tryz.prog G 156 [nat 1, nat 3] (bool true) := Spec.of_run hG Tryz.func156 (ro := []) (m := 60) [] (by kernel_rfl)
theorem chk_spec (hG : Steady G) : Spec Tryz.prog G 37 [lk] (.lit .nilIface) :=
  Spec.of_auto hG (autoOf hG [⟨_, _, _, in_02 hG⟩, ⟨_, _, _, in_12 hG⟩, ⟨_, _, _, in_03 hG⟩, ⟨_, _, _, in_13 hG⟩]) Tryz.func37 (ro := []) (m := 60) [] (by kernel_rfl)
end Fb
end Lw
