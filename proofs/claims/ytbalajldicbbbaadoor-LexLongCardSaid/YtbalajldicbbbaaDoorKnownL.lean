/- A part of the proof: KnownL. No condition. -/
import Derived.Test.YtbalajldicbbbaaDoorCodeL
import Derived.Test.YtbalajldicbbbaaDoorMiniC
set_option linter.all false
set_option maxRecDepth 100000
set_option maxRecDepth 1000000
set_option maxHeartbeats 0
namespace Go.Proofs.YtbalajldicbbbaaDoor.Code
open Go.Mini
def mode (f : FuncId) : Go.Mini.Mode := 
 bif Nat.beq f 6 then .pure else bif Nat.beq f 7 then .pure else bif Nat.beq f 21 then .pure else bif Nat.beq f 11 then .pure else bif Nat.beq f 8 then .pure else .frozen
def sp : List V := [(.int .u8 0), (.int .u8 0), (.int .u8 0), (.int .u8 0), (.int .u8 0), (.int .u8 0), (.int .u8 0), (.int .u8 0), (.int .u8 0), (.int .u8 1), (.int .u8 1), (.int .u8 1), (.int .u8 1), (.int .u8 1), (.int .u8 0), (.int .u8 0), (.int .u8 0), (.int .u8 0), (.int .u8 0), (.int .u8 0), (.int .u8 0), (.int .u8 0), (.int .u8 0), (.int .u8 0), (.int .u8 0), (.int .u8 0), (.int .u8 0), (.int .u8 0), (.int .u8 0), (.int .u8 0), (.int .u8 0), (.int .u8 0), (.int .u8 1), (.int .u8 0), (.int .u8 0), (.int .u8 0), (.int .u8 0), (.int .u8 0), (.int .u8 0), (.int .u8 0), (.int .u8 0), (.int .u8 0), (.int .u8 0), (.int .u8 0), (.int .u8 0), (.int .u8 0), (.int .u8 0), (.int .u8 0), (.int .u8 0), (.int .u8 0), (.int .u8 0), (.int .u8 0), (.int .u8 0), (.int .u8 0), (.int .u8 0), (.int .u8 0), (.int .u8 0), (.int .u8 0), (.int .u8 0), (.int .u8 0), (.int .u8 0), (.int .u8 0), (.int .u8 0), (.int .u8 0), (.int .u8 0), (.int .u8 0), (.int .u8 0), (.int .u8 0), (.int .u8 0), (.int .u8 0), (.int .u8 0), (.int .u8 0), (.int .u8 0), (.int .u8 0), (.int .u8 0), (.int .u8 0), (.int .u8 0), (.int .u8 0), (.int .u8 0), (.int .u8 0), (.int .u8 0), (.int .u8 0), (.int .u8 0), (.int .u8 0), (.int .u8 0), (.int .u8 0), (.int .u8 0), (.int .u8 0), (.int .u8 0), (.int .u8 0), (.int .u8 0), (.int .u8 0), (.int .u8 0), (.int .u8 0), (.int .u8 0), (.int .u8 0), (.int .u8 0), (.int .u8 0), (.int .u8 0), (.int .u8 0), (.int .u8 0), (.int .u8 0), (.int .u8 0), (.int .u8 0), (.int .u8 0), (.int .u8 0), (.int .u8 0), (.int .u8 0), (.int .u8 0), (.int .u8 0), (.int .u8 0), (.int .u8 0), (.int .u8 0), (.int .u8 0), (.int .u8 0), (.int .u8 0), (.int .u8 0), (.int .u8 0), (.int .u8 0), (.int .u8 0), (.int .u8 0), (.int .u8 0), (.int .u8 0), (.int .u8 0), (.int .u8 0), (.int .u8 0), (.int .u8 0), (.int .u8 0), (.int .u8 0), (.int .u8 0), (.int .u8 0), (.int .u8 0), (.int .u8 0), (.int .u8 0), (.int .u8 0), (.int .u8 0), (.int .u8 0), (.int .u8 0), (.int .u8 0), (.int .u8 0), (.int .u8 0), (.int .u8 0), (.int .u8 0), (.int .u8 0), (.int .u8 0), (.int .u8 0), (.int .u8 0), (.int .u8 0), (.int .u8 0), (.int .u8 0), (.int .u8 0), (.int .u8 0), (.int .u8 0), (.int .u8 0), (.int .u8 0), (.int .u8 0), (.int .u8 0), (.int .u8 0), (.int .u8 0), (.int .u8 0), (.int .u8 0), (.int .u8 0), (.int .u8 0), (.int .u8 0), (.int .u8 0), (.int .u8 0), (.int .u8 0), (.int .u8 0), (.int .u8 0), (.int .u8 0), (.int .u8 0), (.int .u8 0), (.int .u8 0), (.int .u8 0), (.int .u8 0), (.int .u8 0), (.int .u8 0), (.int .u8 0), (.int .u8 0), (.int .u8 0), (.int .u8 0), (.int .u8 0), (.int .u8 0), (.int .u8 0), (.int .u8 0), (.int .u8 0), (.int .u8 0), (.int .u8 0), (.int .u8 0), (.int .u8 0), (.int .u8 0), (.int .u8 0), (.int .u8 0), (.int .u8 0), (.int .u8 0), (.int .u8 0), (.int .u8 0), (.int .u8 0), (.int .u8 0), (.int .u8 0), (.int .u8 0), (.int .u8 0), (.int .u8 0), (.int .u8 0), (.int .u8 0), (.int .u8 0), (.int .u8 0), (.int .u8 0), (.int .u8 0), (.int .u8 0), (.int .u8 0), (.int .u8 0), (.int .u8 0), (.int .u8 0), (.int .u8 0), (.int .u8 0), (.int .u8 0), (.int .u8 0), (.int .u8 0), (.int .u8 0), (.int .u8 0), (.int .u8 0), (.int .u8 0), (.int .u8 0), (.int .u8 0), (.int .u8 0), (.int .u8 0), (.int .u8 0), (.int .u8 0), (.int .u8 0), (.int .u8 0), (.int .u8 0), (.int .u8 0), (.int .u8 0), (.int .u8 0), (.int .u8 0), (.int .u8 0), (.int .u8 0), (.int .u8 0), (.int .u8 0), (.int .u8 0), (.int .u8 0), (.int .u8 0), (.int .u8 0), (.int .u8 0), (.int .u8 0), (.int .u8 0), (.int .u8 0), (.int .u8 0), (.int .u8 0), (.int .u8 0), (.int .u8 0), (.int .u8 0), (.int .u8 0), (.int .u8 0), (.int .u8 0)]
def gS : Nat → Option V := tabG 1 sp
theorem gS_ok : GB gS := tabG_gb (by decide +kernel)
theorem mix : Tryd.prog.follows .mixedOrders = true := by kernel_rfl
def l0 : List (FuncId × List V × V) := []
theorem n0 : KnownG Tryd.prog gS l0 := .nil
/-- weirgate/lex.Tokens -/
def a0 : List V := [(.str [120, 49, 61, 61, 50])]
def v0 : V := (.tup [(.rs 3 [[(.int .i64 0), (.str [120, 49]), (.int .i64 0)], [(.int .i64 2), (.str [61, 61]), (.int .i64 2)], [(.int .i64 1), (.str [50]), (.int .i64 4)], [(.int .i64 3), (.str []), (.int .i64 5)]]), (.agg [(.int .i64 0), (.int .i64 0)])])
theorem k0 : PureOk Tryd.prog gS 7 a0 v0 := known_fastG tab_ok mix mode gS_ok n0 1000 (by decide +kernel) (by kernel_rfl)
def l1 : List (FuncId × List V × V) := (7, a0, v0) :: l0
theorem n1 : KnownG Tryd.prog gS l1 := .cons k0 n0
/-- weirgate/lex.Tokens -/
def a1 : List V := [(.str [97, 38, 98])]
def v1 : V := (.tup [.nils, (.agg [(.int .i64 10), (.int .i64 1)])])
theorem k1 : PureOk Tryd.prog gS 7 a1 v1 := known_fastG tab_ok mix mode gS_ok n1 1000 (by decide +kernel) (by kernel_rfl)
def l2 : List (FuncId × List V × V) := (7, a1, v1) :: l1
theorem n2 : KnownG Tryd.prog gS l2 := .cons k1 n1
/-- weirgate/lex.keys -/
def a2 : List V := []
def v2 : V := (.rs 1 [[(.str [99, 104, 97, 110])], [(.str [111, 102])], [(.str [108, 111, 115, 115, 121])], [(.str [99, 111, 112, 121, 105, 110, 103])], [(.str [118, 97, 114])], [(.str [112, 114, 111, 99])], [(.str [115, 97, 102, 101])], [(.str [100, 101, 97, 100, 108, 111, 99, 107])], [(.str [115, 101, 110, 100])], [(.str [114, 101, 99, 118])], [(.str [105, 100, 108, 101])], [(.str [119, 104, 101, 110])], [(.str [99, 104, 111, 111, 115, 101])], [(.str [111, 114])], [(.str [105, 102])], [(.str [101, 108, 115, 101])], [(.str [119, 104, 105, 108, 101])], [(.str [97, 116, 111, 109, 105, 99])], [(.str [115, 107, 105, 112])], [(.str [115, 116, 111, 112])], [(.str [108, 101, 110])]])
theorem k2 : PureOk Tryd.prog gS 21 a2 v2 := known_fastG tab_ok mix mode gS_ok n2 1000 (by decide +kernel) (by kernel_rfl)
def l3 : List (FuncId × List V × V) := (21, a2, v2) :: l2
theorem n3 : KnownG Tryd.prog gS l3 := .cons k2 n2
/-- weirgate/lex.Key -/
def a3 : List V := [(.str [120, 49])]
def v3 : V := (.bool false)
theorem k3 : PureOk Tryd.prog gS 11 a3 v3 := known_fastG tab_ok mix mode gS_ok n3 1000 (by decide +kernel) (by kernel_rfl)
def l4 : List (FuncId × List V × V) := (11, a3, v3) :: l3
theorem n4 : KnownG Tryd.prog gS l4 := .cons k3 n3
/-- weirgate/lex.Name -/
def a4 : List V := [(.str [120, 49])]
def v4 : V := (.bool true)
theorem k4 : PureOk Tryd.prog gS 8 a4 v4 := known_fastG tab_ok mix mode gS_ok n4 1000 (by decide +kernel) (by kernel_rfl)
def l5 : List (FuncId × List V × V) := (8, a4, v4) :: l4
theorem n5 : KnownG Tryd.prog gS l5 := .cons k4 n4
/-- weirgate/lex.Key -/
def a5 : List V := [(.str [99, 104, 97, 110])]
def v5 : V := (.bool true)
theorem k5 : PureOk Tryd.prog gS 11 a5 v5 := known_fastG tab_ok mix mode gS_ok n5 1000 (by decide +kernel) (by kernel_rfl)
def l6 : List (FuncId × List V × V) := (11, a5, v5) :: l5
theorem n6 : KnownG Tryd.prog gS l6 := .cons k5 n5
/-- weirgate/weirgatelaw08.awake -/
def a6 : List V := []
def v6 : V := (.bool true)
theorem k6 : PureOk Tryd.prog gS 6 a6 v6 := known_fastG tab_ok mix mode gS_ok n6 1000 (by decide +kernel) (by kernel_rfl)
def l7 : List (FuncId × List V × V) := (6, a6, v6) :: l6
theorem n7 : KnownG Tryd.prog gS l7 := .cons k6 n6
end Go.Proofs.YtbalajldicbbbaaDoor.Code
