/- A part of the proof: KnownZ. No condition. -/
import Derived.Test.YtgknkkdemjjeoaaGreatDoorCodeZ
import Derived.Test.YtgknkkdemjjeoaaGreatDoorMiniC
set_option linter.all false
set_option maxRecDepth 100000
set_option maxRecDepth 1000000
set_option maxHeartbeats 0
namespace Go.Proofs.YtgknkkdemjjeoaaGreatDoor.Code
open Go.Mini
def mode (f : FuncId) : Go.Mini.Mode := 
 bif Nat.beq f 5 then .pure else bif Nat.beq f 7 then .pure else bif Nat.beq f 15 then .pure else bif Nat.beq f 11 then .pure else bif Nat.beq f 27 then .pure else bif Nat.beq f 102 then .pure else bif Nat.beq f 69 then .pure else bif Nat.beq f 85 then .pure else bif Nat.beq f 54 then .pure else bif Nat.beq f 57 then .pure else bif Nat.beq f 8 then .pure else bif Nat.beq f 6 then .pure else bif Nat.beq f 10 then .pure else bif Nat.beq f 47 then .keep else bif Nat.beq f 71 then .keep else bif Nat.beq f 16 then .keep else bif Nat.beq f 30 then .keep else bif Nat.beq f 48 then .keep else bif Nat.beq f 49 then .keep else .frozen
def sp : List V := [(.int .u8 0), (.int .u8 0), (.int .u8 0), (.int .u8 0), (.int .u8 0), (.int .u8 0), (.int .u8 0), (.int .u8 0), (.int .u8 0), (.int .u8 1), (.int .u8 1), (.int .u8 1), (.int .u8 1), (.int .u8 1), (.int .u8 0), (.int .u8 0), (.int .u8 0), (.int .u8 0), (.int .u8 0), (.int .u8 0), (.int .u8 0), (.int .u8 0), (.int .u8 0), (.int .u8 0), (.int .u8 0), (.int .u8 0), (.int .u8 0), (.int .u8 0), (.int .u8 0), (.int .u8 0), (.int .u8 0), (.int .u8 0), (.int .u8 1), (.int .u8 0), (.int .u8 0), (.int .u8 0), (.int .u8 0), (.int .u8 0), (.int .u8 0), (.int .u8 0), (.int .u8 0), (.int .u8 0), (.int .u8 0), (.int .u8 0), (.int .u8 0), (.int .u8 0), (.int .u8 0), (.int .u8 0), (.int .u8 0), (.int .u8 0), (.int .u8 0), (.int .u8 0), (.int .u8 0), (.int .u8 0), (.int .u8 0), (.int .u8 0), (.int .u8 0), (.int .u8 0), (.int .u8 0), (.int .u8 0), (.int .u8 0), (.int .u8 0), (.int .u8 0), (.int .u8 0), (.int .u8 0), (.int .u8 0), (.int .u8 0), (.int .u8 0), (.int .u8 0), (.int .u8 0), (.int .u8 0), (.int .u8 0), (.int .u8 0), (.int .u8 0), (.int .u8 0), (.int .u8 0), (.int .u8 0), (.int .u8 0), (.int .u8 0), (.int .u8 0), (.int .u8 0), (.int .u8 0), (.int .u8 0), (.int .u8 0), (.int .u8 0), (.int .u8 0), (.int .u8 0), (.int .u8 0), (.int .u8 0), (.int .u8 0), (.int .u8 0), (.int .u8 0), (.int .u8 0), (.int .u8 0), (.int .u8 0), (.int .u8 0), (.int .u8 0), (.int .u8 0), (.int .u8 0), (.int .u8 0), (.int .u8 0), (.int .u8 0), (.int .u8 0), (.int .u8 0), (.int .u8 0), (.int .u8 0), (.int .u8 0), (.int .u8 0), (.int .u8 0), (.int .u8 0), (.int .u8 0), (.int .u8 0), (.int .u8 0), (.int .u8 0), (.int .u8 0), (.int .u8 0), (.int .u8 0), (.int .u8 0), (.int .u8 0), (.int .u8 0), (.int .u8 0), (.int .u8 0), (.int .u8 0), (.int .u8 0), (.int .u8 0), (.int .u8 0), (.int .u8 0), (.int .u8 0), (.int .u8 0), (.int .u8 0), (.int .u8 0), (.int .u8 0), (.int .u8 0), (.int .u8 0), (.int .u8 0), (.int .u8 0), (.int .u8 0), (.int .u8 0), (.int .u8 0), (.int .u8 0), (.int .u8 0), (.int .u8 0), (.int .u8 0), (.int .u8 0), (.int .u8 0), (.int .u8 0), (.int .u8 0), (.int .u8 0), (.int .u8 0), (.int .u8 0), (.int .u8 0), (.int .u8 0), (.int .u8 0), (.int .u8 0), (.int .u8 0), (.int .u8 0), (.int .u8 0), (.int .u8 0), (.int .u8 0), (.int .u8 0), (.int .u8 0), (.int .u8 0), (.int .u8 0), (.int .u8 0), (.int .u8 0), (.int .u8 0), (.int .u8 0), (.int .u8 0), (.int .u8 0), (.int .u8 0), (.int .u8 0), (.int .u8 0), (.int .u8 0), (.int .u8 0), (.int .u8 0), (.int .u8 0), (.int .u8 0), (.int .u8 0), (.int .u8 0), (.int .u8 0), (.int .u8 0), (.int .u8 0), (.int .u8 0), (.int .u8 0), (.int .u8 0), (.int .u8 0), (.int .u8 0), (.int .u8 0), (.int .u8 0), (.int .u8 0), (.int .u8 0), (.int .u8 0), (.int .u8 0), (.int .u8 0), (.int .u8 0), (.int .u8 0), (.int .u8 0), (.int .u8 0), (.int .u8 0), (.int .u8 0), (.int .u8 0), (.int .u8 0), (.int .u8 0), (.int .u8 0), (.int .u8 0), (.int .u8 0), (.int .u8 0), (.int .u8 0), (.int .u8 0), (.int .u8 0), (.int .u8 0), (.int .u8 0), (.int .u8 0), (.int .u8 0), (.int .u8 0), (.int .u8 0), (.int .u8 0), (.int .u8 0), (.int .u8 0), (.int .u8 0), (.int .u8 0), (.int .u8 0), (.int .u8 0), (.int .u8 0), (.int .u8 0), (.int .u8 0), (.int .u8 0), (.int .u8 0), (.int .u8 0), (.int .u8 0), (.int .u8 0), (.int .u8 0), (.int .u8 0), (.int .u8 0), (.int .u8 0), (.int .u8 0), (.int .u8 0), (.int .u8 0), (.int .u8 0), (.int .u8 0), (.int .u8 0), (.int .u8 0), (.int .u8 0), (.int .u8 0), (.int .u8 0), (.int .u8 0), (.int .u8 0), (.int .u8 0), (.int .u8 0), (.int .u8 0), (.int .u8 0), (.int .u8 0), (.int .u8 0), (.int .u8 0), (.int .u8 0), (.int .u8 0)]
def gS : Nat → Option V := tabG 1 sp
theorem gS_ok : GB gS := tabG_gb (by decide +kernel)
theorem mix : Tryz.prog.follows .mixedOrders = true := by kernel_rfl
def l0 : List (FuncId × List V × V) := []
theorem n0 : KnownG Tryz.prog gS l0 := .nil
/-- weirgate/weirgateref08.Tokens -/
def a0 : List V := [(.str [118, 97, 114, 32, 120, 32, 111, 102, 32, 57, 59])]
def v0 : V := (.tup [(.rs 3 [[(.int .i64 0), (.str [118, 97, 114]), (.int .i64 0)], [(.int .i64 0), (.str [120]), (.int .i64 4)], [(.int .i64 0), (.str [111, 102]), (.int .i64 6)], [(.int .i64 1), (.str [57]), (.int .i64 9)], [(.int .i64 2), (.str [59]), (.int .i64 10)], [(.int .i64 3), (.str []), (.int .i64 11)]]), (.agg [(.int .i64 0), (.int .i64 0)])])
theorem k0 : PureOk Tryz.prog gS 11 a0 v0 := known_fastG tab_ok mix mode gS_ok n0 1000 (by decide +kernel) (by kernel_rfl)
def l1 : List (FuncId × List V × V) := (11, a0, v0) :: l0
theorem n1 : KnownG Tryz.prog gS l1 := .cons k0 n0
/-- weirgate/weirgateref08.Key -/
def a1 : List V := [(.str [118, 97, 114])]
def v1 : V := (.bool true)
theorem k1 : PureOk Tryz.prog gS 54 a1 v1 := known_fastG tab_ok mix mode gS_ok n1 1000 (by decide +kernel) (by kernel_rfl)
def l2 : List (FuncId × List V × V) := (54, a1, v1) :: l1
theorem n2 : KnownG Tryz.prog gS l2 := .cons k1 n1
/-- weirgate/weirgateref08.Key -/
def a2 : List V := [(.str [120])]
def v2 : V := (.bool false)
theorem k2 : PureOk Tryz.prog gS 54 a2 v2 := known_fastG tab_ok mix mode gS_ok n2 1000 (by decide +kernel) (by kernel_rfl)
def l3 : List (FuncId × List V × V) := (54, a2, v2) :: l2
theorem n3 : KnownG Tryz.prog gS l3 := .cons k2 n2
/-- weirgate/weirgateref08.Name -/
def a3 : List V := [(.str [120])]
def v3 : V := (.bool true)
theorem k3 : PureOk Tryz.prog gS 57 a3 v3 := known_fastG tab_ok mix mode gS_ok n3 1000 (by decide +kernel) (by kernel_rfl)
def l4 : List (FuncId × List V × V) := (57, a3, v3) :: l3
theorem n4 : KnownG Tryz.prog gS l4 := .cons k3 n3
/-- weirgate/weirgateref08.Key -/
def a4 : List V := [(.str [111, 102])]
def v4 : V := (.bool true)
theorem k4 : PureOk Tryz.prog gS 54 a4 v4 := known_fastG tab_ok mix mode gS_ok n4 1000 (by decide +kernel) (by kernel_rfl)
def l5 : List (FuncId × List V × V) := (54, a4, v4) :: l4
theorem n5 : KnownG Tryz.prog gS l5 := .cons k4 n4
/-- weirgate/weirgateref09.Parse -/
def a5 : List V := [(.str [118, 97, 114, 32, 120, 32, 111, 102, 32, 57, 59])]
def v5 : V := (.tup [(.rs 5 [[(.int .i64 0), .nils, .nils, (.rs 1 [[(.int .i64 1)]]), (.int .i64 0)], [(.int .i64 2), (.rs 1 [[(.str [120])]]), (.rs 1 [[(.int .i64 9)], [(.int .i64 0)]]), .nils, (.int .i64 0)]]), (.agg [(.int .i64 0), (.int .i64 0)])])
theorem k5 : PureOk Tryz.prog gS 7 a5 v5 := known_fastG tab_ok mix mode gS_ok n5 1000 (by decide +kernel) (by kernel_rfl)
def l6 : List (FuncId × List V × V) := (7, a5, v5) :: l5
theorem n6 : KnownG Tryz.prog gS l6 := .cons k5 n5
/-- weirgate/lex.keys -/
def a6 : List V := []
def v6 : V := (.rs 1 [[(.str [99, 104, 97, 110])], [(.str [111, 102])], [(.str [108, 111, 115, 115, 121])], [(.str [99, 111, 112, 121, 105, 110, 103])], [(.str [118, 97, 114])], [(.str [112, 114, 111, 99])], [(.str [115, 97, 102, 101])], [(.str [100, 101, 97, 100, 108, 111, 99, 107])], [(.str [115, 101, 110, 100])], [(.str [114, 101, 99, 118])], [(.str [105, 100, 108, 101])], [(.str [119, 104, 101, 110])], [(.str [99, 104, 111, 111, 115, 101])], [(.str [111, 114])], [(.str [105, 102])], [(.str [101, 108, 115, 101])], [(.str [119, 104, 105, 108, 101])], [(.str [97, 116, 111, 109, 105, 99])], [(.str [115, 107, 105, 112])], [(.str [115, 116, 111, 112])], [(.str [108, 101, 110])]])
theorem k6 : PureOk Tryz.prog gS 102 a6 v6 := known_fastG tab_ok mix mode gS_ok n6 1000 (by decide +kernel) (by kernel_rfl)
def l7 : List (FuncId × List V × V) := (102, a6, v6) :: l6
theorem n7 : KnownG Tryz.prog gS l7 := .cons k6 n6
/-- weirgate/lex.Key -/
def a7 : List V := [(.str [120])]
def v7 : V := (.bool false)
theorem k7 : PureOk Tryz.prog gS 85 a7 v7 := known_fastG tab_ok mix mode gS_ok n7 1000 (by decide +kernel) (by kernel_rfl)
def l8 : List (FuncId × List V × V) := (85, a7, v7) :: l7
theorem n8 : KnownG Tryz.prog gS l8 := .cons k7 n7
/-- weirgate/lex.Name -/
def a8 : List V := [(.str [120])]
def v8 : V := (.bool true)
theorem k8 : PureOk Tryz.prog gS 69 a8 v8 := known_fastG tab_ok mix mode gS_ok n8 1000 (by decide +kernel) (by kernel_rfl)
def l9 : List (FuncId × List V × V) := (69, a8, v8) :: l8
theorem n9 : KnownG Tryz.prog gS l9 := .cons k8 n8
/-- weirgate/parse.Right -/
def a9 : List V := [(.rs 5 [[(.int .i64 0), .nils, .nils, (.rs 1 [[(.int .i64 1)]]), (.int .i64 0)], [(.int .i64 2), (.rs 1 [[(.str [120])]]), (.rs 1 [[(.int .i64 9)], [(.int .i64 0)]]), .nils, (.int .i64 0)]])]
def v9 : V := (.bool true)
theorem k9 : PureOk Tryz.prog gS 27 a9 v9 := known_fastG tab_ok mix mode gS_ok n9 1000 (by decide +kernel) (by kernel_rfl)
def l10 : List (FuncId × List V × V) := (27, a9, v9) :: l9
theorem n10 : KnownG Tryz.prog gS l10 := .cons k9 n9
/-- weirgate/scope.Check -/
def a10 : List V := [(.rs 5 [[(.int .i64 0), .nils, .nils, (.rs 1 [[(.int .i64 1)]]), (.int .i64 0)], [(.int .i64 2), (.rs 1 [[(.str [120])]]), (.rs 1 [[(.int .i64 9)], [(.int .i64 0)]]), .nils, (.int .i64 0)]])]
def v10 : V := (.agg [(.int .i64 0), (.int .i64 0)])
theorem k10 : PureOk Tryz.prog gS 15 a10 v10 := known_fastG tab_ok mix mode gS_ok n10 1000 (by decide +kernel) (by kernel_rfl)
def l11 : List (FuncId × List V × V) := (15, a10, v10) :: l10
theorem n11 : KnownG Tryz.prog gS l11 := .cons k10 n10
/-- weirgate/typing.Check -/
def a11 : List V := [(.rs 5 [[(.int .i64 0), .nils, .nils, (.rs 1 [[(.int .i64 1)]]), (.int .i64 0)], [(.int .i64 2), (.rs 1 [[(.str [120])]]), (.rs 1 [[(.int .i64 9)], [(.int .i64 0)]]), .nils, (.int .i64 0)]])]
def v11 : V := (.agg [(.int .i64 22), (.int .i64 0)])
theorem k11 : PureOk Tryz.prog gS 8 a11 v11 := known_fastG tab_ok mix mode gS_ok n11 1000 (by decide +kernel) (by kernel_rfl)
def l12 : List (FuncId × List V × V) := (8, a11, v11) :: l11
theorem n12 : KnownG Tryz.prog gS l12 := .cons k11 n11
/-- weirgate/weirgatelaw12.awake -/
def a12 : List V := []
def v12 : V := (.bool true)
theorem k12 : PureOk Tryz.prog gS 5 a12 v12 := known_fastG tab_ok mix mode gS_ok n12 1000 (by decide +kernel) (by kernel_rfl)
def l13 : List (FuncId × List V × V) := (5, a12, v12) :: l12
theorem n13 : KnownG Tryz.prog gS l13 := .cons k12 n12
end Go.Proofs.YtgknkkdemjjeoaaGreatDoor.Code
