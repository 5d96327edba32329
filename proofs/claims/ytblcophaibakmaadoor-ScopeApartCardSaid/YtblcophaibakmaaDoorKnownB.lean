/- A part of the proof: KnownB. No condition. -/
import Derived.Test.YtblcophaibakmaaDoorCodeB
import Derived.Test.YtblcophaibakmaaDoorMiniGlob
set_option linter.all false
set_option maxRecDepth 100000
set_option maxRecDepth 1000000
set_option maxHeartbeats 0
namespace Go.Proofs.YtblcophaibakmaaDoor.Code
open Go.Mini
def mode (f : FuncId) : Go.Mini.Mode := 
 bif Nat.beq f 6 then .pure else bif Nat.beq f 7 then .pure else bif Nat.beq f 8 then .pure else bif Nat.beq f 9 then .pure else bif Nat.beq f 13 then .pure else bif Nat.beq f 77 then .pure else bif Nat.beq f 48 then .pure else bif Nat.beq f 66 then .pure else bif Nat.beq f 53 then .pure else bif Nat.beq f 56 then .pure else bif Nat.beq f 30 then .keep else bif Nat.beq f 50 then .keep else bif Nat.beq f 51 then .keep else bif Nat.beq f 68 then .keep else bif Nat.beq f 52 then .keep else bif Nat.beq f 67 then .keep else bif Nat.beq f 70 then .keep else .frozen
def sp : List V := [(.int .u8 0), (.int .u8 0), (.int .u8 0), (.int .u8 0), (.int .u8 0), (.int .u8 0), (.int .u8 0), (.int .u8 0), (.int .u8 0), (.int .u8 1), (.int .u8 1), (.int .u8 1), (.int .u8 1), (.int .u8 1), (.int .u8 0), (.int .u8 0), (.int .u8 0), (.int .u8 0), (.int .u8 0), (.int .u8 0), (.int .u8 0), (.int .u8 0), (.int .u8 0), (.int .u8 0), (.int .u8 0), (.int .u8 0), (.int .u8 0), (.int .u8 0), (.int .u8 0), (.int .u8 0), (.int .u8 0), (.int .u8 0), (.int .u8 1), (.int .u8 0), (.int .u8 0), (.int .u8 0), (.int .u8 0), (.int .u8 0), (.int .u8 0), (.int .u8 0), (.int .u8 0), (.int .u8 0), (.int .u8 0), (.int .u8 0), (.int .u8 0), (.int .u8 0), (.int .u8 0), (.int .u8 0), (.int .u8 0), (.int .u8 0), (.int .u8 0), (.int .u8 0), (.int .u8 0), (.int .u8 0), (.int .u8 0), (.int .u8 0), (.int .u8 0), (.int .u8 0), (.int .u8 0), (.int .u8 0), (.int .u8 0), (.int .u8 0), (.int .u8 0), (.int .u8 0), (.int .u8 0), (.int .u8 0), (.int .u8 0), (.int .u8 0), (.int .u8 0), (.int .u8 0), (.int .u8 0), (.int .u8 0), (.int .u8 0), (.int .u8 0), (.int .u8 0), (.int .u8 0), (.int .u8 0), (.int .u8 0), (.int .u8 0), (.int .u8 0), (.int .u8 0), (.int .u8 0), (.int .u8 0), (.int .u8 0), (.int .u8 0), (.int .u8 0), (.int .u8 0), (.int .u8 0), (.int .u8 0), (.int .u8 0), (.int .u8 0), (.int .u8 0), (.int .u8 0), (.int .u8 0), (.int .u8 0), (.int .u8 0), (.int .u8 0), (.int .u8 0), (.int .u8 0), (.int .u8 0), (.int .u8 0), (.int .u8 0), (.int .u8 0), (.int .u8 0), (.int .u8 0), (.int .u8 0), (.int .u8 0), (.int .u8 0), (.int .u8 0), (.int .u8 0), (.int .u8 0), (.int .u8 0), (.int .u8 0), (.int .u8 0), (.int .u8 0), (.int .u8 0), (.int .u8 0), (.int .u8 0), (.int .u8 0), (.int .u8 0), (.int .u8 0), (.int .u8 0), (.int .u8 0), (.int .u8 0), (.int .u8 0), (.int .u8 0), (.int .u8 0), (.int .u8 0), (.int .u8 0), (.int .u8 0), (.int .u8 0), (.int .u8 0), (.int .u8 0), (.int .u8 0), (.int .u8 0), (.int .u8 0), (.int .u8 0), (.int .u8 0), (.int .u8 0), (.int .u8 0), (.int .u8 0), (.int .u8 0), (.int .u8 0), (.int .u8 0), (.int .u8 0), (.int .u8 0), (.int .u8 0), (.int .u8 0), (.int .u8 0), (.int .u8 0), (.int .u8 0), (.int .u8 0), (.int .u8 0), (.int .u8 0), (.int .u8 0), (.int .u8 0), (.int .u8 0), (.int .u8 0), (.int .u8 0), (.int .u8 0), (.int .u8 0), (.int .u8 0), (.int .u8 0), (.int .u8 0), (.int .u8 0), (.int .u8 0), (.int .u8 0), (.int .u8 0), (.int .u8 0), (.int .u8 0), (.int .u8 0), (.int .u8 0), (.int .u8 0), (.int .u8 0), (.int .u8 0), (.int .u8 0), (.int .u8 0), (.int .u8 0), (.int .u8 0), (.int .u8 0), (.int .u8 0), (.int .u8 0), (.int .u8 0), (.int .u8 0), (.int .u8 0), (.int .u8 0), (.int .u8 0), (.int .u8 0), (.int .u8 0), (.int .u8 0), (.int .u8 0), (.int .u8 0), (.int .u8 0), (.int .u8 0), (.int .u8 0), (.int .u8 0), (.int .u8 0), (.int .u8 0), (.int .u8 0), (.int .u8 0), (.int .u8 0), (.int .u8 0), (.int .u8 0), (.int .u8 0), (.int .u8 0), (.int .u8 0), (.int .u8 0), (.int .u8 0), (.int .u8 0), (.int .u8 0), (.int .u8 0), (.int .u8 0), (.int .u8 0), (.int .u8 0), (.int .u8 0), (.int .u8 0), (.int .u8 0), (.int .u8 0), (.int .u8 0), (.int .u8 0), (.int .u8 0), (.int .u8 0), (.int .u8 0), (.int .u8 0), (.int .u8 0), (.int .u8 0), (.int .u8 0), (.int .u8 0), (.int .u8 0), (.int .u8 0), (.int .u8 0), (.int .u8 0), (.int .u8 0), (.int .u8 0), (.int .u8 0), (.int .u8 0), (.int .u8 0), (.int .u8 0), (.int .u8 0), (.int .u8 0), (.int .u8 0), (.int .u8 0), (.int .u8 0), (.int .u8 0), (.int .u8 0), (.int .u8 0), (.int .u8 0), (.int .u8 0), (.int .u8 0), (.int .u8 0), (.int .u8 0), (.int .u8 0), (.int .u8 0), (.int .u8 0), (.int .u8 0), (.int .u8 0)]
def gS : Nat → Option V := tabG 0 sp
theorem gS_ok : GB gS := tabG_gb (by decide +kernel)
theorem mix : Tryd.prog.follows .mixedOrders = true := by kernel_rfl
def l0 : List (FuncId × List V × V) := []
theorem n0 : KnownG Tryd.prog gS l0 := .nil
/-- weirgate/weirgateref08.Tokens -/
def a0 : List V := [(.str [115, 97, 102, 101, 32, 120, 59])]
def v0 : V := (.tup [(.rs 3 [[(.int .i64 0), (.str [115, 97, 102, 101]), (.int .i64 0)], [(.int .i64 0), (.str [120]), (.int .i64 5)], [(.int .i64 2), (.str [59]), (.int .i64 6)], [(.int .i64 3), (.str []), (.int .i64 7)]]), (.agg [(.int .i64 0), (.int .i64 0)])])
theorem k0 : PureOk Tryd.prog gS 9 a0 v0 := known_fastG tab_ok mix mode gS_ok n0 1000 (by decide +kernel) (by kernel_rfl)
def l1 : List (FuncId × List V × V) := (9, a0, v0) :: l0
theorem n1 : KnownG Tryd.prog gS l1 := .cons k0 n0
/-- weirgate/weirgateref08.Key -/
def a1 : List V := [(.str [115, 97, 102, 101])]
def v1 : V := (.bool true)
theorem k1 : PureOk Tryd.prog gS 53 a1 v1 := known_fastG tab_ok mix mode gS_ok n1 1000 (by decide +kernel) (by kernel_rfl)
def l2 : List (FuncId × List V × V) := (53, a1, v1) :: l1
theorem n2 : KnownG Tryd.prog gS l2 := .cons k1 n1
/-- weirgate/weirgateref08.Key -/
def a2 : List V := [(.str [120])]
def v2 : V := (.bool false)
theorem k2 : PureOk Tryd.prog gS 53 a2 v2 := known_fastG tab_ok mix mode gS_ok n2 1000 (by decide +kernel) (by kernel_rfl)
def l3 : List (FuncId × List V × V) := (53, a2, v2) :: l2
theorem n3 : KnownG Tryd.prog gS l3 := .cons k2 n2
/-- weirgate/weirgateref08.Name -/
def a3 : List V := [(.str [120])]
def v3 : V := (.bool true)
theorem k3 : PureOk Tryd.prog gS 56 a3 v3 := known_fastG tab_ok mix mode gS_ok n3 1000 (by decide +kernel) (by kernel_rfl)
def l4 : List (FuncId × List V × V) := (56, a3, v3) :: l3
theorem n4 : KnownG Tryd.prog gS l4 := .cons k3 n3
/-- weirgate/weirgateref09.Parse -/
def a4 : List V := [(.str [115, 97, 102, 101, 32, 120, 59])]
def v4 : V := (.tup [(.rs 5 [[(.int .i64 0), .nils, .nils, (.rs 1 [[(.int .i64 1)]]), (.int .i64 0)], [(.int .i64 4), .nils, .nils, (.rs 1 [[(.int .i64 2)]]), (.int .i64 0)], [(.int .i64 18), (.rs 1 [[(.str [120])]]), .nils, .nils, (.int .i64 5)]]), (.agg [(.int .i64 0), (.int .i64 0)])])
theorem k4 : PureOk Tryd.prog gS 7 a4 v4 := known_fastG tab_ok mix mode gS_ok n4 1000 (by decide +kernel) (by kernel_rfl)
def l5 : List (FuncId × List V × V) := (7, a4, v4) :: l4
theorem n5 : KnownG Tryd.prog gS l5 := .cons k4 n4
/-- weirgate/weirgateref08.Tokens -/
def a5 : List V := [(.str [118, 97, 114, 32, 120, 32, 111, 102, 32, 49, 59, 32, 115, 97, 102, 101, 32, 120, 59])]
def v5 : V := (.tup [(.rs 3 [[(.int .i64 0), (.str [118, 97, 114]), (.int .i64 0)], [(.int .i64 0), (.str [120]), (.int .i64 4)], [(.int .i64 0), (.str [111, 102]), (.int .i64 6)], [(.int .i64 1), (.str [49]), (.int .i64 9)], [(.int .i64 2), (.str [59]), (.int .i64 10)], [(.int .i64 0), (.str [115, 97, 102, 101]), (.int .i64 12)], [(.int .i64 0), (.str [120]), (.int .i64 17)], [(.int .i64 2), (.str [59]), (.int .i64 18)], [(.int .i64 3), (.str []), (.int .i64 19)]]), (.agg [(.int .i64 0), (.int .i64 0)])])
theorem k5 : PureOk Tryd.prog gS 9 a5 v5 := known_fastG tab_ok mix mode gS_ok n5 1000 (by decide +kernel) (by kernel_rfl)
def l6 : List (FuncId × List V × V) := (9, a5, v5) :: l5
theorem n6 : KnownG Tryd.prog gS l6 := .cons k5 n5
/-- weirgate/weirgateref08.Key -/
def a6 : List V := [(.str [118, 97, 114])]
def v6 : V := (.bool true)
theorem k6 : PureOk Tryd.prog gS 53 a6 v6 := known_fastG tab_ok mix mode gS_ok n6 1000 (by decide +kernel) (by kernel_rfl)
def l7 : List (FuncId × List V × V) := (53, a6, v6) :: l6
theorem n7 : KnownG Tryd.prog gS l7 := .cons k6 n6
/-- weirgate/weirgateref08.Key -/
def a7 : List V := [(.str [111, 102])]
def v7 : V := (.bool true)
theorem k7 : PureOk Tryd.prog gS 53 a7 v7 := known_fastG tab_ok mix mode gS_ok n7 1000 (by decide +kernel) (by kernel_rfl)
def l8 : List (FuncId × List V × V) := (53, a7, v7) :: l7
theorem n8 : KnownG Tryd.prog gS l8 := .cons k7 n7
/-- weirgate/weirgateref09.Parse -/
def a8 : List V := [(.str [118, 97, 114, 32, 120, 32, 111, 102, 32, 49, 59, 32, 115, 97, 102, 101, 32, 120, 59])]
def v8 : V := (.tup [(.rs 5 [[(.int .i64 0), .nils, .nils, (.rs 1 [[(.int .i64 1)], [(.int .i64 2)]]), (.int .i64 0)], [(.int .i64 2), (.rs 1 [[(.str [120])]]), (.rs 1 [[(.int .i64 1)], [(.int .i64 0)]]), .nils, (.int .i64 0)], [(.int .i64 4), .nils, .nils, (.rs 1 [[(.int .i64 3)]]), (.int .i64 12)], [(.int .i64 18), (.rs 1 [[(.str [120])]]), .nils, .nils, (.int .i64 17)]]), (.agg [(.int .i64 0), (.int .i64 0)])])
theorem k8 : PureOk Tryd.prog gS 7 a8 v8 := known_fastG tab_ok mix mode gS_ok n8 1000 (by decide +kernel) (by kernel_rfl)
def l9 : List (FuncId × List V × V) := (7, a8, v8) :: l8
theorem n9 : KnownG Tryd.prog gS l9 := .cons k8 n8
/-- weirgate/lex.keys -/
def a9 : List V := []
def v9 : V := (.rs 1 [[(.str [99, 104, 97, 110])], [(.str [111, 102])], [(.str [108, 111, 115, 115, 121])], [(.str [99, 111, 112, 121, 105, 110, 103])], [(.str [118, 97, 114])], [(.str [112, 114, 111, 99])], [(.str [115, 97, 102, 101])], [(.str [100, 101, 97, 100, 108, 111, 99, 107])], [(.str [115, 101, 110, 100])], [(.str [114, 101, 99, 118])], [(.str [105, 100, 108, 101])], [(.str [119, 104, 101, 110])], [(.str [99, 104, 111, 111, 115, 101])], [(.str [111, 114])], [(.str [105, 102])], [(.str [101, 108, 115, 101])], [(.str [119, 104, 105, 108, 101])], [(.str [97, 116, 111, 109, 105, 99])], [(.str [115, 107, 105, 112])], [(.str [115, 116, 111, 112])], [(.str [108, 101, 110])]])
theorem k9 : PureOk Tryd.prog gS 77 a9 v9 := known_fastG tab_ok mix mode gS_ok n9 1000 (by decide +kernel) (by kernel_rfl)
def l10 : List (FuncId × List V × V) := (77, a9, v9) :: l9
theorem n10 : KnownG Tryd.prog gS l10 := .cons k9 n9
/-- weirgate/lex.Key -/
def a10 : List V := [(.str [120])]
def v10 : V := (.bool false)
theorem k10 : PureOk Tryd.prog gS 66 a10 v10 := known_fastG tab_ok mix mode gS_ok n10 1000 (by decide +kernel) (by kernel_rfl)
def l11 : List (FuncId × List V × V) := (66, a10, v10) :: l10
theorem n11 : KnownG Tryd.prog gS l11 := .cons k10 n10
/-- weirgate/lex.Name -/
def a11 : List V := [(.str [120])]
def v11 : V := (.bool true)
theorem k11 : PureOk Tryd.prog gS 48 a11 v11 := known_fastG tab_ok mix mode gS_ok n11 1000 (by decide +kernel) (by kernel_rfl)
def l12 : List (FuncId × List V × V) := (48, a11, v11) :: l11
theorem n12 : KnownG Tryd.prog gS l12 := .cons k11 n11
/-- weirgate/parse.Right -/
def a12 : List V := [(.rs 5 [[(.int .i64 0), .nils, .nils, (.rs 1 [[(.int .i64 1)]]), (.int .i64 0)], [(.int .i64 4), .nils, .nils, (.rs 1 [[(.int .i64 2)]]), (.int .i64 0)], [(.int .i64 18), (.rs 1 [[(.str [120])]]), .nils, .nils, (.int .i64 5)]])]
def v12 : V := (.bool true)
theorem k12 : PureOk Tryd.prog gS 13 a12 v12 := known_fastG tab_ok mix mode gS_ok n12 1000 (by decide +kernel) (by kernel_rfl)
def l13 : List (FuncId × List V × V) := (13, a12, v12) :: l12
theorem n13 : KnownG Tryd.prog gS l13 := .cons k12 n12
/-- weirgate/scope.Check -/
def a13 : List V := [(.rs 5 [[(.int .i64 0), .nils, .nils, (.rs 1 [[(.int .i64 1)]]), (.int .i64 0)], [(.int .i64 4), .nils, .nils, (.rs 1 [[(.int .i64 2)]]), (.int .i64 0)], [(.int .i64 18), (.rs 1 [[(.str [120])]]), .nils, .nils, (.int .i64 5)]])]
def v13 : V := (.agg [(.int .i64 20), (.int .i64 5)])
theorem k13 : PureOk Tryd.prog gS 8 a13 v13 := known_fastG tab_ok mix mode gS_ok n13 1000 (by decide +kernel) (by kernel_rfl)
def l14 : List (FuncId × List V × V) := (8, a13, v13) :: l13
theorem n14 : KnownG Tryd.prog gS l14 := .cons k13 n13
/-- weirgate/parse.Right -/
def a14 : List V := [(.rs 5 [[(.int .i64 0), .nils, .nils, (.rs 1 [[(.int .i64 1)], [(.int .i64 2)]]), (.int .i64 0)], [(.int .i64 2), (.rs 1 [[(.str [120])]]), (.rs 1 [[(.int .i64 1)], [(.int .i64 0)]]), .nils, (.int .i64 0)], [(.int .i64 4), .nils, .nils, (.rs 1 [[(.int .i64 3)]]), (.int .i64 12)], [(.int .i64 18), (.rs 1 [[(.str [120])]]), .nils, .nils, (.int .i64 17)]])]
def v14 : V := (.bool true)
theorem k14 : PureOk Tryd.prog gS 13 a14 v14 := known_fastG tab_ok mix mode gS_ok n14 1000 (by decide +kernel) (by kernel_rfl)
def l15 : List (FuncId × List V × V) := (13, a14, v14) :: l14
theorem n15 : KnownG Tryd.prog gS l15 := .cons k14 n14
/-- weirgate/scope.Check -/
def a15 : List V := [(.rs 5 [[(.int .i64 0), .nils, .nils, (.rs 1 [[(.int .i64 1)], [(.int .i64 2)]]), (.int .i64 0)], [(.int .i64 2), (.rs 1 [[(.str [120])]]), (.rs 1 [[(.int .i64 1)], [(.int .i64 0)]]), .nils, (.int .i64 0)], [(.int .i64 4), .nils, .nils, (.rs 1 [[(.int .i64 3)]]), (.int .i64 12)], [(.int .i64 18), (.rs 1 [[(.str [120])]]), .nils, .nils, (.int .i64 17)]])]
def v15 : V := (.agg [(.int .i64 0), (.int .i64 0)])
theorem k15 : PureOk Tryd.prog gS 8 a15 v15 := known_fastG tab_ok mix mode gS_ok n15 1000 (by decide +kernel) (by kernel_rfl)
def l16 : List (FuncId × List V × V) := (8, a15, v15) :: l15
theorem n16 : KnownG Tryd.prog gS l16 := .cons k15 n15
/-- weirgate/weirgatelaw11.awake -/
def a16 : List V := []
def v16 : V := (.bool true)
theorem k16 : PureOk Tryd.prog gS 6 a16 v16 := known_fastG tab_ok mix mode gS_ok n16 1000 (by decide +kernel) (by kernel_rfl)
def l17 : List (FuncId × List V × V) := (6, a16, v16) :: l16
theorem n17 : KnownG Tryd.prog gS l17 := .cons k16 n16
end Go.Proofs.YtblcophaibakmaaDoor.Code
