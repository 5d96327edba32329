/- A part of the proof: ShareC. No condition. -/
import Derived.Test.YtgknkkdemjjeoaaGreatDoorCodeZ
import Derived.Test.YtgknkkdemjjeoaaGreatDoorKnownZ
import Derived.Test.YtgknkkdemjjeoaaGreatDoorMiniC
set_option linter.all false
set_option maxRecDepth 100000
set_option maxRecDepth 1000000
set_option maxHeartbeats 0
set_option linter.all false
namespace Go.Proofs.YtgknkkdemjjeoaaGreatDoor.Code
open Go.Mini
def lCs0 : List (FuncId × List V × V) := []
theorem nCs0 : KnownG Tryz.prog gS lCs0 := .nil
/-- weirgate/weirgateref08.Tokens -/
def aCs0 : List V := [(.str [118, 97, 114, 32, 120, 32, 111, 102, 32, 57, 59])]
def vCs0 : V := (.tup [(.rs 3 [[(.int .i64 0), (.str [118, 97, 114]), (.int .i64 0)], [(.int .i64 0), (.str [120]), (.int .i64 4)], [(.int .i64 0), (.str [111, 102]), (.int .i64 6)], [(.int .i64 1), (.str [57]), (.int .i64 9)], [(.int .i64 2), (.str [59]), (.int .i64 10)], [(.int .i64 3), (.str []), (.int .i64 11)]]), (.agg [(.int .i64 0), (.int .i64 0)])])
theorem kCs0 : PureOk Tryz.prog gS 11 aCs0 vCs0 := known_fastG tab_ok mix mode gS_ok nCs0 1000 (by decide +kernel) (by kernel_rfl)
def lCs1 : List (FuncId × List V × V) := (11, aCs0, vCs0) :: lCs0
theorem nCs1 : KnownG Tryz.prog gS lCs1 := .cons kCs0 nCs0
/-- weirgate/weirgateref08.Key -/
def aCs1 : List V := [(.str [118, 97, 114])]
def vCs1 : V := (.bool true)
theorem kCs1 : PureOk Tryz.prog gS 54 aCs1 vCs1 := known_fastG tab_ok mix mode gS_ok nCs1 1000 (by decide +kernel) (by kernel_rfl)
def lCs2 : List (FuncId × List V × V) := (54, aCs1, vCs1) :: lCs1
theorem nCs2 : KnownG Tryz.prog gS lCs2 := .cons kCs1 nCs1
/-- weirgate/weirgateref08.Key -/
def aCs2 : List V := [(.str [120])]
def vCs2 : V := (.bool false)
theorem kCs2 : PureOk Tryz.prog gS 54 aCs2 vCs2 := known_fastG tab_ok mix mode gS_ok nCs2 1000 (by decide +kernel) (by kernel_rfl)
def lCs3 : List (FuncId × List V × V) := (54, aCs2, vCs2) :: lCs2
theorem nCs3 : KnownG Tryz.prog gS lCs3 := .cons kCs2 nCs2
/-- weirgate/weirgateref08.Name -/
def aCs3 : List V := [(.str [120])]
def vCs3 : V := (.bool true)
theorem kCs3 : PureOk Tryz.prog gS 57 aCs3 vCs3 := known_fastG tab_ok mix mode gS_ok nCs3 1000 (by decide +kernel) (by kernel_rfl)
def lCs4 : List (FuncId × List V × V) := (57, aCs3, vCs3) :: lCs3
theorem nCs4 : KnownG Tryz.prog gS lCs4 := .cons kCs3 nCs3
/-- weirgate/weirgateref08.Key -/
def aCs4 : List V := [(.str [111, 102])]
def vCs4 : V := (.bool true)
theorem kCs4 : PureOk Tryz.prog gS 54 aCs4 vCs4 := known_fastG tab_ok mix mode gS_ok nCs4 1000 (by decide +kernel) (by kernel_rfl)
def lCs5 : List (FuncId × List V × V) := (54, aCs4, vCs4) :: lCs4
theorem nCs5 : KnownG Tryz.prog gS lCs5 := .cons kCs4 nCs4
/-- weirgate/weirgateref09.Parse -/
def aCs5 : List V := [(.str [118, 97, 114, 32, 120, 32, 111, 102, 32, 57, 59])]
def vCs5 : V := (.tup [(.rs 5 [[(.int .i64 0), .nils, .nils, (.rs 1 [[(.int .i64 1)]]), (.int .i64 0)], [(.int .i64 2), (.rs 1 [[(.str [120])]]), (.rs 1 [[(.int .i64 9)], [(.int .i64 0)]]), .nils, (.int .i64 0)]]), (.agg [(.int .i64 0), (.int .i64 0)])])
theorem kCs5 : PureOk Tryz.prog gS 7 aCs5 vCs5 := known_fastG tab_ok mix mode gS_ok nCs5 1000 (by decide +kernel) (by kernel_rfl)
def lCs6 : List (FuncId × List V × V) := (7, aCs5, vCs5) :: lCs5
theorem nCs6 : KnownG Tryz.prog gS lCs6 := .cons kCs5 nCs5
/-- weirgate/lex.keys -/
def aCs6 : List V := []
def vCs6 : V := (.rs 1 [[(.str [99, 104, 97, 110])], [(.str [111, 102])], [(.str [108, 111, 115, 115, 121])], [(.str [99, 111, 112, 121, 105, 110, 103])], [(.str [118, 97, 114])], [(.str [112, 114, 111, 99])], [(.str [115, 97, 102, 101])], [(.str [100, 101, 97, 100, 108, 111, 99, 107])], [(.str [115, 101, 110, 100])], [(.str [114, 101, 99, 118])], [(.str [105, 100, 108, 101])], [(.str [119, 104, 101, 110])], [(.str [99, 104, 111, 111, 115, 101])], [(.str [111, 114])], [(.str [105, 102])], [(.str [101, 108, 115, 101])], [(.str [119, 104, 105, 108, 101])], [(.str [97, 116, 111, 109, 105, 99])], [(.str [115, 107, 105, 112])], [(.str [115, 116, 111, 112])], [(.str [108, 101, 110])]])
theorem kCs6 : PureOk Tryz.prog gS 102 aCs6 vCs6 := known_fastG tab_ok mix mode gS_ok nCs6 1000 (by decide +kernel) (by kernel_rfl)
def lCs7 : List (FuncId × List V × V) := (102, aCs6, vCs6) :: lCs6
theorem nCs7 : KnownG Tryz.prog gS lCs7 := .cons kCs6 nCs6
/-- weirgate/lex.Key -/
def aCs7 : List V := [(.str [120])]
def vCs7 : V := (.bool false)
theorem kCs7 : PureOk Tryz.prog gS 85 aCs7 vCs7 := known_fastG tab_ok mix mode gS_ok nCs7 1000 (by decide +kernel) (by kernel_rfl)
def lCs8 : List (FuncId × List V × V) := (85, aCs7, vCs7) :: lCs7
theorem nCs8 : KnownG Tryz.prog gS lCs8 := .cons kCs7 nCs7
/-- weirgate/lex.Name -/
def aCs8 : List V := [(.str [120])]
def vCs8 : V := (.bool true)
theorem kCs8 : PureOk Tryz.prog gS 69 aCs8 vCs8 := known_fastG tab_ok mix mode gS_ok nCs8 1000 (by decide +kernel) (by kernel_rfl)
def lCs9 : List (FuncId × List V × V) := (69, aCs8, vCs8) :: lCs8
theorem nCs9 : KnownG Tryz.prog gS lCs9 := .cons kCs8 nCs8
/-- weirgate/parse.Right -/
def aCs9 : List V := [(.rs 5 [[(.int .i64 0), .nils, .nils, (.rs 1 [[(.int .i64 1)]]), (.int .i64 0)], [(.int .i64 2), (.rs 1 [[(.str [120])]]), (.rs 1 [[(.int .i64 9)], [(.int .i64 0)]]), .nils, (.int .i64 0)]])]
def vCs9 : V := (.bool true)
theorem kCs9 : PureOk Tryz.prog gS 27 aCs9 vCs9 := known_fastG tab_ok mix mode gS_ok nCs9 1000 (by decide +kernel) (by kernel_rfl)
def lCs10 : List (FuncId × List V × V) := (27, aCs9, vCs9) :: lCs9
theorem nCs10 : KnownG Tryz.prog gS lCs10 := .cons kCs9 nCs9
/-- weirgate/scope.Check -/
def aCs10 : List V := [(.rs 5 [[(.int .i64 0), .nils, .nils, (.rs 1 [[(.int .i64 1)]]), (.int .i64 0)], [(.int .i64 2), (.rs 1 [[(.str [120])]]), (.rs 1 [[(.int .i64 9)], [(.int .i64 0)]]), .nils, (.int .i64 0)]])]
def vCs10 : V := (.agg [(.int .i64 0), (.int .i64 0)])
theorem kCs10 : PureOk Tryz.prog gS 15 aCs10 vCs10 := known_fastG tab_ok mix mode gS_ok nCs10 1000 (by decide +kernel) (by kernel_rfl)
def lCs11 : List (FuncId × List V × V) := (15, aCs10, vCs10) :: lCs10
theorem nCs11 : KnownG Tryz.prog gS lCs11 := .cons kCs10 nCs10
/-- weirgate/typing.Check -/
def aCs11 : List V := [(.rs 5 [[(.int .i64 0), .nils, .nils, (.rs 1 [[(.int .i64 1)]]), (.int .i64 0)], [(.int .i64 2), (.rs 1 [[(.str [120])]]), (.rs 1 [[(.int .i64 9)], [(.int .i64 0)]]), .nils, (.int .i64 0)]])]
def vCs11 : V := (.agg [(.int .i64 22), (.int .i64 0)])
theorem kCs11 : PureOk Tryz.prog gS 8 aCs11 vCs11 := known_fastG tab_ok mix mode gS_ok nCs11 1000 (by decide +kernel) (by kernel_rfl)
def lCs12 : List (FuncId × List V × V) := (8, aCs11, vCs11) :: lCs11
theorem nCs12 : KnownG Tryz.prog gS lCs12 := .cons kCs11 nCs11
/-- weirgate/weirgatelaw12.awake -/
def aCs12 : List V := []
def vCs12 : V := (.bool true)
theorem kCs12 : PureOk Tryz.prog gS 5 aCs12 vCs12 := known_fastG tab_ok mix mode gS_ok nCs12 1000 (by decide +kernel) (by kernel_rfl)
def lCs13 : List (FuncId × List V × V) := (5, aCs12, vCs12) :: lCs12
theorem nCs13 : KnownG Tryz.prog gS lCs13 := .cons kCs12 nCs12
/-- weirgate/weirgateref01.Digits -/
def aCs13 : List V := [(.int .i64 1)]
def vCs13 : V := (.str [49])
theorem kCs13 : PureOk Tryz.prog gS 10 aCs13 vCs13 := known_fastG tab_ok mix mode gS_ok nCs13 1000 (by decide +kernel) (by kernel_rfl)
def lCs14 : List (FuncId × List V × V) := (10, aCs13, vCs13) :: lCs13
theorem nCs14 : KnownG Tryz.prog gS lCs14 := .cons kCs13 nCs13
/-- weirgate/weirgatelaw12.num -/
def aCs14 : List V := [(.int .i64 1)]
def vCs14 : V := (.str [49])
theorem kCs14 : PureOk Tryz.prog gS 6 aCs14 vCs14 := known_fastG tab_ok mix mode gS_ok nCs14 1000 (by decide +kernel) (by kernel_rfl)
def lCs15 : List (FuncId × List V × V) := (6, aCs14, vCs14) :: lCs14
theorem nCs15 : KnownG Tryz.prog gS lCs15 := .cons kCs14 nCs14
/-- weirgate/weirgateref08.Key -/
def aCs15 : List V := [(.str [112, 114, 111, 99])]
def vCs15 : V := (.bool true)
theorem kCs15 : PureOk Tryz.prog gS 54 aCs15 vCs15 := known_fastG tab_ok mix mode gS_ok nCs15 1000 (by decide +kernel) (by kernel_rfl)
def lCs16 : List (FuncId × List V × V) := (54, aCs15, vCs15) :: lCs15
theorem nCs16 : KnownG Tryz.prog gS lCs16 := .cons kCs15 nCs15
/-- weirgate/weirgateref08.Key -/
def aCs16 : List V := [(.str [112])]
def vCs16 : V := (.bool false)
theorem kCs16 : PureOk Tryz.prog gS 54 aCs16 vCs16 := known_fastG tab_ok mix mode gS_ok nCs16 1000 (by decide +kernel) (by kernel_rfl)
def lCs17 : List (FuncId × List V × V) := (54, aCs16, vCs16) :: lCs16
theorem nCs17 : KnownG Tryz.prog gS lCs17 := .cons kCs16 nCs16
/-- weirgate/weirgateref08.Name -/
def aCs17 : List V := [(.str [112])]
def vCs17 : V := (.bool true)
theorem kCs17 : PureOk Tryz.prog gS 57 aCs17 vCs17 := known_fastG tab_ok mix mode gS_ok nCs17 1000 (by decide +kernel) (by kernel_rfl)
def lCs18 : List (FuncId × List V × V) := (57, aCs17, vCs17) :: lCs17
theorem nCs18 : KnownG Tryz.prog gS lCs18 := .cons kCs17 nCs17
/-- weirgate/lex.Key -/
def aCs18 : List V := [(.str [112])]
def vCs18 : V := (.bool false)
theorem kCs18 : PureOk Tryz.prog gS 85 aCs18 vCs18 := known_fastG tab_ok mix mode gS_ok nCs18 1000 (by decide +kernel) (by kernel_rfl)
def lCs19 : List (FuncId × List V × V) := (85, aCs18, vCs18) :: lCs18
theorem nCs19 : KnownG Tryz.prog gS lCs19 := .cons kCs18 nCs18
/-- weirgate/lex.Name -/
def aCs19 : List V := [(.str [112])]
def vCs19 : V := (.bool true)
theorem kCs19 : PureOk Tryz.prog gS 69 aCs19 vCs19 := known_fastG tab_ok mix mode gS_ok nCs19 1000 (by decide +kernel) (by kernel_rfl)
def lCs20 : List (FuncId × List V × V) := (69, aCs19, vCs19) :: lCs19
theorem nCs20 : KnownG Tryz.prog gS lCs20 := .cons kCs19 nCs19
/-- weirgate/weirgateref08.Key -/
def aCs20 : List V := [(.str [103, 97])]
def vCs20 : V := (.bool false)
theorem kCs20 : PureOk Tryz.prog gS 54 aCs20 vCs20 := known_fastG tab_ok mix mode gS_ok nCs20 1000 (by decide +kernel) (by kernel_rfl)
def lCs21 : List (FuncId × List V × V) := (54, aCs20, vCs20) :: lCs20
theorem nCs21 : KnownG Tryz.prog gS lCs21 := .cons kCs20 nCs20
/-- weirgate/weirgateref08.Name -/
def aCs21 : List V := [(.str [103, 97])]
def vCs21 : V := (.bool true)
theorem kCs21 : PureOk Tryz.prog gS 57 aCs21 vCs21 := known_fastG tab_ok mix mode gS_ok nCs21 1000 (by decide +kernel) (by kernel_rfl)
def lCs22 : List (FuncId × List V × V) := (57, aCs21, vCs21) :: lCs21
theorem nCs22 : KnownG Tryz.prog gS lCs22 := .cons kCs21 nCs21
/-- weirgate/lex.Key -/
def aCs22 : List V := [(.str [103, 97])]
def vCs22 : V := (.bool false)
theorem kCs22 : PureOk Tryz.prog gS 85 aCs22 vCs22 := known_fastG tab_ok mix mode gS_ok nCs22 1000 (by decide +kernel) (by kernel_rfl)
def lCs23 : List (FuncId × List V × V) := (85, aCs22, vCs22) :: lCs22
theorem nCs23 : KnownG Tryz.prog gS lCs23 := .cons kCs22 nCs22
/-- weirgate/lex.Name -/
def aCs23 : List V := [(.str [103, 97])]
def vCs23 : V := (.bool true)
theorem kCs23 : PureOk Tryz.prog gS 69 aCs23 vCs23 := known_fastG tab_ok mix mode gS_ok nCs23 1000 (by decide +kernel) (by kernel_rfl)
def lCs24 : List (FuncId × List V × V) := (69, aCs23, vCs23) :: lCs23
theorem nCs24 : KnownG Tryz.prog gS lCs24 := .cons kCs23 nCs23
/-- weirgate/weirgateref08.Key -/
def aCs24 : List V := [(.str [103, 98])]
def vCs24 : V := (.bool false)
theorem kCs24 : PureOk Tryz.prog gS 54 aCs24 vCs24 := known_fastG tab_ok mix mode gS_ok nCs24 1000 (by decide +kernel) (by kernel_rfl)
def lCs25 : List (FuncId × List V × V) := (54, aCs24, vCs24) :: lCs24
theorem nCs25 : KnownG Tryz.prog gS lCs25 := .cons kCs24 nCs24
/-- weirgate/weirgateref08.Name -/
def aCs25 : List V := [(.str [103, 98])]
def vCs25 : V := (.bool true)
theorem kCs25 : PureOk Tryz.prog gS 57 aCs25 vCs25 := known_fastG tab_ok mix mode gS_ok nCs25 1000 (by decide +kernel) (by kernel_rfl)
def lCs26 : List (FuncId × List V × V) := (57, aCs25, vCs25) :: lCs25
theorem nCs26 : KnownG Tryz.prog gS lCs26 := .cons kCs25 nCs25
/-- weirgate/lex.Key -/
def aCs26 : List V := [(.str [103, 98])]
def vCs26 : V := (.bool false)
theorem kCs26 : PureOk Tryz.prog gS 85 aCs26 vCs26 := known_fastG tab_ok mix mode gS_ok nCs26 1000 (by decide +kernel) (by kernel_rfl)
def lCs27 : List (FuncId × List V × V) := (85, aCs26, vCs26) :: lCs26
theorem nCs27 : KnownG Tryz.prog gS lCs27 := .cons kCs26 nCs26
/-- weirgate/lex.Name -/
def aCs27 : List V := [(.str [103, 98])]
def vCs27 : V := (.bool true)
theorem kCs27 : PureOk Tryz.prog gS 69 aCs27 vCs27 := known_fastG tab_ok mix mode gS_ok nCs27 1000 (by decide +kernel) (by kernel_rfl)
def lCs28 : List (FuncId × List V × V) := (69, aCs27, vCs27) :: lCs27
theorem nCs28 : KnownG Tryz.prog gS lCs28 := .cons kCs27 nCs27
/-- weirgate/weirgateref08.Key -/
def aCs28 : List V := [(.str [103, 99])]
def vCs28 : V := (.bool false)
theorem kCs28 : PureOk Tryz.prog gS 54 aCs28 vCs28 := known_fastG tab_ok mix mode gS_ok nCs28 1000 (by decide +kernel) (by kernel_rfl)
def lCs29 : List (FuncId × List V × V) := (54, aCs28, vCs28) :: lCs28
theorem nCs29 : KnownG Tryz.prog gS lCs29 := .cons kCs28 nCs28
/-- weirgate/weirgateref08.Name -/
def aCs29 : List V := [(.str [103, 99])]
def vCs29 : V := (.bool true)
theorem kCs29 : PureOk Tryz.prog gS 57 aCs29 vCs29 := known_fastG tab_ok mix mode gS_ok nCs29 1000 (by decide +kernel) (by kernel_rfl)
def lCs30 : List (FuncId × List V × V) := (57, aCs29, vCs29) :: lCs29
theorem nCs30 : KnownG Tryz.prog gS lCs30 := .cons kCs29 nCs29
/-- weirgate/lex.Key -/
def aCs30 : List V := [(.str [103, 99])]
def vCs30 : V := (.bool false)
theorem kCs30 : PureOk Tryz.prog gS 85 aCs30 vCs30 := known_fastG tab_ok mix mode gS_ok nCs30 1000 (by decide +kernel) (by kernel_rfl)
def lCs31 : List (FuncId × List V × V) := (85, aCs30, vCs30) :: lCs30
theorem nCs31 : KnownG Tryz.prog gS lCs31 := .cons kCs30 nCs30
/-- weirgate/lex.Name -/
def aCs31 : List V := [(.str [103, 99])]
def vCs31 : V := (.bool true)
theorem kCs31 : PureOk Tryz.prog gS 69 aCs31 vCs31 := known_fastG tab_ok mix mode gS_ok nCs31 1000 (by decide +kernel) (by kernel_rfl)
def lCs32 : List (FuncId × List V × V) := (69, aCs31, vCs31) :: lCs31
theorem nCs32 : KnownG Tryz.prog gS lCs32 := .cons kCs31 nCs31
/-- weirgate/weirgateref08.Key -/
def aCs32 : List V := [(.str [103, 100])]
def vCs32 : V := (.bool false)
theorem kCs32 : PureOk Tryz.prog gS 54 aCs32 vCs32 := known_fastG tab_ok mix mode gS_ok nCs32 1000 (by decide +kernel) (by kernel_rfl)
def lCs33 : List (FuncId × List V × V) := (54, aCs32, vCs32) :: lCs32
theorem nCs33 : KnownG Tryz.prog gS lCs33 := .cons kCs32 nCs32
/-- weirgate/weirgateref08.Name -/
def aCs33 : List V := [(.str [103, 100])]
def vCs33 : V := (.bool true)
theorem kCs33 : PureOk Tryz.prog gS 57 aCs33 vCs33 := known_fastG tab_ok mix mode gS_ok nCs33 1000 (by decide +kernel) (by kernel_rfl)
def lCs34 : List (FuncId × List V × V) := (57, aCs33, vCs33) :: lCs33
theorem nCs34 : KnownG Tryz.prog gS lCs34 := .cons kCs33 nCs33
/-- weirgate/lex.Key -/
def aCs34 : List V := [(.str [103, 100])]
def vCs34 : V := (.bool false)
theorem kCs34 : PureOk Tryz.prog gS 85 aCs34 vCs34 := known_fastG tab_ok mix mode gS_ok nCs34 1000 (by decide +kernel) (by kernel_rfl)
def lCs35 : List (FuncId × List V × V) := (85, aCs34, vCs34) :: lCs34
theorem nCs35 : KnownG Tryz.prog gS lCs35 := .cons kCs34 nCs34
/-- weirgate/lex.Name -/
def aCs35 : List V := [(.str [103, 100])]
def vCs35 : V := (.bool true)
theorem kCs35 : PureOk Tryz.prog gS 69 aCs35 vCs35 := known_fastG tab_ok mix mode gS_ok nCs35 1000 (by decide +kernel) (by kernel_rfl)
def lCs36 : List (FuncId × List V × V) := (69, aCs35, vCs35) :: lCs35
theorem nCs36 : KnownG Tryz.prog gS lCs36 := .cons kCs35 nCs35
/-- weirgate/weirgateref08.Key -/
def aCs36 : List V := [(.str [103, 101])]
def vCs36 : V := (.bool false)
theorem kCs36 : PureOk Tryz.prog gS 54 aCs36 vCs36 := known_fastG tab_ok mix mode gS_ok nCs36 1000 (by decide +kernel) (by kernel_rfl)
def lCs37 : List (FuncId × List V × V) := (54, aCs36, vCs36) :: lCs36
theorem nCs37 : KnownG Tryz.prog gS lCs37 := .cons kCs36 nCs36
/-- weirgate/weirgateref08.Name -/
def aCs37 : List V := [(.str [103, 101])]
def vCs37 : V := (.bool true)
theorem kCs37 : PureOk Tryz.prog gS 57 aCs37 vCs37 := known_fastG tab_ok mix mode gS_ok nCs37 1000 (by decide +kernel) (by kernel_rfl)
def lCs38 : List (FuncId × List V × V) := (57, aCs37, vCs37) :: lCs37
theorem nCs38 : KnownG Tryz.prog gS lCs38 := .cons kCs37 nCs37
/-- weirgate/lex.Key -/
def aCs38 : List V := [(.str [103, 101])]
def vCs38 : V := (.bool false)
theorem kCs38 : PureOk Tryz.prog gS 85 aCs38 vCs38 := known_fastG tab_ok mix mode gS_ok nCs38 1000 (by decide +kernel) (by kernel_rfl)
def lCs39 : List (FuncId × List V × V) := (85, aCs38, vCs38) :: lCs38
theorem nCs39 : KnownG Tryz.prog gS lCs39 := .cons kCs38 nCs38
/-- weirgate/lex.Name -/
def aCs39 : List V := [(.str [103, 101])]
def vCs39 : V := (.bool true)
theorem kCs39 : PureOk Tryz.prog gS 69 aCs39 vCs39 := known_fastG tab_ok mix mode gS_ok nCs39 1000 (by decide +kernel) (by kernel_rfl)
def lCs40 : List (FuncId × List V × V) := (69, aCs39, vCs39) :: lCs39
theorem nCs40 : KnownG Tryz.prog gS lCs40 := .cons kCs39 nCs39
/-- weirgate/weirgateref08.Key -/
def aCs40 : List V := [(.str [108, 97])]
def vCs40 : V := (.bool false)
theorem kCs40 : PureOk Tryz.prog gS 54 aCs40 vCs40 := known_fastG tab_ok mix mode gS_ok nCs40 1000 (by decide +kernel) (by kernel_rfl)
def lCs41 : List (FuncId × List V × V) := (54, aCs40, vCs40) :: lCs40
theorem nCs41 : KnownG Tryz.prog gS lCs41 := .cons kCs40 nCs40
/-- weirgate/weirgateref08.Name -/
def aCs41 : List V := [(.str [108, 97])]
def vCs41 : V := (.bool true)
theorem kCs41 : PureOk Tryz.prog gS 57 aCs41 vCs41 := known_fastG tab_ok mix mode gS_ok nCs41 1000 (by decide +kernel) (by kernel_rfl)
def lCs42 : List (FuncId × List V × V) := (57, aCs41, vCs41) :: lCs41
theorem nCs42 : KnownG Tryz.prog gS lCs42 := .cons kCs41 nCs41
/-- weirgate/lex.Key -/
def aCs42 : List V := [(.str [108, 97])]
def vCs42 : V := (.bool false)
theorem kCs42 : PureOk Tryz.prog gS 85 aCs42 vCs42 := known_fastG tab_ok mix mode gS_ok nCs42 1000 (by decide +kernel) (by kernel_rfl)
def lCs43 : List (FuncId × List V × V) := (85, aCs42, vCs42) :: lCs42
theorem nCs43 : KnownG Tryz.prog gS lCs43 := .cons kCs42 nCs42
/-- weirgate/lex.Name -/
def aCs43 : List V := [(.str [108, 97])]
def vCs43 : V := (.bool true)
theorem kCs43 : PureOk Tryz.prog gS 69 aCs43 vCs43 := known_fastG tab_ok mix mode gS_ok nCs43 1000 (by decide +kernel) (by kernel_rfl)
def lCs44 : List (FuncId × List V × V) := (69, aCs43, vCs43) :: lCs43
theorem nCs44 : KnownG Tryz.prog gS lCs44 := .cons kCs43 nCs43
/-- weirgate/weirgateref08.Key -/
def aCs44 : List V := [(.str [108, 98])]
def vCs44 : V := (.bool false)
theorem kCs44 : PureOk Tryz.prog gS 54 aCs44 vCs44 := known_fastG tab_ok mix mode gS_ok nCs44 1000 (by decide +kernel) (by kernel_rfl)
def lCs45 : List (FuncId × List V × V) := (54, aCs44, vCs44) :: lCs44
theorem nCs45 : KnownG Tryz.prog gS lCs45 := .cons kCs44 nCs44
/-- weirgate/weirgateref08.Name -/
def aCs45 : List V := [(.str [108, 98])]
def vCs45 : V := (.bool true)
theorem kCs45 : PureOk Tryz.prog gS 57 aCs45 vCs45 := known_fastG tab_ok mix mode gS_ok nCs45 1000 (by decide +kernel) (by kernel_rfl)
def lCs46 : List (FuncId × List V × V) := (57, aCs45, vCs45) :: lCs45
theorem nCs46 : KnownG Tryz.prog gS lCs46 := .cons kCs45 nCs45
/-- weirgate/lex.Key -/
def aCs46 : List V := [(.str [108, 98])]
def vCs46 : V := (.bool false)
theorem kCs46 : PureOk Tryz.prog gS 85 aCs46 vCs46 := known_fastG tab_ok mix mode gS_ok nCs46 1000 (by decide +kernel) (by kernel_rfl)
def lCs47 : List (FuncId × List V × V) := (85, aCs46, vCs46) :: lCs46
theorem nCs47 : KnownG Tryz.prog gS lCs47 := .cons kCs46 nCs46
/-- weirgate/lex.Name -/
def aCs47 : List V := [(.str [108, 98])]
def vCs47 : V := (.bool true)
theorem kCs47 : PureOk Tryz.prog gS 69 aCs47 vCs47 := known_fastG tab_ok mix mode gS_ok nCs47 1000 (by decide +kernel) (by kernel_rfl)
def lCs48 : List (FuncId × List V × V) := (69, aCs47, vCs47) :: lCs47
theorem nCs48 : KnownG Tryz.prog gS lCs48 := .cons kCs47 nCs47
/-- weirgate/weirgateref08.Key -/
def aCs48 : List V := [(.str [108, 99])]
def vCs48 : V := (.bool false)
theorem kCs48 : PureOk Tryz.prog gS 54 aCs48 vCs48 := known_fastG tab_ok mix mode gS_ok nCs48 1000 (by decide +kernel) (by kernel_rfl)
def lCs49 : List (FuncId × List V × V) := (54, aCs48, vCs48) :: lCs48
theorem nCs49 : KnownG Tryz.prog gS lCs49 := .cons kCs48 nCs48
/-- weirgate/weirgateref08.Name -/
def aCs49 : List V := [(.str [108, 99])]
def vCs49 : V := (.bool true)
theorem kCs49 : PureOk Tryz.prog gS 57 aCs49 vCs49 := known_fastG tab_ok mix mode gS_ok nCs49 1000 (by decide +kernel) (by kernel_rfl)
def lCs50 : List (FuncId × List V × V) := (57, aCs49, vCs49) :: lCs49
theorem nCs50 : KnownG Tryz.prog gS lCs50 := .cons kCs49 nCs49
/-- weirgate/lex.Key -/
def aCs50 : List V := [(.str [108, 99])]
def vCs50 : V := (.bool false)
theorem kCs50 : PureOk Tryz.prog gS 85 aCs50 vCs50 := known_fastG tab_ok mix mode gS_ok nCs50 1000 (by decide +kernel) (by kernel_rfl)
def lCs51 : List (FuncId × List V × V) := (85, aCs50, vCs50) :: lCs50
theorem nCs51 : KnownG Tryz.prog gS lCs51 := .cons kCs50 nCs50
/-- weirgate/lex.Name -/
def aCs51 : List V := [(.str [108, 99])]
def vCs51 : V := (.bool true)
theorem kCs51 : PureOk Tryz.prog gS 69 aCs51 vCs51 := known_fastG tab_ok mix mode gS_ok nCs51 1000 (by decide +kernel) (by kernel_rfl)
def lCs52 : List (FuncId × List V × V) := (69, aCs51, vCs51) :: lCs51
theorem nCs52 : KnownG Tryz.prog gS lCs52 := .cons kCs51 nCs51
/-- weirgate/weirgateref01.Digits -/
def aCs52 : List V := [(.int .i64 2)]
def vCs52 : V := (.str [50])
theorem kCs52 : PureOk Tryz.prog gS 10 aCs52 vCs52 := known_fastG tab_ok mix mode gS_ok nCs52 1000 (by decide +kernel) (by kernel_rfl)
def lCs53 : List (FuncId × List V × V) := (10, aCs52, vCs52) :: lCs52
theorem nCs53 : KnownG Tryz.prog gS lCs53 := .cons kCs52 nCs52
/-- weirgate/weirgatelaw12.num -/
def aCs53 : List V := [(.int .i64 2)]
def vCs53 : V := (.str [50])
theorem kCs53 : PureOk Tryz.prog gS 6 aCs53 vCs53 := known_fastG tab_ok mix mode gS_ok nCs53 1000 (by decide +kernel) (by kernel_rfl)
def lCs54 : List (FuncId × List V × V) := (6, aCs53, vCs53) :: lCs53
theorem nCs54 : KnownG Tryz.prog gS lCs54 := .cons kCs53 nCs53
/-- weirgate/weirgateref01.Digits -/
def aCs54 : List V := [(.int .i64 3)]
def vCs54 : V := (.str [51])
theorem kCs54 : PureOk Tryz.prog gS 10 aCs54 vCs54 := known_fastG tab_ok mix mode gS_ok nCs54 1000 (by decide +kernel) (by kernel_rfl)
def lCs55 : List (FuncId × List V × V) := (10, aCs54, vCs54) :: lCs54
theorem nCs55 : KnownG Tryz.prog gS lCs55 := .cons kCs54 nCs54
/-- weirgate/weirgatelaw12.num -/
def aCs55 : List V := [(.int .i64 3)]
def vCs55 : V := (.str [51])
theorem kCs55 : PureOk Tryz.prog gS 6 aCs55 vCs55 := known_fastG tab_ok mix mode gS_ok nCs55 1000 (by decide +kernel) (by kernel_rfl)
def lCs56 : List (FuncId × List V × V) := (6, aCs55, vCs55) :: lCs55
theorem nCs56 : KnownG Tryz.prog gS lCs56 := .cons kCs55 nCs55
/-- weirgate/weirgateref01.Digits -/
def aCs56 : List V := [(.int .i64 4)]
def vCs56 : V := (.str [52])
theorem kCs56 : PureOk Tryz.prog gS 10 aCs56 vCs56 := known_fastG tab_ok mix mode gS_ok nCs56 1000 (by decide +kernel) (by kernel_rfl)
def lCs57 : List (FuncId × List V × V) := (10, aCs56, vCs56) :: lCs56
theorem nCs57 : KnownG Tryz.prog gS lCs57 := .cons kCs56 nCs56
/-- weirgate/weirgatelaw12.num -/
def aCs57 : List V := [(.int .i64 4)]
def vCs57 : V := (.str [52])
theorem kCs57 : PureOk Tryz.prog gS 6 aCs57 vCs57 := known_fastG tab_ok mix mode gS_ok nCs57 1000 (by decide +kernel) (by kernel_rfl)
def lCs58 : List (FuncId × List V × V) := (6, aCs57, vCs57) :: lCs57
theorem nCs58 : KnownG Tryz.prog gS lCs58 := .cons kCs57 nCs57
/-- weirgate/weirgateref01.Digits -/
def aCs58 : List V := [(.int .i64 5)]
def vCs58 : V := (.str [53])
theorem kCs58 : PureOk Tryz.prog gS 10 aCs58 vCs58 := known_fastG tab_ok mix mode gS_ok nCs58 1000 (by decide +kernel) (by kernel_rfl)
def lCs59 : List (FuncId × List V × V) := (10, aCs58, vCs58) :: lCs58
theorem nCs59 : KnownG Tryz.prog gS lCs59 := .cons kCs58 nCs58
/-- weirgate/weirgatelaw12.num -/
def aCs59 : List V := [(.int .i64 5)]
def vCs59 : V := (.str [53])
theorem kCs59 : PureOk Tryz.prog gS 6 aCs59 vCs59 := known_fastG tab_ok mix mode gS_ok nCs59 1000 (by decide +kernel) (by kernel_rfl)
def lCs60 : List (FuncId × List V × V) := (6, aCs59, vCs59) :: lCs59
theorem nCs60 : KnownG Tryz.prog gS lCs60 := .cons kCs59 nCs59
def KNC (l : List (FuncId × List V × V)) : Prop := KnownG Tryz.prog gS l
theorem stC {l : List (FuncId × List V × V)} (n : KNC l) {f : FuncId} {a : List V} {v : V} (ha : a.all (low 100) = true) (hx : pureBodyF (envG tab mode gS l) (callF (envG tab mode gS l) 1000) 1000 f a = some v) : KNC ((f, a, v) :: l) := .cons (known_fastG tab_ok mix mode gS_ok n 1000 ha hx) n
def CsC (i0 i1 i2 : Nat) : Prop := ∀ (y0 : Nat) (b0 : y0 < 256) (e0 : y0 % 5 = i0) (y1 : Nat) (b1 : y1 < 256) (e1 : y1 % 4 = i1) (y2 : Nat) (b2 : y2 < 256) (e2 : y2 % 6 = i2), PureOk Tryz.prog gS 3 [.int .u8 y0, .int .u8 y1, .int .u8 y2] (.bool true)
def DC : List (Nat × Nat) := [(0, 5), (1, 4), (2, 6), (19, 5), (20, 5), (23, 4), (24, 4), (26, 6), (27, 6)]
theorem smC {l : List (FuncId × List V × V)} (n : KNC l) {i0 i1 i2 : Nat} (hc : (codeTn DC m3.body && resTn DC m3.res && (l.all fun e => !(Nat.beq 3 e.1)) && List.all [.int .u8 (Int.ofNat i0), .int .u8 (Int.ofNat i1), .int .u8 (Int.ofNat i2)] (low 100)) = true) (hx : pureBodyF (envG tab mode gS l) (callF (envG tab mode gS l) 1000) 1000 3 [.int .u8 (Int.ofNat i0), .int .u8 (Int.ofNat i1), .int .u8 (Int.ofNat i2)] = some (.bool true)) : CsC i0 i1 i2 := by
  intro y0 b0 e0 y1 b1 e1 y2 b2 e2
  exact sim_fastG tab_ok mix mode gS_ok n 1000 DC (m := m3) (by kernel_rfl) hc (args' := [.int .u8 (Int.ofNat i0), .int .u8 (Int.ofNat i1), .int .u8 (Int.ofNat i2)]) ⟨sim_at (n := y0) (m := i0) (c := 5) (by omega) (by omega) (by omega), ⟨sim_at (n := y1) (m := i1) (c := 4) (by omega) (by omega) (by omega), ⟨sim_at (n := y2) (m := i2) (c := 6) (by omega) (by omega) (by omega), trivial⟩⟩⟩ (by intro x hx; simp only [List.mem_cons, List.not_mem_nil, or_false] at hx; rcases hx with rfl | rfl | rfl <;> constructor) hx
end Go.Proofs.YtgknkkdemjjeoaaGreatDoor.Code
