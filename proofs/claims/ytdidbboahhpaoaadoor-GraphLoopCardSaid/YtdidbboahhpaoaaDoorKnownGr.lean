/- A part of the proof: KnownGr. No condition. -/
import Derived.Test.YtdidbboahhpaoaaDoorCodeG
import Derived.Test.YtdidbboahhpaoaaDoorMiniC
set_option linter.all false
set_option maxRecDepth 100000
set_option maxRecDepth 1000000
set_option maxHeartbeats 0
namespace Go.Proofs.YtdidbboahhpaoaaDoor.Code
open Go.Mini
def mode (f : FuncId) : Go.Mini.Mode := bif Nat.beq f 5 then .pure else bif Nat.beq f 9 then .pure else bif Nat.beq f 11 then .pure else bif Nat.beq f 14 then .pure else .keep
def inp : List V := [.int .i64 (-1), .int .i64 (-1)]
def gS : Nat → Option V := tabG 0 inp
theorem gS_ok : GB gS := tabG_gb (by decide +kernel)
theorem mix : Tryd.prog.follows .mixedOrders = true := by kernel_rfl
theorem k0 : PureOk Tryd.prog gS 5 [] (.bool true) := known_fastG tab_ok mix mode gS_ok .nil 1000 (by decide +kernel) (by kernel_rfl)
def lK : List (FuncId × List V × V) := [(5, [], .bool true)]
theorem nK : KnownG Tryd.prog gS lK := .cons k0 .nil
def EG : Env := envG tab mode gS lK
theorem EG_ok : EnvOk Tryd.prog EG := envG_ok tab_ok mode gS_ok nK
end Go.Proofs.YtdidbboahhpaoaaDoor.Code
