/- A part of the proof: KnownH. No condition. -/
import Derived.Test.YtmmipfmdkoaekaaCodeH
set_option linter.all false
set_option maxRecDepth 100000
set_option maxRecDepth 1000000
set_option maxHeartbeats 0
namespace Go.Proofs.Ytmmipfmdkoaekaa.Code
open Go.Mini
def mode (f : FuncId) : Go.Mini.Mode := 
 bif Nat.beq f 8 then .pure else bif Nat.beq f 9 then .keep else bif Nat.beq f 10 then .keep else bif Nat.beq f 11 then .keep else bif Nat.beq f 12 then .keep else bif Nat.beq f 13 then .keep else bif Nat.beq f 14 then .keep else bif Nat.beq f 15 then .keep else bif Nat.beq f 16 then .keep else bif Nat.beq f 24 then .keep else bif Nat.beq f 25 then .keep else bif Nat.beq f 26 then .keep else bif Nat.beq f 28 then .keep else bif Nat.beq f 29 then .keep else .frozen
theorem mix : Try.prog.follows .mixedOrders = true := by kernel_rfl
def l0 : List (FuncId × List V × V) := []
theorem n0 : Known Try.prog l0 := .nil
/-- weirgate/weirgatelaw02.awake -/
def a0 : List V := []
def v0 : V := (.bool true)
theorem k0 : PureOk Try.prog (fun _ => none) 8 a0 v0 := known_fast tab_ok mix mode n0 1000 (by decide +kernel) (by kernel_rfl)
def l1 : List (FuncId × List V × V) := (8, a0, v0) :: l0
theorem n1 : Known Try.prog l1 := .cons k0 n0
end Go.Proofs.Ytmmipfmdkoaekaa.Code
