/- A part of the proof: CodeZ. No condition. -/
import Derived.Test.YtgknkkdemjjeoaaGreatDoorProg
import Derived.Test.YtgknkkdemjjeoaaGreatDoorMiniC
import Derived.KernelRfl
set_option linter.all false
set_option maxRecDepth 100000
set_option maxRecDepth 100000
set_option maxHeartbeats 0
namespace Go.Proofs.YtgknkkdemjjeoaaGreatDoor.Code
open Go.Mini

/-- weirgate/weirgatelaw12.TypingCopies -/
def m3 : MFunc := ⟨99, (.seq (.reg [⟨(some 6), .mv (.c (.bool false)), none⟩])
 (.seq (.seq (.reg [⟨(some 17), .call (.c (.fn 5 [])) [], none⟩, ⟨(some 18), .un .not (.t 17), none⟩])
 (.cond (.t 18)
   (.seq (.reg [⟨(some 6), .mv (.c (.bool false)), none⟩])
   .ret)
   .skip))
 (.seq (.reg [⟨(some 19), .mv (.t 0), none⟩, ⟨(some 20), .convI .i64 (.t 19), none⟩, ⟨(some 21), .bin .rem .no (.t 20) (.c (.int .i64 5)), none⟩, ⟨(some 22), .bin .add .no (.c (.int .i64 1)) (.t 21), none⟩, ⟨(some 23), .mv (.t 1), none⟩, ⟨(some 24), .convI .i64 (.t 23), none⟩, ⟨(some 25), .bin .rem .no (.t 24) (.c (.int .i64 4)), none⟩, ⟨(some 26), .mv (.t 2), none⟩, ⟨(some 27), .convI .i64 (.t 26), none⟩, ⟨(some 28), .bin .rem .no (.t 27) (.c (.int .i64 6)), none⟩, ⟨(some 7), .mv (.t 22), none⟩, ⟨(some 8), .mv (.t 25), none⟩, ⟨(some 9), .mv (.t 28), none⟩])
 (.seq (.reg [⟨(some 10), .mv (.c (.str [])), none⟩])
 (.seq (.seq (.reg [⟨(some 11), .mv (.c (.int .i64 0)), none⟩])
 (.block 0 (.loop (.seq (.seq (.reg [⟨(some 29), .mv (.t 11), none⟩, ⟨(some 30), .mv (.t 9), none⟩, ⟨(some 31), .bin .lss .no (.t 29) (.t 30), none⟩])
   (.cond (.t 31)
     .skip
     (.exit 0)))
   (.seq (.block 1 (.reg [⟨(some 34), .mv (.t 10), none⟩, ⟨(some 35), .bin .add .no (.t 34) (.c (.str [118, 97, 114, 32, 103])), none⟩, ⟨(some 36), .mv (.t 11), none⟩, ⟨(some 37), .bin .add .no (.c (.int .i64 97)) (.t 36), none⟩, ⟨(some 38), .convI .u8 (.t 37), none⟩, ⟨(some 39), .bslice 1 1 [(.int .u8 0)] [(0, 1, (.t 38))], none⟩, ⟨(some 40), .b2s (.t 39), none⟩, ⟨(some 41), .bin .add .no (.t 35) (.t 40), none⟩, ⟨(some 42), .bin .add .no (.t 41) (.c (.str [32, 111, 102, 32, 49, 59, 32])), none⟩, ⟨(some 10), .mv (.t 42), none⟩]))
   (.reg [⟨(some 32), .mv (.t 11), none⟩, ⟨(some 33), .bin .add .no (.t 32) (.c (.int .i64 1)), none⟩, ⟨(some 11), .mv (.t 33), none⟩]))))))
 (.seq (.reg [⟨(some 43), .mv (.t 10), none⟩, ⟨(some 44), .bin .add .no (.t 43) (.c (.str [112, 114, 111, 99, 32, 112, 32, 42, 32])), none⟩, ⟨(some 45), .mv (.t 7), none⟩, ⟨(some 46), .call (.c (.fn 6 [])) [(.t 45)], none⟩, ⟨(some 47), .bin .add .no (.t 44) (.t 46), none⟩, ⟨(some 48), .bin .add .no (.t 47) (.c (.str [32, 123, 32])), none⟩, ⟨(some 10), .mv (.t 48), none⟩])
 (.seq (.seq (.reg [⟨(some 12), .mv (.c (.int .i64 0)), none⟩])
 (.block 2 (.loop (.seq (.seq (.reg [⟨(some 49), .mv (.t 12), none⟩, ⟨(some 50), .mv (.t 8), none⟩, ⟨(some 51), .bin .lss .no (.t 49) (.t 50), none⟩])
   (.cond (.t 51)
     .skip
     (.exit 2)))
   (.seq (.block 3 (.reg [⟨(some 54), .mv (.t 10), none⟩, ⟨(some 55), .bin .add .no (.t 54) (.c (.str [118, 97, 114, 32, 108])), none⟩, ⟨(some 56), .mv (.t 12), none⟩, ⟨(some 57), .bin .add .no (.c (.int .i64 97)) (.t 56), none⟩, ⟨(some 58), .convI .u8 (.t 57), none⟩, ⟨(some 59), .bslice 1 1 [(.int .u8 0)] [(0, 1, (.t 58))], none⟩, ⟨(some 60), .b2s (.t 59), none⟩, ⟨(some 61), .bin .add .no (.t 55) (.t 60), none⟩, ⟨(some 62), .bin .add .no (.t 61) (.c (.str [32, 111, 102, 32, 49, 59, 32])), none⟩, ⟨(some 10), .mv (.t 62), none⟩]))
   (.reg [⟨(some 52), .mv (.t 12), none⟩, ⟨(some 53), .bin .add .no (.t 52) (.c (.int .i64 1)), none⟩, ⟨(some 12), .mv (.t 53), none⟩]))))))
 (.seq (.reg [⟨(some 64), .mv (.t 10), none⟩, ⟨(some 65), .bin .add .no (.t 64) (.c (.str [125])), none⟩, ⟨(some 66), .call (.c (.fn 7 [])) [(.t 65)], none⟩, ⟨(some 63), .mv (.t 66), none⟩, ⟨(some 67), .extract (.t 63) 0, none⟩, ⟨(some 68), .extract (.t 63) 1, none⟩, ⟨(some 14), .alloc [(.int .i64 0), (.int .i64 0)], none⟩, ⟨(some 13), .mv (.t 67), none⟩, ⟨none, .store 2 (.t 14) (.t 68), none⟩])
 (.seq (.reg [⟨(some 69), .mv (.t 13), none⟩, ⟨(some 70), .call (.c (.fn 8 [])) [(.t 69)], none⟩, ⟨(some 15), .alloc [(.int .i64 0), (.int .i64 0)], none⟩, ⟨none, .store 2 (.t 15) (.t 70), none⟩])
 (.seq (.reg [⟨(some 71), .mv (.t 7), none⟩, ⟨(some 72), .bin .leq .no (.t 71) (.c (.int .i64 4)), none⟩, ⟨(some 73), .mv (.t 72), none⟩, ⟨(some 74), .mv (.t 9), (some (73, true))⟩, ⟨(some 75), .mv (.t 7), (some (73, true))⟩, ⟨(some 76), .mv (.t 8), (some (73, true))⟩, ⟨(some 77), .bin .mul .no (.t 75) (.t 76), (some (73, true))⟩, ⟨(some 78), .bin .add .no (.t 74) (.t 77), (some (73, true))⟩, ⟨(some 79), .bin .leq .no (.t 78) (.c (.int .i64 8)), (some (73, true))⟩, ⟨(some 80), .pick (.t 73) (.t 79) (.c (.bool false)), none⟩, ⟨(some 16), .mv (.t 80), none⟩])
 (.seq (.reg [⟨(some 81), .faddr 0 (.t 14), none⟩, ⟨(some 82), .load none (.t 81), none⟩, ⟨(some 83), .bin .eql .no (.t 82) (.c (.int .i64 0)), none⟩, ⟨(some 84), .mv (.t 83), none⟩, ⟨(some 85), .faddr 0 (.t 15), (some (84, true))⟩, ⟨(some 86), .load none (.t 85), (some (84, true))⟩, ⟨(some 87), .bin .eql .no (.t 86) (.c (.int .i64 0)), (some (84, true))⟩, ⟨(some 88), .mv (.t 16), (some (84, true))⟩, ⟨(some 89), .bin .eql .bool (.t 87) (.t 88), (some (84, true))⟩, ⟨(some 90), .pick (.t 84) (.t 89) (.c (.bool false)), none⟩, ⟨(some 91), .mv (.t 90), none⟩, ⟨(some 92), .mv (.t 16), (some (91, true))⟩, ⟨(some 93), .mv (.t 92), (some (91, true))⟩, ⟨(some 94), .faddr 0 (.t 15), (some (93, false))⟩, ⟨(some 95), .load none (.t 94), (some (93, false))⟩, ⟨(some 96), .bin .eql .no (.t 95) (.c (.int .i64 22)), (some (93, false))⟩, ⟨(some 97), .pick (.t 93) (.c (.bool true)) (.t 96), (some (91, true))⟩, ⟨(some 98), .pick (.t 91) (.t 97) (.c (.bool false)), none⟩, ⟨(some 6), .mv (.t 98), none⟩])
 .ret))))))))))), [.tmp 6]⟩
theorem c3 : compF Tryz.prog Tryz.f3 = some m3 := by kernel_rfl
/-- weirgate/weirgatelaw12.TypingAtomics -/
def m4 : MFunc := ⟨65, (.seq (.reg [⟨(some 4), .mv (.c (.bool false)), none⟩])
 (.seq (.seq (.reg [⟨(some 13), .call (.c (.fn 5 [])) [], none⟩, ⟨(some 14), .un .not (.t 13), none⟩])
 (.cond (.t 14)
   (.seq (.reg [⟨(some 4), .mv (.c (.bool false)), none⟩])
   .ret)
   .skip))
 (.seq (.reg [⟨(some 15), .mv (.t 0), none⟩, ⟨(some 16), .convI .i64 (.t 15), none⟩, ⟨(some 17), .bin .rem .no (.t 16) (.c (.int .i64 5)), none⟩, ⟨(some 5), .mv (.t 17), none⟩])
 (.seq (.reg [⟨(some 6), .mv (.c (.str [])), none⟩, ⟨(some 7), .mv (.c (.str [])), none⟩])
 (.seq (.seq (.reg [⟨(some 8), .mv (.c (.int .i64 0)), none⟩])
 (.block 0 (.loop (.seq (.seq (.reg [⟨(some 18), .mv (.t 8), none⟩, ⟨(some 19), .mv (.t 5), none⟩, ⟨(some 20), .bin .lss .no (.t 18) (.t 19), none⟩])
   (.cond (.t 20)
     .skip
     (.exit 0)))
   (.seq (.block 1 (.seq (.reg [⟨(some 23), .mv (.t 6), none⟩, ⟨(some 24), .bin .add .no (.t 23) (.c (.str [105, 102, 32, 49, 32, 123, 32])), none⟩, ⟨(some 6), .mv (.t 24), none⟩])
    (.reg [⟨(some 25), .mv (.t 7), none⟩, ⟨(some 26), .bin .add .no (.t 25) (.c (.str [125, 32])), none⟩, ⟨(some 7), .mv (.t 26), none⟩])))
   (.reg [⟨(some 21), .mv (.t 8), none⟩, ⟨(some 22), .bin .add .no (.t 21) (.c (.int .i64 1)), none⟩, ⟨(some 8), .mv (.t 22), none⟩]))))))
 (.seq (.reg [⟨(some 27), .mv (.t 6), none⟩, ⟨(some 28), .bin .add .no (.c (.str [112, 114, 111, 99, 32, 112, 32, 123, 32, 97, 116, 111, 109, 105, 99, 32, 123, 32, 115, 107, 105, 112, 59, 32, 125, 32])) (.t 27), none⟩, ⟨(some 29), .bin .add .no (.t 28) (.c (.str [97, 116, 111, 109, 105, 99, 32, 123, 32, 115, 107, 105, 112, 59, 32, 125, 32])), none⟩, ⟨(some 30), .mv (.t 7), none⟩, ⟨(some 31), .bin .add .no (.t 29) (.t 30), none⟩, ⟨(some 32), .bin .add .no (.t 31) (.c (.str [125])), none⟩, ⟨(some 9), .mv (.t 32), none⟩])
 (.seq (.seq (.reg [⟨(some 33), .mv (.t 1), none⟩])
 (.cond (.t 33)
   (.reg [⟨(some 34), .mv (.t 6), none⟩, ⟨(some 35), .bin .add .no (.c (.str [112, 114, 111, 99, 32, 112, 32, 123, 32, 97, 116, 111, 109, 105, 99, 32, 123, 32])) (.t 34), none⟩, ⟨(some 36), .bin .add .no (.t 35) (.c (.str [97, 116, 111, 109, 105, 99, 32, 123, 32, 115, 107, 105, 112, 59, 32, 125, 32])), none⟩, ⟨(some 37), .mv (.t 7), none⟩, ⟨(some 38), .bin .add .no (.t 36) (.t 37), none⟩, ⟨(some 39), .bin .add .no (.t 38) (.c (.str [125, 32, 125])), none⟩, ⟨(some 9), .mv (.t 39), none⟩])
   .skip))
 (.seq (.reg [⟨(some 41), .mv (.t 9), none⟩, ⟨(some 42), .call (.c (.fn 7 [])) [(.t 41)], none⟩, ⟨(some 40), .mv (.t 42), none⟩, ⟨(some 43), .extract (.t 40) 0, none⟩, ⟨(some 44), .extract (.t 40) 1, none⟩, ⟨(some 11), .alloc [(.int .i64 0), (.int .i64 0)], none⟩, ⟨(some 10), .mv (.t 43), none⟩, ⟨none, .store 2 (.t 11) (.t 44), none⟩])
 (.seq (.reg [⟨(some 45), .mv (.t 10), none⟩, ⟨(some 46), .call (.c (.fn 8 [])) [(.t 45)], none⟩, ⟨(some 12), .alloc [(.int .i64 0), (.int .i64 0)], none⟩, ⟨none, .store 2 (.t 12) (.t 46), none⟩])
 (.seq (.reg [⟨(some 47), .faddr 0 (.t 11), none⟩, ⟨(some 48), .load none (.t 47), none⟩, ⟨(some 49), .bin .eql .no (.t 48) (.c (.int .i64 0)), none⟩, ⟨(some 50), .mv (.t 49), none⟩, ⟨(some 51), .faddr 0 (.t 12), (some (50, true))⟩, ⟨(some 52), .load none (.t 51), (some (50, true))⟩, ⟨(some 53), .bin .eql .no (.t 52) (.c (.int .i64 21)), (some (50, true))⟩, ⟨(some 54), .mv (.t 1), (some (50, true))⟩, ⟨(some 55), .bin .eql .bool (.t 53) (.t 54), (some (50, true))⟩, ⟨(some 56), .pick (.t 50) (.t 55) (.c (.bool false)), none⟩, ⟨(some 57), .mv (.t 56), none⟩, ⟨(some 58), .mv (.t 1), (some (57, true))⟩, ⟨(some 59), .mv (.t 58), (some (57, true))⟩, ⟨(some 60), .faddr 0 (.t 12), (some (59, false))⟩, ⟨(some 61), .load none (.t 60), (some (59, false))⟩, ⟨(some 62), .bin .eql .no (.t 61) (.c (.int .i64 0)), (some (59, false))⟩, ⟨(some 63), .pick (.t 59) (.c (.bool true)) (.t 62), (some (57, true))⟩, ⟨(some 64), .pick (.t 57) (.t 63) (.c (.bool false)), none⟩, ⟨(some 4), .mv (.t 64), none⟩])
 .ret)))))))))), [.tmp 4]⟩
theorem c4 : compF Tryz.prog Tryz.f4 = some m4 := by kernel_rfl
/-- weirgate/weirgatelaw12.awake -/
def m5 : MFunc := ⟨18, (.seq (.reg [⟨(some 0), .mv (.c (.bool false)), none⟩])
 (.seq (.reg [⟨(some 5), .call (.c (.fn 7 [])) [(.c (.str [118, 97, 114, 32, 120, 32, 111, 102, 32, 57, 59]))], none⟩, ⟨(some 4), .mv (.t 5), none⟩, ⟨(some 6), .extract (.t 4) 0, none⟩, ⟨(some 7), .extract (.t 4) 1, none⟩, ⟨(some 2), .alloc [(.int .i64 0), (.int .i64 0)], none⟩, ⟨(some 1), .mv (.t 6), none⟩, ⟨none, .store 2 (.t 2) (.t 7), none⟩])
 (.seq (.reg [⟨(some 8), .mv (.t 1), none⟩, ⟨(some 9), .call (.c (.fn 8 [])) [(.t 8)], none⟩, ⟨(some 3), .alloc [(.int .i64 0), (.int .i64 0)], none⟩, ⟨none, .store 2 (.t 3) (.t 9), none⟩])
 (.seq (.reg [⟨(some 10), .load (some 2) (.t 3), none⟩, ⟨(some 11), .build [(.int .i64 0), (.int .i64 0)] [(0, 1, (.c (.int .i64 22)))], none⟩, ⟨(some 12), .bin .eql (.flat [.i, .i]) (.t 10) (.t 11), none⟩, ⟨(some 13), .mv (.t 12), none⟩, ⟨(some 14), .build [(.int .i64 0), (.int .i64 0)] [], (some (13, true))⟩, ⟨(some 15), .call (.c (.fn 9 [])) [(.c (.str [])), (.t 14)], (some (13, true))⟩, ⟨(some 16), .bin .eql .iface (.t 15) (.c .nilm), (some (13, true))⟩, ⟨(some 17), .pick (.t 13) (.t 16) (.c (.bool false)), none⟩, ⟨(some 0), .mv (.t 17), none⟩])
 .ret)))), [.tmp 0]⟩
theorem c5 : compF Tryz.prog Tryz.f5 = some m5 := by kernel_rfl
/-- weirgate/weirgatelaw12.num -/
def m6 : MFunc := ⟨5, (.seq (.reg [⟨(some 2), .mv (.c (.str [])), none⟩])
 (.seq (.reg [⟨(some 3), .mv (.t 0), none⟩, ⟨(some 4), .call (.c (.fn 10 [])) [(.t 3)], none⟩, ⟨(some 2), .mv (.t 4), none⟩])
 .ret)), [.tmp 2]⟩
theorem c6 : compF Tryz.prog Tryz.f6 = some m6 := by kernel_rfl
/-- weirgate/weirgateref09.Parse -/
def m7 : MFunc := ⟨48, (.seq (.reg [⟨(some 2), .mv (.c .nils), none⟩, ⟨(some 3), .alloc [(.int .i64 0), (.int .i64 0)], none⟩])
 (.seq (.reg [⟨(some 11), .mv (.t 0), none⟩, ⟨(some 12), .call (.c (.fn 11 [])) [(.t 11)], none⟩, ⟨(some 10), .mv (.t 12), none⟩, ⟨(some 13), .extract (.t 10) 0, none⟩, ⟨(some 14), .extract (.t 10) 1, none⟩, ⟨(some 5), .alloc [(.int .i64 0), (.int .i64 0)], none⟩, ⟨(some 4), .mv (.t 13), none⟩, ⟨none, .store 2 (.t 5) (.t 14), none⟩])
 (.seq (.seq (.reg [⟨(some 15), .faddr 0 (.t 5), none⟩, ⟨(some 16), .load none (.t 15), none⟩, ⟨(some 17), .bin .neq .no (.t 16) (.c (.int .i64 0)), none⟩])
 (.cond (.t 17)
   (.seq (.draw [⟨(some 18), .load (some 2) (.t 5), none⟩, ⟨(some 2), .mv (.c .nils), none⟩, ⟨none, .store 2 (.t 3) (.t 18), none⟩] [0, 0, 3])
   .ret)
   .skip))
 (.seq (.reg [⟨(some 19), .mv (.t 4), none⟩, ⟨(some 20), .build [.nils, (.int .i64 0), (.int .i64 0), (.int .i64 0), (.int .i64 0)] [(0, 1, (.t 19))], none⟩, ⟨(some 21), .box 5 (.t 20), none⟩, ⟨(some 6), .mv (.t 21), none⟩])
 (.seq (.reg [⟨(some 22), .mv (.t 6), none⟩, ⟨(some 23), .call (.c (.fn 12 [])) [(.t 22)], none⟩, ⟨(some 7), .alloc [(.int .i64 0), .nils, .nils, .nils, (.int .i64 0), .nils], none⟩, ⟨none, .store 6 (.t 7) (.t 23), none⟩])
 (.seq (.seq (.reg [⟨(some 24), .mv (.t 6), none⟩, ⟨(some 25), .nilc (.t 24), none⟩, ⟨(some 26), .faddr 3 (.t 25), none⟩, ⟨(some 27), .faddr 0 (.t 26), none⟩, ⟨(some 28), .load none (.t 27), none⟩, ⟨(some 29), .bin .neq .no (.t 28) (.c (.int .i64 0)), none⟩])
 (.cond (.t 29)
   (.seq (.draw [⟨(some 30), .mv (.t 6), none⟩, ⟨(some 31), .nilc (.t 30), none⟩, ⟨(some 32), .faddr 3 (.t 31), none⟩, ⟨(some 33), .load (some 2) (.t 32), none⟩, ⟨(some 2), .mv (.c .nils), none⟩, ⟨none, .store 2 (.t 3) (.t 33), none⟩] [0, 1, 3, 7, 0, 31])
   .ret)
   .skip))
 (.seq (.reg [⟨(some 34), .load (some 6) (.t 7), none⟩, ⟨(some 35), .call (.c (.fn 13 [])) [(.t 34), (.c .nils)], none⟩, ⟨(some 8), .mv (.t 35), none⟩])
 (.seq (.seq (.reg [⟨(some 36), .mv (.t 8), none⟩, ⟨(some 37), .len (.t 36), none⟩, ⟨(some 38), .bin .gtr .no (.t 37) (.c (.int .i64 800)), none⟩])
 (.cond (.t 38)
   (.seq (.reg [⟨(some 39), .build [(.int .i64 0), (.int .i64 0)] [(0, 1, (.c (.int .i64 12)))], none⟩, ⟨(some 2), .mv (.c .nils), none⟩, ⟨none, .store 2 (.t 3) (.t 39), none⟩])
   .ret)
   .skip))
 (.seq (.reg [⟨(some 40), .load (some 6) (.t 7), none⟩, ⟨(some 41), .call (.c (.fn 14 [])) [(.t 40), (.c (.int .i64 1))], none⟩, ⟨(some 9), .mv (.t 41), none⟩])
 (.seq (.seq (.reg [⟨(some 42), .mv (.t 9), none⟩, ⟨(some 43), .bin .geq .no (.t 42) (.c (.int .i64 0)), none⟩])
 (.cond (.t 43)
   (.seq (.reg [⟨(some 44), .mv (.t 9), none⟩, ⟨(some 45), .build [(.int .i64 0), (.int .i64 0)] [(0, 1, (.c (.int .i64 12))), (1, 1, (.t 44))], none⟩, ⟨(some 2), .mv (.c .nils), none⟩, ⟨none, .store 2 (.t 3) (.t 45), none⟩])
   .ret)
   .skip))
 (.seq (.reg [⟨(some 46), .mv (.t 8), none⟩, ⟨(some 47), .build [(.int .i64 0), (.int .i64 0)] [], none⟩, ⟨(some 2), .mv (.t 46), none⟩, ⟨none, .store 2 (.t 3) (.t 47), none⟩])
 .ret))))))))))), [.tmp 2, .cell 3 (some 2)]⟩
theorem c7 : compF Tryz.prog Tryz.f7 = some m7 := by kernel_rfl
/-- weirgate/typing.Check -/
def m8 : MFunc := ⟨20, (.seq (.reg [⟨(some 2), .alloc [(.int .i64 0), (.int .i64 0)], none⟩])
 (.seq (.seq (.reg [⟨(some 5), .mv (.t 0), none⟩, ⟨(some 6), .call (.c (.fn 15 [])) [(.t 5)], none⟩, ⟨(some 3), .alloc [(.int .i64 0), (.int .i64 0)], none⟩, ⟨none, .store 2 (.t 3) (.t 6), none⟩])
 (.seq (.reg [⟨(some 7), .faddr 0 (.t 3), none⟩, ⟨(some 8), .load none (.t 7), none⟩, ⟨(some 9), .bin .neq .no (.t 8) (.c (.int .i64 0)), none⟩])
 (.cond (.t 9)
   (.seq (.reg [⟨(some 10), .load (some 2) (.t 3), none⟩, ⟨none, .store 2 (.t 2) (.t 10), none⟩])
   .ret)
   .skip)))
 (.seq (.reg [⟨(some 11), .mv (.t 0), none⟩, ⟨(some 12), .build [.nils, (.int .i64 0), (.int .i64 0), (.int .i64 0), (.int .i64 0), (.bool false), (.int .i64 0), (.int .i64 0)] [(0, 1, (.t 11)), (4, 1, (.c (.int .i64 1)))], none⟩, ⟨(some 13), .box 8 (.t 12), none⟩, ⟨(some 4), .mv (.t 13), none⟩])
 (.seq (.reg [⟨(some 14), .mv (.t 4), none⟩, ⟨(some 15), .call (.c (.fn 16 [])) [(.t 14), (.c (.int .i64 0))], none⟩])
 (.seq (.reg [⟨(some 16), .mv (.t 4), none⟩, ⟨(some 17), .nilc (.t 16), none⟩, ⟨(some 18), .faddr 6 (.t 17), none⟩, ⟨(some 19), .load (some 2) (.t 18), none⟩, ⟨none, .store 2 (.t 2) (.t 19), none⟩])
 .ret))))), [.cell 2 (some 2)]⟩
theorem c8 : compF Tryz.prog Tryz.f8 = some m8 := by kernel_rfl
/-- weirgate/typing.Locate -/
def m9 : MFunc := ⟨25, (.seq (.reg [⟨(some 3), .box 2 (.t 1), none⟩, ⟨(some 4), .mv (.c .nilm), none⟩])
 (.seq (.seq (.reg [⟨(some 7), .faddr 0 (.t 3), none⟩, ⟨(some 8), .load none (.t 7), none⟩, ⟨(some 9), .bin .eql .no (.t 8) (.c (.int .i64 0)), none⟩])
 (.cond (.t 9)
   (.seq (.reg [⟨(some 4), .mv (.c .nilm), none⟩])
   .ret)
   .skip))
 (.seq (.reg [⟨(some 11), .mv (.t 0), none⟩, ⟨(some 12), .faddr 1 (.t 3), none⟩, ⟨(some 13), .load none (.t 12), none⟩, ⟨(some 14), .call (.c (.fn 17 [])) [(.t 11), (.t 13)], none⟩, ⟨(some 10), .mv (.t 14), none⟩, ⟨(some 15), .extract (.t 10) 0, none⟩, ⟨(some 16), .extract (.t 10) 1, none⟩, ⟨(some 5), .mv (.t 15), none⟩, ⟨(some 6), .mv (.t 16), none⟩])
 (.seq (.reg [⟨(some 17), .mv (.t 5), none⟩, ⟨(some 18), .mv (.t 6), none⟩, ⟨(some 19), .faddr 0 (.t 3), none⟩, ⟨(some 20), .load none (.t 19), none⟩, ⟨(some 21), .call (.c .undef) [], none⟩, ⟨(some 22), .build [(.int .i64 0), (.int .i64 0), .nilm] [(0, 1, (.t 17)), (1, 1, (.t 18)), (2, 1, (.t 21))], none⟩, ⟨(some 23), .box 3 (.t 22), none⟩, ⟨(some 24), .call (.c .undef) [], none⟩, ⟨(some 4), .mv (.t 24), none⟩])
 .ret)))), [.tmp 4]⟩
theorem c9 : compF Tryz.prog Tryz.f9 = some m9 := by kernel_rfl
/-- weirgate/weirgateref01.Digits -/
def m10 : MFunc := ⟨23, (.seq (.reg [⟨(some 2), .mv (.c (.str [])), none⟩])
 (.seq (.seq (.reg [⟨(some 3), .mv (.t 0), none⟩, ⟨(some 4), .bin .lss .no (.t 3) (.c (.int .i64 0)), none⟩])
 (.cond (.t 4)
   (.seq (.reg [⟨(some 5), .mv (.t 0), none⟩, ⟨(some 6), .un .neg (.t 5), none⟩, ⟨(some 7), .call (.c (.fn 10 [])) [(.t 6)], none⟩, ⟨(some 8), .bin .add .no (.c (.str [45])) (.t 7), none⟩, ⟨(some 2), .mv (.t 8), none⟩])
   .ret)
   .skip))
 (.seq (.seq (.reg [⟨(some 9), .mv (.t 0), none⟩, ⟨(some 10), .bin .lss .no (.t 9) (.c (.int .i64 10)), none⟩])
 (.cond (.t 10)
   (.seq (.reg [⟨(some 11), .mv (.t 0), none⟩, ⟨(some 12), .bin .add .no (.c (.int .i64 48)) (.t 11), none⟩, ⟨(some 13), .convI .u8 (.t 12), none⟩, ⟨(some 14), .bslice 1 1 [(.int .u8 0)] [(0, 1, (.t 13))], none⟩, ⟨(some 15), .b2s (.t 14), none⟩, ⟨(some 2), .mv (.t 15), none⟩])
   .ret)
   .skip))
 (.seq (.reg [⟨(some 16), .mv (.t 0), none⟩, ⟨(some 17), .bin .quo .no (.t 16) (.c (.int .i64 10)), none⟩, ⟨(some 18), .call (.c (.fn 10 [])) [(.t 17)], none⟩, ⟨(some 19), .mv (.t 0), none⟩, ⟨(some 20), .bin .rem .no (.t 19) (.c (.int .i64 10)), none⟩, ⟨(some 21), .call (.c (.fn 10 [])) [(.t 20)], none⟩, ⟨(some 22), .bin .add .no (.t 18) (.t 21), none⟩, ⟨(some 2), .mv (.t 22), none⟩])
 .ret)))), [.tmp 2]⟩
theorem c10 : compF Tryz.prog Tryz.f10 = some m10 := by kernel_rfl
/-- weirgate/weirgateref08.Tokens -/
def m11 : MFunc := ⟨132, (.seq (.reg [⟨(some 2), .mv (.c .nils), none⟩, ⟨(some 3), .alloc [(.int .i64 0), (.int .i64 0)], none⟩])
 (.seq (.seq (.reg [⟨(some 8), .mv (.t 0), none⟩, ⟨(some 9), .lenS (.t 8), none⟩, ⟨(some 10), .bin .gtr .no (.t 9) (.c (.int .i64 4000)), none⟩])
 (.cond (.t 10)
   (.seq (.reg [⟨(some 11), .build [(.int .i64 0), (.int .i64 0)] [(0, 1, (.c (.int .i64 12)))], none⟩, ⟨(some 2), .mv (.c .nils), none⟩, ⟨none, .store 2 (.t 3) (.t 11), none⟩])
   .ret)
   .skip))
 (.seq (.reg [⟨(some 4), .mv (.c .nils), none⟩])
 (.seq (.reg [⟨(some 5), .mv (.c (.int .i64 0)), none⟩])
 (.seq (.block 0 (.loop (.seq (.seq (.reg [⟨(some 12), .mv (.t 5), none⟩, ⟨(some 13), .mv (.t 0), none⟩, ⟨(some 14), .lenS (.t 13), none⟩, ⟨(some 15), .bin .lss .no (.t 12) (.t 14), none⟩])
   (.cond (.t 15)
     .skip
     (.exit 0)))
   (.block 1 (.seq (.seq (.reg [⟨(some 16), .mv (.t 0), none⟩, ⟨(some 17), .mv (.t 5), none⟩, ⟨(some 18), .index (.t 16) (.t 17), none⟩, ⟨(some 19), .call (.c (.fn 18 [])) [(.c (.str [32, 9, 13, 10])), (.t 18)], none⟩])
    (.cond (.t 19)
      (.seq (.reg [⟨(some 20), .mv (.t 5), none⟩, ⟨(some 21), .bin .add .no (.t 20) (.c (.int .i64 1)), none⟩, ⟨(some 5), .mv (.t 21), none⟩])
      (.exit 1))
      .skip))
    (.seq (.seq (.reg [⟨(some 22), .mv (.t 0), none⟩, ⟨(some 23), .mv (.t 5), none⟩, ⟨(some 24), .call (.c (.fn 19 [])) [(.t 22), (.t 23)], none⟩, ⟨(some 25), .bin .eql .no (.t 24) (.c (.str [47, 47])), none⟩])
    (.cond (.t 25)
      (.seq (.block 2 (.loop (.seq (.seq (.reg [⟨(some 26), .mv (.t 5), none⟩, ⟨(some 27), .mv (.t 0), none⟩, ⟨(some 28), .lenS (.t 27), none⟩, ⟨(some 29), .bin .lss .no (.t 26) (.t 28), none⟩, ⟨(some 30), .mv (.t 29), none⟩, ⟨(some 31), .mv (.t 0), (some (30, true))⟩, ⟨(some 32), .mv (.t 5), (some (30, true))⟩, ⟨(some 33), .index (.t 31) (.t 32), (some (30, true))⟩, ⟨(some 34), .bin .neq .no (.t 33) (.c (.int .u8 10)), (some (30, true))⟩, ⟨(some 35), .pick (.t 30) (.t 34) (.c (.bool false)), none⟩])
        (.cond (.t 35)
          .skip
          (.exit 2)))
        (.block 3 (.reg [⟨(some 36), .mv (.t 5), none⟩, ⟨(some 37), .bin .add .no (.t 36) (.c (.int .i64 1)), none⟩, ⟨(some 5), .mv (.t 37), none⟩])))))
      (.exit 1))
      .skip))
    (.seq (.reg [⟨(some 38), .mv (.t 5), none⟩, ⟨(some 6), .mv (.t 38), none⟩, ⟨(some 7), .mv (.c (.int .i64 2)), none⟩])
    (.seq (.block 4 (.seq (.reg [⟨(some 40), .mv (.t 0), none⟩, ⟨(some 41), .mv (.t 5), none⟩, ⟨(some 42), .call (.c (.fn 19 [])) [(.t 40), (.t 41)], none⟩, ⟨(some 43), .bin .eql .no (.t 42) (.c (.str [61, 61])), none⟩, ⟨(some 44), .mv (.t 43), none⟩, ⟨(some 45), .mv (.t 0), (some (44, false))⟩, ⟨(some 46), .mv (.t 5), (some (44, false))⟩, ⟨(some 47), .call (.c (.fn 19 [])) [(.t 45), (.t 46)], (some (44, false))⟩, ⟨(some 48), .bin .eql .no (.t 47) (.c (.str [38, 38])), (some (44, false))⟩, ⟨(some 49), .pick (.t 44) (.c (.bool true)) (.t 48), none⟩, ⟨(some 50), .mv (.t 49), none⟩, ⟨(some 51), .mv (.t 0), (some (50, false))⟩, ⟨(some 52), .mv (.t 5), (some (50, false))⟩, ⟨(some 53), .call (.c (.fn 19 [])) [(.t 51), (.t 52)], (some (50, false))⟩, ⟨(some 54), .bin .eql .no (.t 53) (.c (.str [124, 124])), (some (50, false))⟩, ⟨(some 55), .pick (.t 50) (.c (.bool true)) (.t 54), none⟩, ⟨(some 39), .mv (.t 55), none⟩])
     (.cond (.t 39)
       (.reg [⟨(some 56), .mv (.t 5), none⟩, ⟨(some 57), .bin .add .no (.t 56) (.c (.int .i64 2)), none⟩, ⟨(some 6), .mv (.t 57), none⟩])
       (.seq (.reg [⟨(some 59), .mv (.t 0), none⟩, ⟨(some 60), .mv (.t 5), none⟩, ⟨(some 61), .index (.t 59) (.t 60), none⟩, ⟨(some 62), .call (.c (.fn 20 [])) [(.t 61)], none⟩, ⟨(some 58), .mv (.t 62), none⟩])
       (.cond (.t 58)
         (.seq (.reg [⟨(some 7), .mv (.c (.int .i64 0)), none⟩])
         (.block 5 (.loop (.seq (.seq (.reg [⟨(some 63), .mv (.t 6), none⟩, ⟨(some 64), .mv (.t 0), none⟩, ⟨(some 65), .lenS (.t 64), none⟩, ⟨(some 66), .bin .lss .no (.t 63) (.t 65), none⟩, ⟨(some 67), .mv (.t 66), none⟩, ⟨(some 68), .mv (.t 0), (some (67, true))⟩, ⟨(some 69), .mv (.t 6), (some (67, true))⟩, ⟨(some 70), .index (.t 68) (.t 69), (some (67, true))⟩, ⟨(some 71), .call (.c (.fn 21 [])) [(.t 70)], (some (67, true))⟩, ⟨(some 72), .pick (.t 67) (.t 71) (.c (.bool false)), none⟩])
           (.cond (.t 72)
             .skip
             (.exit 5)))
           (.block 6 (.reg [⟨(some 73), .mv (.t 6), none⟩, ⟨(some 74), .bin .add .no (.t 73) (.c (.int .i64 1)), none⟩, ⟨(some 6), .mv (.t 74), none⟩]))))))
         (.seq (.reg [⟨(some 76), .mv (.t 0), none⟩, ⟨(some 77), .mv (.t 5), none⟩, ⟨(some 78), .index (.t 76) (.t 77), none⟩, ⟨(some 79), .call (.c (.fn 22 [])) [(.t 78)], none⟩, ⟨(some 75), .mv (.t 79), none⟩])
         (.cond (.t 75)
           (.seq (.reg [⟨(some 7), .mv (.c (.int .i64 1)), none⟩])
           (.block 7 (.loop (.seq (.seq (.reg [⟨(some 80), .mv (.t 6), none⟩, ⟨(some 81), .mv (.t 0), none⟩, ⟨(some 82), .lenS (.t 81), none⟩, ⟨(some 83), .bin .lss .no (.t 80) (.t 82), none⟩, ⟨(some 84), .mv (.t 83), none⟩, ⟨(some 85), .mv (.t 0), (some (84, true))⟩, ⟨(some 86), .mv (.t 6), (some (84, true))⟩, ⟨(some 87), .index (.t 85) (.t 86), (some (84, true))⟩, ⟨(some 88), .call (.c (.fn 22 [])) [(.t 87)], (some (84, true))⟩, ⟨(some 89), .pick (.t 84) (.t 88) (.c (.bool false)), none⟩])
             (.cond (.t 89)
               .skip
               (.exit 7)))
             (.block 8 (.reg [⟨(some 90), .mv (.t 6), none⟩, ⟨(some 91), .bin .add .no (.t 90) (.c (.int .i64 1)), none⟩, ⟨(some 6), .mv (.t 91), none⟩]))))))
           (.seq (.reg [⟨(some 93), .mv (.t 0), none⟩, ⟨(some 94), .mv (.t 5), none⟩, ⟨(some 95), .index (.t 93) (.t 94), none⟩, ⟨(some 96), .call (.c (.fn 18 [])) [(.c (.str [123, 125, 91, 93, 40, 41, 59, 61, 60, 43, 45, 42, 47, 37, 33])), (.t 95)], none⟩, ⟨(some 92), .mv (.t 96), none⟩])
           (.cond (.t 92)
             (.reg [⟨(some 97), .mv (.t 5), none⟩, ⟨(some 98), .bin .add .no (.t 97) (.c (.int .i64 1)), none⟩, ⟨(some 6), .mv (.t 98), none⟩])
             .skip)))))))))
    (.seq (.seq (.reg [⟨(some 99), .mv (.t 6), none⟩, ⟨(some 100), .mv (.t 5), none⟩, ⟨(some 101), .bin .eql .no (.t 99) (.t 100), none⟩, ⟨(some 102), .mv (.t 101), none⟩, ⟨(some 103), .mv (.t 7), (some (102, false))⟩, ⟨(some 104), .bin .eql .no (.t 103) (.c (.int .i64 1)), (some (102, false))⟩, ⟨(some 105), .mv (.t 104), (some (102, false))⟩, ⟨(some 106), .mv (.t 6), (some (105, true))⟩, ⟨(some 107), .mv (.t 5), (some (105, true))⟩, ⟨(some 108), .bin .sub .no (.t 106) (.t 107), (some (105, true))⟩, ⟨(some 109), .bin .gtr .no (.t 108) (.c (.int .i64 6)), (some (105, true))⟩, ⟨(some 110), .pick (.t 105) (.t 109) (.c (.bool false)), (some (102, false))⟩, ⟨(some 111), .pick (.t 102) (.c (.bool true)) (.t 110), none⟩])
    (.cond (.t 111)
      (.seq (.reg [⟨(some 112), .mv (.t 5), none⟩, ⟨(some 113), .build [(.int .i64 0), (.int .i64 0)] [(0, 1, (.c (.int .i64 10))), (1, 1, (.t 112))], none⟩, ⟨(some 2), .mv (.c .nils), none⟩, ⟨none, .store 2 (.t 3) (.t 113), none⟩])
      .ret)
      .skip))
    (.seq (.reg [⟨(some 114), .mv (.t 4), none⟩, ⟨(some 115), .mv (.t 7), none⟩, ⟨(some 116), .mv (.t 0), none⟩, ⟨(some 117), .mv (.t 5), none⟩, ⟨(some 118), .mv (.t 6), none⟩, ⟨(some 119), .cutS (.t 116) (some (.t 117)) (some (.t 118)), none⟩, ⟨(some 120), .mv (.t 5), none⟩, ⟨(some 121), .build [(.int .i64 0), (.str []), (.int .i64 0)] [(0, 1, (.t 115)), (1, 1, (.t 119)), (2, 1, (.t 120))], none⟩, ⟨(some 122), .bslice 3 1 [(.int .i64 0), (.str []), (.int .i64 0)] [(0, 3, (.t 121))], none⟩, ⟨(some 123), .append 3 32 (.t 114) (.t 122), none⟩, ⟨(some 4), .mv (.t 123), none⟩])
    (.reg [⟨(some 124), .mv (.t 6), none⟩, ⟨(some 5), .mv (.t 124), none⟩])))))))))))
 (.seq (.reg [⟨(some 125), .mv (.t 4), none⟩, ⟨(some 126), .mv (.t 0), none⟩, ⟨(some 127), .lenS (.t 126), none⟩, ⟨(some 128), .build [(.int .i64 0), (.str []), (.int .i64 0)] [(0, 1, (.c (.int .i64 3))), (2, 1, (.t 127))], none⟩, ⟨(some 129), .bslice 3 1 [(.int .i64 0), (.str []), (.int .i64 0)] [(0, 3, (.t 128))], none⟩, ⟨(some 130), .append 3 32 (.t 125) (.t 129), none⟩, ⟨(some 131), .build [(.int .i64 0), (.int .i64 0)] [], none⟩, ⟨(some 2), .mv (.t 130), none⟩, ⟨none, .store 2 (.t 3) (.t 131), none⟩])
 .ret)))))), [.tmp 2, .cell 3 (some 2)]⟩
theorem c11 : compF Tryz.prog Tryz.f11 = some m11 := by kernel_rfl
/-- (*weirgate/weirgateref09.P).Program -/
def m12 : MFunc := ⟨22, (.seq (.reg [⟨(some 2), .alloc [(.int .i64 0), .nils, .nils, .nils, (.int .i64 0), .nils], none⟩])
 (.seq (.reg [⟨(some 4), .mv (.t 0), none⟩, ⟨(some 5), .call (.c (.fn 23 [])) [(.t 4), (.c (.int .i64 0))], none⟩, ⟨(some 3), .alloc [(.int .i64 0), .nils, .nils, .nils, (.int .i64 0), .nils], none⟩, ⟨none, .store 6 (.t 3) (.t 5), none⟩])
 (.seq (.block 0 (.loop (.seq (.seq (.reg [⟨(some 6), .mv (.t 0), none⟩, ⟨(some 7), .call (.c (.fn 24 [])) [(.t 6)], none⟩, ⟨(some 8), .mv (.t 7), none⟩, ⟨(some 9), .mv (.t 0), (some (8, true))⟩, ⟨(some 10), .call (.c (.fn 25 [])) [(.t 9)], (some (8, true))⟩, ⟨(some 11), .field none 0 (.t 10), (some (8, true))⟩, ⟨(some 12), .bin .neq .no (.t 11) (.c (.int .i64 3)), (some (8, true))⟩, ⟨(some 13), .pick (.t 8) (.t 12) (.c (.bool false)), none⟩])
   (.cond (.t 13)
     .skip
     (.exit 0)))
   (.block 1 (.draw [⟨(some 14), .faddr 5 (.t 3), none⟩, ⟨(some 15), .load none (.t 14), none⟩, ⟨(some 16), .mv (.t 0), none⟩, ⟨(some 17), .call (.c (.fn 26 [])) [(.t 16)], none⟩, ⟨(some 18), .bslice 6 1 [(.int .i64 0), .nils, .nils, .nils, (.int .i64 0), .nils] [(0, 6, (.t 17))], none⟩, ⟨(some 19), .append 6 112 (.t 15) (.t 18), none⟩, ⟨(some 20), .faddr 5 (.t 3), none⟩, ⟨none, .store 1 (.t 20) (.t 19), none⟩] [0, 1, 0, 4, 12, 31, 63, 127])))))
 (.seq (.reg [⟨(some 21), .load (some 6) (.t 3), none⟩, ⟨none, .store 6 (.t 2) (.t 21), none⟩])
 .ret)))), [.cell 2 (some 6)]⟩
theorem c12 : compF Tryz.prog Tryz.f12 = some m12 := by kernel_rfl
/-- weirgate/weirgateref09.lay -/
def m13 : MFunc := ⟨42, (.seq (.reg [⟨(some 2), .box 6 (.t 0), none⟩, ⟨(some 4), .mv (.c .nils), none⟩])
 (.seq (.reg [⟨(some 7), .mv (.t 1), none⟩, ⟨(some 8), .len (.t 7), none⟩, ⟨(some 5), .mv (.t 8), none⟩])
 (.seq (.reg [⟨(some 9), .mv (.t 1), none⟩, ⟨(some 10), .faddr 0 (.t 2), none⟩, ⟨(some 11), .load (some 5) (.t 10), none⟩, ⟨(some 12), .bslice 5 1 [(.int .i64 0), .nils, .nils, .nils, (.int .i64 0)] [(0, 5, (.t 11))], none⟩, ⟨(some 13), .append 5 88 (.t 9) (.t 12), none⟩, ⟨(some 1), .mv (.t 13), none⟩])
 (.seq (.seq (.reg [⟨(some 6), .mv (.c (.int .i64 0)), none⟩])
 (.block 0 (.loop (.seq (.seq (.reg [⟨(some 14), .mv (.t 6), none⟩, ⟨(some 15), .faddr 5 (.t 2), none⟩, ⟨(some 16), .load none (.t 15), none⟩, ⟨(some 17), .len (.t 16), none⟩, ⟨(some 18), .bin .lss .no (.t 14) (.t 17), none⟩])
   (.cond (.t 18)
     .skip
     (.exit 0)))
   (.seq (.block 1 (.seq (.reg [⟨(some 21), .mv (.t 1), none⟩, ⟨(some 22), .mv (.t 5), none⟩, ⟨(some 23), .mv (.t 1), none⟩, ⟨(some 24), .mv (.t 5), none⟩, ⟨(some 25), .iaddr 5 (.t 23) (.t 24), none⟩, ⟨(some 26), .faddr 3 (.t 25), none⟩, ⟨(some 27), .load none (.t 26), none⟩, ⟨(some 28), .mv (.t 1), none⟩, ⟨(some 29), .len (.t 28), none⟩, ⟨(some 30), .bslice 1 1 [(.int .i64 0)] [(0, 1, (.t 29))], none⟩, ⟨(some 31), .append 1 8 (.t 27) (.t 30), none⟩, ⟨(some 32), .iaddr 5 (.t 21) (.t 22), none⟩, ⟨(some 33), .faddr 3 (.t 32), none⟩, ⟨none, .store 1 (.t 33) (.t 31), none⟩])
    (.reg [⟨(some 34), .faddr 5 (.t 2), none⟩, ⟨(some 35), .load none (.t 34), none⟩, ⟨(some 36), .mv (.t 6), none⟩, ⟨(some 37), .iaddr 6 (.t 35) (.t 36), none⟩, ⟨(some 38), .load (some 6) (.t 37), none⟩, ⟨(some 39), .mv (.t 1), none⟩, ⟨(some 40), .call (.c (.fn 13 [])) [(.t 38), (.t 39)], none⟩, ⟨(some 1), .mv (.t 40), none⟩])))
   (.reg [⟨(some 19), .mv (.t 6), none⟩, ⟨(some 20), .bin .add .no (.t 19) (.c (.int .i64 1)), none⟩, ⟨(some 6), .mv (.t 20), none⟩]))))))
 (.seq (.reg [⟨(some 41), .mv (.t 1), none⟩, ⟨(some 4), .mv (.t 41), none⟩])
 .ret))))), [.tmp 4]⟩
theorem c13 : compF Tryz.prog Tryz.f13 = some m13 := by kernel_rfl
/-- weirgate/weirgateref09.deep -/
def m14 : MFunc := ⟨30, (.seq (.reg [⟨(some 2), .box 6 (.t 0), none⟩, ⟨(some 4), .mv (.c (.int .i64 0)), none⟩])
 (.seq (.seq (.reg [⟨(some 7), .mv (.t 1), none⟩, ⟨(some 8), .bin .gtr .no (.t 7) (.c (.int .i64 20)), none⟩])
 (.cond (.t 8)
   (.seq (.reg [⟨(some 9), .faddr 0 (.t 2), none⟩, ⟨(some 10), .faddr 4 (.t 9), none⟩, ⟨(some 11), .load none (.t 10), none⟩, ⟨(some 4), .mv (.t 11), none⟩])
   .ret)
   .skip))
 (.seq (.seq (.reg [⟨(some 5), .mv (.c (.int .i64 0)), none⟩])
 (.block 0 (.loop (.seq (.seq (.reg [⟨(some 12), .mv (.t 5), none⟩, ⟨(some 13), .faddr 5 (.t 2), none⟩, ⟨(some 14), .load none (.t 13), none⟩, ⟨(some 15), .len (.t 14), none⟩, ⟨(some 16), .bin .lss .no (.t 12) (.t 15), none⟩])
   (.cond (.t 16)
     .skip
     (.exit 0)))
   (.seq (.block 1 (.seq (.reg [⟨(some 19), .faddr 5 (.t 2), none⟩, ⟨(some 20), .load none (.t 19), none⟩, ⟨(some 21), .mv (.t 5), none⟩, ⟨(some 22), .iaddr 6 (.t 20) (.t 21), none⟩, ⟨(some 23), .load (some 6) (.t 22), none⟩, ⟨(some 24), .mv (.t 1), none⟩, ⟨(some 25), .bin .add .no (.t 24) (.c (.int .i64 1)), none⟩, ⟨(some 26), .call (.c (.fn 14 [])) [(.t 23), (.t 25)], none⟩, ⟨(some 6), .mv (.t 26), none⟩])
    (.seq (.reg [⟨(some 27), .mv (.t 6), none⟩, ⟨(some 28), .bin .geq .no (.t 27) (.c (.int .i64 0)), none⟩])
    (.cond (.t 28)
      (.seq (.reg [⟨(some 29), .mv (.t 6), none⟩, ⟨(some 4), .mv (.t 29), none⟩])
      .ret)
      .skip))))
   (.reg [⟨(some 17), .mv (.t 5), none⟩, ⟨(some 18), .bin .add .no (.t 17) (.c (.int .i64 1)), none⟩, ⟨(some 5), .mv (.t 18), none⟩]))))))
 (.seq (.reg [⟨(some 4), .mv (.c (.int .i64 (-1))), none⟩])
 .ret)))), [.tmp 4]⟩
theorem c14 : compF Tryz.prog Tryz.f14 = some m14 := by kernel_rfl
/-- weirgate/scope.Check -/
def m15 : MFunc := ⟨9, (.seq (.reg [⟨(some 2), .alloc [(.int .i64 0), (.int .i64 0)], none⟩])
 (.seq (.seq (.reg [⟨(some 3), .mv (.t 0), none⟩, ⟨(some 4), .call (.c (.fn 27 [])) [(.t 3)], none⟩, ⟨(some 5), .un .not (.t 4), none⟩])
 (.cond (.t 5)
   (.seq (.reg [⟨(some 6), .build [(.int .i64 0), (.int .i64 0)] [(0, 1, (.c (.int .i64 2)))], none⟩, ⟨none, .store 2 (.t 2) (.t 6), none⟩])
   .ret)
   .skip))
 (.seq (.reg [⟨(some 7), .mv (.t 0), none⟩, ⟨(some 8), .call (.c (.fn 28 [])) [(.t 7), (.c (.fn 29 []))], none⟩, ⟨none, .store 2 (.t 2) (.t 8), none⟩])
 .ret))), [.cell 2 (some 2)]⟩
theorem c15 : compF Tryz.prog Tryz.f15 = some m15 := by kernel_rfl
/-- (*weirgate/typing.checker).node -/
def m16 : MFunc := ⟨87, (.seq (.reg [⟨(some 10), .mv (.t 0), none⟩, ⟨(some 11), .nilc (.t 10), none⟩, ⟨(some 12), .faddr 0 (.t 11), none⟩, ⟨(some 13), .load none (.t 12), none⟩, ⟨(some 14), .mv (.t 1), none⟩, ⟨(some 15), .iaddr 5 (.t 13) (.t 14), none⟩, ⟨(some 16), .load (some 5) (.t 15), none⟩, ⟨(some 4), .alloc [(.int .i64 0), .nils, .nils, .nils, (.int .i64 0)], none⟩, ⟨none, .store 5 (.t 4) (.t 16), none⟩])
 (.seq (.seq (.reg [⟨(some 17), .mv (.t 0), none⟩, ⟨(some 18), .load (some 5) (.t 4), none⟩, ⟨(some 19), .call (.c (.fn 30 [])) [(.t 17), (.t 18)], none⟩, ⟨(some 5), .mv (.t 19), none⟩])
 (.seq (.reg [⟨(some 20), .mv (.t 5), none⟩, ⟨(some 21), .bin .neq .no (.t 20) (.c (.int .i64 0)), none⟩, ⟨(some 22), .mv (.t 21), none⟩, ⟨(some 23), .mv (.t 0), (some (22, true))⟩, ⟨(some 24), .nilc (.t 23), (some (22, true))⟩, ⟨(some 25), .faddr 6 (.t 24), (some (22, true))⟩, ⟨(some 26), .faddr 0 (.t 25), (some (22, true))⟩, ⟨(some 27), .load none (.t 26), (some (22, true))⟩, ⟨(some 28), .bin .eql .no (.t 27) (.c (.int .i64 0)), (some (22, true))⟩, ⟨(some 29), .pick (.t 22) (.t 28) (.c (.bool false)), none⟩])
 (.cond (.t 29)
   (.reg [⟨(some 30), .mv (.t 0), none⟩, ⟨(some 31), .mv (.t 5), none⟩, ⟨(some 32), .faddr 4 (.t 4), none⟩, ⟨(some 33), .load none (.t 32), none⟩, ⟨(some 34), .build [(.int .i64 0), (.int .i64 0)] [(0, 1, (.t 31)), (1, 1, (.t 33))], none⟩, ⟨(some 35), .nilc (.t 30), none⟩, ⟨(some 36), .faddr 6 (.t 35), none⟩, ⟨none, .store 2 (.t 36) (.t 34), none⟩])
   .skip)))
 (.seq (.draw [⟨(some 37), .mv (.t 0), none⟩, ⟨(some 38), .nilc (.t 37), none⟩, ⟨(some 39), .faddr 4 (.t 38), none⟩, ⟨(some 40), .load none (.t 39), none⟩, ⟨(some 41), .mv (.t 0), none⟩, ⟨(some 42), .nilc (.t 41), none⟩, ⟨(some 43), .faddr 5 (.t 42), none⟩, ⟨(some 44), .load none (.t 43), none⟩, ⟨(some 6), .mv (.t 40), none⟩, ⟨(some 7), .mv (.t 44), none⟩] [0, 1, 3, 7, 0, 16, 48, 112, 15, 511])
 (.seq (.seq (.reg [⟨(some 45), .faddr 0 (.t 4), none⟩, ⟨(some 46), .load none (.t 45), none⟩, ⟨(some 47), .bin .eql .no (.t 46) (.c (.int .i64 3)), none⟩])
 (.cond (.t 47)
   (.reg [⟨(some 48), .mv (.t 0), none⟩, ⟨(some 49), .faddr 2 (.t 4), none⟩, ⟨(some 50), .load none (.t 49), none⟩, ⟨(some 51), .iaddr 1 (.t 50) (.c (.int .i64 0)), none⟩, ⟨(some 52), .load none (.t 51), none⟩, ⟨(some 53), .minmax false [(.t 52), (.c (.int .i64 5))], none⟩, ⟨(some 54), .nilc (.t 48), none⟩, ⟨(some 55), .faddr 4 (.t 54), none⟩, ⟨none, .store 1 (.t 55) (.t 53), none⟩])
   .skip))
 (.seq (.reg [⟨(some 56), .mv (.t 0), none⟩, ⟨(some 57), .mv (.t 0), none⟩, ⟨(some 58), .nilc (.t 57), none⟩, ⟨(some 59), .faddr 5 (.t 58), none⟩, ⟨(some 60), .load none (.t 59), none⟩, ⟨(some 61), .mv (.t 60), none⟩, ⟨(some 62), .faddr 0 (.t 4), (some (61, false))⟩, ⟨(some 63), .load none (.t 62), (some (61, false))⟩, ⟨(some 64), .bin .eql .no (.t 63) (.c (.int .i64 13)), (some (61, false))⟩, ⟨(some 65), .pick (.t 61) (.c (.bool true)) (.t 64), none⟩, ⟨(some 66), .nilc (.t 56), none⟩, ⟨(some 67), .faddr 5 (.t 66), none⟩, ⟨none, .store 1 (.t 67) (.t 65), none⟩])
 (.seq (.seq (.reg [⟨(some 68), .faddr 3 (.t 4), none⟩, ⟨(some 69), .load none (.t 68), none⟩, ⟨(some 70), .len (.t 69), none⟩, ⟨(some 71), .mv (.c (.int .i64 0)), none⟩])
 (.block 0 (.loop (.seq (.reg [⟨(some 72), .bin .lss .no (.t 71) (.t 70), none⟩])
   (.seq (.cond (.t 72)
     .skip
     (.exit 0))
   (.seq (.block 1 (.seq (.reg [⟨(some 73), .iaddr 1 (.t 69) (.t 71), none⟩, ⟨(some 74), .load none (.t 73), none⟩, ⟨(some 9), .mv (.t 74), none⟩])
    (.reg [⟨(some 75), .mv (.t 0), none⟩, ⟨(some 76), .mv (.t 9), none⟩, ⟨(some 77), .call (.c (.fn 16 [])) [(.t 75), (.t 76)], none⟩])))
   (.reg [⟨(some 78), .bin .add .no (.t 71) (.c (.int .i64 1)), none⟩, ⟨(some 71), .mv (.t 78), none⟩])))))))
 (.reg [⟨(some 79), .mv (.t 0), none⟩, ⟨(some 80), .mv (.t 0), none⟩, ⟨(some 81), .mv (.t 6), none⟩, ⟨(some 82), .mv (.t 7), none⟩, ⟨(some 83), .nilc (.t 79), none⟩, ⟨(some 84), .faddr 4 (.t 83), none⟩, ⟨none, .store 1 (.t 84) (.t 81), none⟩, ⟨(some 85), .nilc (.t 80), none⟩, ⟨(some 86), .faddr 5 (.t 85), none⟩, ⟨none, .store 1 (.t 86) (.t 82), none⟩]))))))), []⟩
theorem c16 : compF Tryz.prog Tryz.f16 = some m16 := by kernel_rfl
/-- weirgate/lex.Place -/
def m17 : MFunc := ⟨21, (.seq (.reg [⟨(some 4), .mv (.c (.int .i64 0)), none⟩, ⟨(some 5), .mv (.c (.int .i64 0)), none⟩])
 (.seq (.reg [⟨(some 6), .mv (.t 0), none⟩, ⟨(some 7), .mv (.t 1), none⟩, ⟨(some 8), .minmax true [(.t 7), (.c (.int .i64 0))], none⟩, ⟨(some 9), .mv (.t 0), none⟩, ⟨(some 10), .lenS (.t 9), none⟩, ⟨(some 11), .minmax false [(.t 8), (.t 10)], none⟩, ⟨(some 12), .cutS (.t 6) none (some (.t 11)), none⟩, ⟨(some 0), .mv (.t 12), none⟩])
 (.seq (.reg [⟨(some 13), .mv (.t 0), none⟩, ⟨(some 14), .call (.c (.fn 31 [])) [(.t 13), (.c (.str [10]))], none⟩, ⟨(some 15), .bin .add .no (.c (.int .i64 1)) (.t 14), none⟩, ⟨(some 16), .mv (.t 0), none⟩, ⟨(some 17), .lenS (.t 16), none⟩, ⟨(some 18), .mv (.t 0), none⟩, ⟨(some 19), .call (.c (.fn 32 [])) [(.t 18), (.c (.int .u8 10))], none⟩, ⟨(some 20), .bin .sub .no (.t 17) (.t 19), none⟩, ⟨(some 4), .mv (.t 15), none⟩, ⟨(some 5), .mv (.t 20), none⟩])
 .ret))), [.tmp 4, .tmp 5]⟩
theorem c17 : compF Tryz.prog Tryz.f17 = some m17 := by kernel_rfl
/-- weirgate/weirgateref08.has -/
def m18 : MFunc := ⟨17, (.seq (.reg [⟨(some 4), .mv (.c (.bool false)), none⟩])
 (.seq (.seq (.reg [⟨(some 5), .mv (.c (.int .i64 0)), none⟩])
 (.block 0 (.loop (.seq (.seq (.reg [⟨(some 6), .mv (.t 5), none⟩, ⟨(some 7), .mv (.t 0), none⟩, ⟨(some 8), .lenS (.t 7), none⟩, ⟨(some 9), .bin .lss .no (.t 6) (.t 8), none⟩])
   (.cond (.t 9)
     .skip
     (.exit 0)))
   (.seq (.block 1 (.seq (.reg [⟨(some 12), .mv (.t 0), none⟩, ⟨(some 13), .mv (.t 5), none⟩, ⟨(some 14), .index (.t 12) (.t 13), none⟩, ⟨(some 15), .mv (.t 1), none⟩, ⟨(some 16), .bin .eql .no (.t 14) (.t 15), none⟩])
    (.cond (.t 16)
      (.seq (.reg [⟨(some 4), .mv (.c (.bool true)), none⟩])
      .ret)
      .skip)))
   (.reg [⟨(some 10), .mv (.t 5), none⟩, ⟨(some 11), .bin .add .no (.t 10) (.c (.int .i64 1)), none⟩, ⟨(some 5), .mv (.t 11), none⟩]))))))
 (.seq (.reg [⟨(some 4), .mv (.c (.bool false)), none⟩])
 .ret))), [.tmp 4]⟩
theorem c18 : compF Tryz.prog Tryz.f18 = some m18 := by kernel_rfl
/-- weirgate/weirgateref08.two -/
def m19 : MFunc := ⟨15, (.seq (.reg [⟨(some 4), .mv (.c (.str [])), none⟩])
 (.seq (.seq (.reg [⟨(some 5), .mv (.t 1), none⟩, ⟨(some 6), .bin .add .no (.t 5) (.c (.int .i64 2)), none⟩, ⟨(some 7), .mv (.t 0), none⟩, ⟨(some 8), .lenS (.t 7), none⟩, ⟨(some 9), .bin .leq .no (.t 6) (.t 8), none⟩])
 (.cond (.t 9)
   (.seq (.reg [⟨(some 10), .mv (.t 0), none⟩, ⟨(some 11), .mv (.t 1), none⟩, ⟨(some 12), .mv (.t 1), none⟩, ⟨(some 13), .bin .add .no (.t 12) (.c (.int .i64 2)), none⟩, ⟨(some 14), .cutS (.t 10) (some (.t 11)) (some (.t 13)), none⟩, ⟨(some 4), .mv (.t 14), none⟩])
   .ret)
   .skip))
 (.seq (.reg [⟨(some 4), .mv (.c (.str [])), none⟩])
 .ret))), [.tmp 4]⟩
theorem c19 : compF Tryz.prog Tryz.f19 = some m19 := by kernel_rfl
/-- weirgate/weirgateref08.letter -/
def m20 : MFunc := ⟨17, (.seq (.reg [⟨(some 2), .mv (.c (.bool false)), none⟩])
 (.seq (.reg [⟨(some 3), .mv (.t 0), none⟩, ⟨(some 4), .bin .geq .no (.t 3) (.c (.int .u8 65)), none⟩, ⟨(some 5), .mv (.t 4), none⟩, ⟨(some 6), .mv (.t 0), (some (5, true))⟩, ⟨(some 7), .bin .leq .no (.t 6) (.c (.int .u8 90)), (some (5, true))⟩, ⟨(some 8), .pick (.t 5) (.t 7) (.c (.bool false)), none⟩, ⟨(some 9), .mv (.t 8), none⟩, ⟨(some 10), .mv (.t 0), (some (9, false))⟩, ⟨(some 11), .bin .geq .no (.t 10) (.c (.int .u8 97)), (some (9, false))⟩, ⟨(some 12), .mv (.t 11), (some (9, false))⟩, ⟨(some 13), .mv (.t 0), (some (12, true))⟩, ⟨(some 14), .bin .leq .no (.t 13) (.c (.int .u8 122)), (some (12, true))⟩, ⟨(some 15), .pick (.t 12) (.t 14) (.c (.bool false)), (some (9, false))⟩, ⟨(some 16), .pick (.t 9) (.c (.bool true)) (.t 15), none⟩, ⟨(some 2), .mv (.t 16), none⟩])
 .ret)), [.tmp 2]⟩
theorem c20 : compF Tryz.prog Tryz.f20 = some m20 := by kernel_rfl
/-- weirgate/weirgateref08.word -/
def m21 : MFunc := ⟨13, (.seq (.reg [⟨(some 2), .mv (.c (.bool false)), none⟩])
 (.seq (.reg [⟨(some 3), .mv (.t 0), none⟩, ⟨(some 4), .call (.c (.fn 20 [])) [(.t 3)], none⟩, ⟨(some 5), .mv (.t 4), none⟩, ⟨(some 6), .mv (.t 0), (some (5, false))⟩, ⟨(some 7), .call (.c (.fn 22 [])) [(.t 6)], (some (5, false))⟩, ⟨(some 8), .pick (.t 5) (.c (.bool true)) (.t 7), none⟩, ⟨(some 9), .mv (.t 8), none⟩, ⟨(some 10), .mv (.t 0), (some (9, false))⟩, ⟨(some 11), .bin .eql .no (.t 10) (.c (.int .u8 95)), (some (9, false))⟩, ⟨(some 12), .pick (.t 9) (.c (.bool true)) (.t 11), none⟩, ⟨(some 2), .mv (.t 12), none⟩])
 .ret)), [.tmp 2]⟩
theorem c21 : compF Tryz.prog Tryz.f21 = some m21 := by kernel_rfl
/-- weirgate/weirgateref08.digit -/
def m22 : MFunc := ⟨9, (.seq (.reg [⟨(some 2), .mv (.c (.bool false)), none⟩])
 (.seq (.reg [⟨(some 3), .mv (.t 0), none⟩, ⟨(some 4), .bin .geq .no (.t 3) (.c (.int .u8 48)), none⟩, ⟨(some 5), .mv (.t 4), none⟩, ⟨(some 6), .mv (.t 0), (some (5, true))⟩, ⟨(some 7), .bin .leq .no (.t 6) (.c (.int .u8 57)), (some (5, true))⟩, ⟨(some 8), .pick (.t 5) (.t 7) (.c (.bool false)), none⟩, ⟨(some 2), .mv (.t 8), none⟩])
 .ret)), [.tmp 2]⟩
theorem c22 : compF Tryz.prog Tryz.f22 = some m22 := by kernel_rfl
/-- (*weirgate/weirgateref09.P).begin -/
def m23 : MFunc := ⟨11, (.seq (.reg [⟨(some 4), .alloc [(.int .i64 0), .nils, .nils, .nils, (.int .i64 0), .nils], none⟩])
 (.seq (.reg [⟨(some 5), .mv (.t 1), none⟩, ⟨(some 6), .mv (.t 0), none⟩, ⟨(some 7), .call (.c (.fn 25 [])) [(.t 6)], none⟩, ⟨(some 8), .field none 2 (.t 7), none⟩, ⟨(some 9), .build [(.int .i64 0), .nils, .nils, .nils, (.int .i64 0)] [(0, 1, (.t 5)), (4, 1, (.t 8))], none⟩, ⟨(some 10), .build [(.int .i64 0), .nils, .nils, .nils, (.int .i64 0), .nils] [(0, 5, (.t 9))], none⟩, ⟨none, .store 6 (.t 4) (.t 10), none⟩])
 .ret)), [.cell 4 (some 6)]⟩
theorem c23 : compF Tryz.prog Tryz.f23 = some m23 := by kernel_rfl
/-- (*weirgate/weirgateref09.P).ok -/
def m24 : MFunc := ⟨9, (.seq (.reg [⟨(some 2), .mv (.c (.bool false)), none⟩])
 (.seq (.reg [⟨(some 3), .mv (.t 0), none⟩, ⟨(some 4), .nilc (.t 3), none⟩, ⟨(some 5), .faddr 3 (.t 4), none⟩, ⟨(some 6), .faddr 0 (.t 5), none⟩, ⟨(some 7), .load none (.t 6), none⟩, ⟨(some 8), .bin .eql .no (.t 7) (.c (.int .i64 0)), none⟩, ⟨(some 2), .mv (.t 8), none⟩])
 .ret)), [.tmp 2]⟩
theorem c24 : compF Tryz.prog Tryz.f24 = some m24 := by kernel_rfl
/-- (*weirgate/weirgateref09.P).now -/
def m25 : MFunc := ⟨13, (.seq (.reg [⟨(some 2), .alloc [(.int .i64 0), (.str []), (.int .i64 0)], none⟩])
 (.seq (.draw [⟨(some 3), .mv (.t 0), none⟩, ⟨(some 4), .nilc (.t 3), none⟩, ⟨(some 5), .faddr 0 (.t 4), none⟩, ⟨(some 6), .load none (.t 5), none⟩, ⟨(some 7), .mv (.t 0), none⟩, ⟨(some 8), .nilc (.t 7), none⟩, ⟨(some 9), .faddr 1 (.t 8), none⟩, ⟨(some 10), .load none (.t 9), none⟩, ⟨(some 11), .iaddr 3 (.t 6) (.t 10), none⟩, ⟨(some 12), .load (some 3) (.t 11), none⟩, ⟨none, .store 3 (.t 2) (.t 12), none⟩] [0, 1, 3, 7, 0, 16, 48, 112, 255, 511, 1023])
 .ret)), [.cell 2 (some 3)]⟩
theorem c25 : compF Tryz.prog Tryz.f25 = some m25 := by kernel_rfl
/-- (*weirgate/weirgateref09.P).item -/
def m26 : MFunc := ⟨85, (.seq (.reg [⟨(some 2), .alloc [(.int .i64 0), .nils, .nils, .nils, (.int .i64 0), .nils], none⟩])
 (.seq (.reg [⟨(some 4), .mv (.t 0), none⟩, ⟨(some 5), .call (.c (.fn 23 [])) [(.t 4), (.c (.int .i64 5))], none⟩, ⟨(some 3), .alloc [(.int .i64 0), .nils, .nils, .nils, (.int .i64 0), .nils], none⟩, ⟨none, .store 6 (.t 3) (.t 5), none⟩])
 (.seq (.seq (.reg [⟨(some 6), .mv (.t 0), none⟩, ⟨(some 7), .call (.c (.fn 33 [])) [(.t 6), (.c (.str [118, 97, 114]))], none⟩])
 (.cond (.t 7)
   (.seq (.reg [⟨(some 8), .mv (.t 0), none⟩, ⟨(some 9), .call (.c (.fn 34 [])) [(.t 8)], none⟩, ⟨none, .store 6 (.t 2) (.t 9), none⟩])
   .ret)
   .skip))
 (.seq (.seq (.reg [⟨(some 10), .mv (.t 0), none⟩, ⟨(some 11), .call (.c (.fn 33 [])) [(.t 10), (.c (.str [112, 114, 111, 99]))], none⟩])
 (.cond (.t 11)
   (.seq (.reg [⟨(some 12), .mv (.t 0), none⟩, ⟨(some 13), .call (.c (.fn 35 [])) [(.t 12)], none⟩, ⟨none, .store 6 (.t 2) (.t 13), none⟩])
   .ret)
   .skip))
 (.seq (.seq (.reg [⟨(some 14), .mv (.t 0), none⟩, ⟨(some 15), .call (.c (.fn 36 [])) [(.t 14), (.c (.str [99, 104, 97, 110]))], none⟩])
 (.cond (.t 15)
   (.seq (.reg [⟨(some 16), .faddr 0 (.t 3), none⟩, ⟨(some 17), .faddr 0 (.t 16), none⟩, ⟨none, .store 1 (.t 17) (.c (.int .i64 1)), none⟩])
   (.seq (.draw [⟨(some 18), .faddr 0 (.t 3), none⟩, ⟨(some 19), .faddr 1 (.t 18), none⟩, ⟨(some 20), .load none (.t 19), none⟩, ⟨(some 21), .mv (.t 0), none⟩, ⟨(some 22), .call (.c (.fn 37 [])) [(.t 21)], none⟩, ⟨(some 23), .bslice 1 1 [(.str [])] [(0, 1, (.t 22))], none⟩, ⟨(some 24), .append 1 16 (.t 20) (.t 23), none⟩, ⟨(some 25), .faddr 0 (.t 3), none⟩, ⟨(some 26), .faddr 1 (.t 25), none⟩, ⟨none, .store 1 (.t 26) (.t 24), none⟩] [0, 1, 3, 0, 8, 24, 63, 127, 255, 511])
   (.seq (.reg [⟨(some 27), .mv (.t 0), none⟩, ⟨(some 28), .call (.c (.fn 38 [])) [(.t 27), (.c (.str [91]))], none⟩])
   (.seq (.draw [⟨(some 29), .faddr 0 (.t 3), none⟩, ⟨(some 30), .faddr 2 (.t 29), none⟩, ⟨(some 31), .load none (.t 30), none⟩, ⟨(some 32), .mv (.t 0), none⟩, ⟨(some 33), .call (.c (.fn 39 [])) [(.t 32)], none⟩, ⟨(some 34), .bslice 1 1 [(.int .i64 0)] [(0, 1, (.t 33))], none⟩, ⟨(some 35), .append 1 8 (.t 31) (.t 34), none⟩, ⟨(some 36), .faddr 0 (.t 3), none⟩, ⟨(some 37), .faddr 2 (.t 36), none⟩, ⟨none, .store 1 (.t 37) (.t 35), none⟩] [0, 1, 3, 0, 8, 24, 63, 127, 255, 511])
   (.seq (.reg [⟨(some 38), .mv (.t 0), none⟩, ⟨(some 39), .call (.c (.fn 38 [])) [(.t 38), (.c (.str [93]))], none⟩])
   (.seq (.reg [⟨(some 40), .mv (.t 0), none⟩, ⟨(some 41), .call (.c (.fn 38 [])) [(.t 40), (.c (.str [111, 102]))], none⟩])
   (.seq (.draw [⟨(some 42), .faddr 0 (.t 3), none⟩, ⟨(some 43), .faddr 2 (.t 42), none⟩, ⟨(some 44), .load none (.t 43), none⟩, ⟨(some 45), .mv (.t 0), none⟩, ⟨(some 46), .call (.c (.fn 39 [])) [(.t 45)], none⟩, ⟨(some 47), .bslice 1 1 [(.int .i64 0)] [(0, 1, (.t 46))], none⟩, ⟨(some 48), .append 1 8 (.t 44) (.t 47), none⟩, ⟨(some 49), .faddr 0 (.t 3), none⟩, ⟨(some 50), .faddr 2 (.t 49), none⟩, ⟨none, .store 1 (.t 50) (.t 48), none⟩] [0, 1, 3, 0, 8, 24, 63, 127, 255, 511])
   (.seq (.draw [⟨(some 51), .faddr 0 (.t 3), none⟩, ⟨(some 52), .faddr 2 (.t 51), none⟩, ⟨(some 53), .load none (.t 52), none⟩, ⟨(some 54), .mv (.t 0), none⟩, ⟨(some 55), .call (.c (.fn 40 [])) [(.t 54), (.c (.str [108, 111, 115, 115, 121]))], none⟩, ⟨(some 56), .bslice 1 1 [(.int .i64 0)] [(0, 1, (.t 55))], none⟩, ⟨(some 57), .append 1 8 (.t 53) (.t 56), none⟩, ⟨(some 58), .faddr 0 (.t 3), none⟩, ⟨(some 59), .faddr 2 (.t 58), none⟩, ⟨none, .store 1 (.t 59) (.t 57), none⟩] [0, 1, 3, 0, 8, 24, 63, 127, 255, 511])
   (.draw [⟨(some 60), .faddr 0 (.t 3), none⟩, ⟨(some 61), .faddr 2 (.t 60), none⟩, ⟨(some 62), .load none (.t 61), none⟩, ⟨(some 63), .mv (.t 0), none⟩, ⟨(some 64), .call (.c (.fn 40 [])) [(.t 63), (.c (.str [99, 111, 112, 121, 105, 110, 103]))], none⟩, ⟨(some 65), .bslice 1 1 [(.int .i64 0)] [(0, 1, (.t 64))], none⟩, ⟨(some 66), .append 1 8 (.t 62) (.t 65), none⟩, ⟨(some 67), .faddr 0 (.t 3), none⟩, ⟨(some 68), .faddr 2 (.t 67), none⟩, ⟨none, .store 1 (.t 68) (.t 66), none⟩] [0, 1, 3, 0, 8, 24, 63, 127, 255, 511])))))))))
   (.seq (.reg [⟨(some 69), .mv (.t 0), none⟩, ⟨(some 70), .call (.c (.fn 36 [])) [(.t 69), (.c (.str [115, 97, 102, 101]))], none⟩])
   (.cond (.t 70)
     (.seq (.reg [⟨(some 71), .faddr 0 (.t 3), none⟩, ⟨(some 72), .faddr 0 (.t 71), none⟩, ⟨none, .store 1 (.t 72) (.c (.int .i64 4)), none⟩])
     (.draw [⟨(some 73), .faddr 5 (.t 3), none⟩, ⟨(some 74), .load none (.t 73), none⟩, ⟨(some 75), .mv (.t 0), none⟩, ⟨(some 76), .call (.c (.fn 41 [])) [(.t 75)], none⟩, ⟨(some 77), .bslice 6 1 [(.int .i64 0), .nils, .nils, .nils, (.int .i64 0), .nils] [(0, 6, (.t 76))], none⟩, ⟨(some 78), .append 6 112 (.t 74) (.t 77), none⟩, ⟨(some 79), .faddr 5 (.t 3), none⟩, ⟨none, .store 1 (.t 79) (.t 78), none⟩] [0, 1, 0, 4, 12, 31, 63, 127]))
     (.reg [⟨(some 80), .mv (.t 0), none⟩, ⟨(some 81), .call (.c (.fn 38 [])) [(.t 80), (.c (.str [100, 101, 97, 100, 108, 111, 99, 107]))], none⟩])))))
 (.seq (.reg [⟨(some 82), .mv (.t 0), none⟩, ⟨(some 83), .call (.c (.fn 38 [])) [(.t 82), (.c (.str [59]))], none⟩])
 (.seq (.reg [⟨(some 84), .load (some 6) (.t 3), none⟩, ⟨none, .store 6 (.t 2) (.t 84), none⟩])
 .ret))))))), [.cell 2 (some 6)]⟩
theorem c26 : compF Tryz.prog Tryz.f26 = some m26 := by kernel_rfl
/-- weirgate/parse.Right -/
def m27 : MFunc := ⟨29, (.seq (.reg [⟨(some 1), .box 1 (.t 0), none⟩, ⟨(some 2), .mv (.c (.bool false)), none⟩])
 (.seq (.seq (.draw [⟨(some 3), .load none (.t 1), none⟩, ⟨(some 4), .len (.t 3), none⟩, ⟨(some 5), .bin .eql .no (.t 4) (.c (.int .i64 0)), none⟩, ⟨(some 6), .mv (.t 5), none⟩, ⟨(some 7), .load none (.t 1), (some (6, false))⟩, ⟨(some 8), .len (.t 7), (some (6, false))⟩, ⟨(some 9), .bin .gtr .no (.t 8) (.c (.int .i64 800)), (some (6, false))⟩, ⟨(some 10), .pick (.t 6) (.c (.bool true)) (.t 9), none⟩, ⟨(some 11), .mv (.t 10), none⟩, ⟨(some 12), .load none (.t 1), (some (11, false))⟩, ⟨(some 13), .iaddr 5 (.t 12) (.c (.int .i64 0)), (some (11, false))⟩, ⟨(some 14), .faddr 0 (.t 13), (some (11, false))⟩, ⟨(some 15), .load none (.t 14), (some (11, false))⟩, ⟨(some 16), .bin .neq .no (.t 15) (.c (.int .i64 0)), (some (11, false))⟩, ⟨(some 17), .pick (.t 11) (.c (.bool true)) (.t 16), none⟩, ⟨(some 18), .mv (.t 17), none⟩, ⟨(some 19), .load none (.t 1), (some (18, false))⟩, ⟨(some 20), .call (.c (.fn 42 [])) [(.t 19), (.c (.int .i64 0)), (.c (.int .i64 1))], (some (18, false))⟩, ⟨(some 21), .load none (.t 1), (some (18, false))⟩, ⟨(some 22), .len (.t 21), (some (18, false))⟩, ⟨(some 23), .bin .neq .no (.t 20) (.t 22), (some (18, false))⟩, ⟨(some 24), .pick (.t 18) (.c (.bool true)) (.t 23), none⟩] [0, 1, 3, 7, 15, 31, 63, 127, 255, 511, 1023, 2047, 4095, 8191, 16383, 32767, 65535, 131071, 65535, 327679, 1048575, 2097151])
 (.cond (.t 24)
   (.seq (.reg [⟨(some 2), .mv (.c (.bool false)), none⟩])
   .ret)
   .skip))
 (.seq (.reg [⟨(some 25), .load none (.t 1), none⟩, ⟨(some 26), .mkfn 44 [(.t 1)], none⟩, ⟨(some 27), .call (.c (.fn 43 [])) [(.t 25), (.t 26)], none⟩, ⟨(some 28), .un .not (.t 27), none⟩, ⟨(some 2), .mv (.t 28), none⟩])
 .ret))), [.tmp 2]⟩
theorem c27 : compF Tryz.prog Tryz.f27 = some m27 := by kernel_rfl
/-- weirgate/scope.walk -/
def m28 : MFunc := ⟨16, (.seq (.reg [⟨(some 4), .alloc [(.int .i64 0), (.int .i64 0)], none⟩])
 (.seq (.reg [⟨(some 6), .mv (.t 0), none⟩, ⟨(some 7), .mv (.t 1), none⟩, ⟨(some 8), .build [.nils, .nils, .nils, .nils, (.int .i64 0), (.int .i64 0), .nilf] [(0, 1, (.t 6)), (6, 1, (.t 7))], none⟩, ⟨(some 9), .box 7 (.t 8), none⟩, ⟨(some 5), .mv (.t 9), none⟩])
 (.seq (.reg [⟨(some 10), .mv (.t 5), none⟩, ⟨(some 11), .call (.c (.fn 47 [])) [(.t 10), (.c (.int .i64 0))], none⟩])
 (.seq (.reg [⟨(some 12), .mv (.t 5), none⟩, ⟨(some 13), .nilc (.t 12), none⟩, ⟨(some 14), .faddr 4 (.t 13), none⟩, ⟨(some 15), .load (some 2) (.t 14), none⟩, ⟨none, .store 2 (.t 4) (.t 15), none⟩])
 .ret)))), [.cell 4 (some 2)]⟩
theorem c28 : compF Tryz.prog Tryz.f28 = some m28 := by kernel_rfl
/-- weirgate/scope.Check$1 -/
def m29 : MFunc := ⟨4, (.reg [⟨(some 3), .box 3 (.t 1), none⟩]), []⟩
theorem c29 : compF Tryz.prog Tryz.f29 = some m29 := by kernel_rfl
/-- (*weirgate/typing.checker).wrong -/
def m30 : MFunc := ⟨59, (.seq (.reg [⟨(some 3), .box 5 (.t 1), none⟩, ⟨(some 4), .mv (.c (.int .i64 0)), none⟩])
 (.seq (.reg [⟨(some 5), .mv (.c (.bool true)), none⟩])
 (.seq (.seq (.reg [⟨(some 6), .faddr 0 (.t 3), none⟩, ⟨(some 7), .load none (.t 6), none⟩])
 (.block 0 (.seq (.block 6 (.seq (.block 5 (.seq (.block 4 (.seq (.block 3 (.seq (.block 2 (.seq (.block 1 (.seq (.seq (.seq (.reg [⟨(some 9), .bin .eql .no (.t 7) (.c (.int .i64 1)), none⟩, ⟨(some 8), .mv (.t 9), none⟩])
        (.cond (.t 8)
          (.exit 1)
          .skip))
        (.seq (.seq (.reg [⟨(some 11), .bin .eql .no (.t 7) (.c (.int .i64 2)), none⟩, ⟨(some 10), .mv (.t 11), none⟩])
        (.cond (.t 10)
          (.exit 2)
          .skip))
        (.seq (.seq (.reg [⟨(some 13), .bin .eql .no (.t 7) (.c (.int .i64 3)), none⟩, ⟨(some 12), .mv (.t 13), none⟩])
        (.cond (.t 12)
          (.exit 3)
          .skip))
        (.seq (.seq (.reg [⟨(some 15), .bin .eql .no (.t 7) (.c (.int .i64 17)), none⟩, ⟨(some 14), .mv (.t 15), none⟩])
        (.cond (.t 14)
          (.exit 4)
          .skip))
        (.seq (.reg [⟨(some 17), .bin .eql .no (.t 7) (.c (.int .i64 13)), none⟩, ⟨(some 16), .mv (.t 17), none⟩])
        (.cond (.t 16)
          (.exit 5)
          .skip))))))
        (.exit 6)))
       (.seq (.reg [⟨(some 18), .mv (.t 0), none⟩, ⟨(some 19), .load (some 5) (.t 3), none⟩, ⟨(some 20), .call (.c (.fn 48 [])) [(.t 18), (.t 19)], none⟩, ⟨(some 5), .mv (.t 20), none⟩])
       (.exit 0))))
      (.seq (.reg [⟨(some 21), .mv (.t 0), none⟩, ⟨(some 22), .load (some 5) (.t 3), none⟩, ⟨(some 23), .call (.c (.fn 49 [])) [(.t 21), (.t 22)], none⟩, ⟨(some 5), .mv (.t 23), none⟩])
      (.exit 0))))
     (.seq (.seq (.draw [⟨(some 24), .mv (.t 0), none⟩, ⟨(some 25), .nilc (.t 24), none⟩, ⟨(some 26), .faddr 2 (.t 25), none⟩, ⟨(some 27), .load none (.t 26), none⟩, ⟨(some 28), .faddr 2 (.t 3), none⟩, ⟨(some 29), .load none (.t 28), none⟩, ⟨(some 30), .iaddr 1 (.t 29) (.c (.int .i64 0)), none⟩, ⟨(some 31), .load none (.t 30), none⟩, ⟨(some 32), .minmax false [(.t 31), (.c (.int .i64 5))], none⟩, ⟨(some 33), .bin .add .no (.t 27) (.t 32), none⟩, ⟨(some 34), .nilc (.t 24), none⟩, ⟨(some 35), .faddr 2 (.t 34), none⟩, ⟨none, .store 1 (.t 35) (.t 33), none⟩] [0, 1, 3, 7, 0, 16, 48, 112, 240, 511, 1023, 2047, 4095])
     (.reg [⟨(some 36), .faddr 2 (.t 3), none⟩, ⟨(some 37), .load none (.t 36), none⟩, ⟨(some 38), .iaddr 1 (.t 37) (.c (.int .i64 0)), none⟩, ⟨(some 39), .load none (.t 38), none⟩, ⟨(some 40), .bin .gtr .no (.t 39) (.c (.int .i64 0)), none⟩, ⟨(some 41), .mv (.t 40), none⟩, ⟨(some 42), .mv (.t 0), (some (41, true))⟩, ⟨(some 43), .nilc (.t 42), (some (41, true))⟩, ⟨(some 44), .faddr 2 (.t 43), (some (41, true))⟩, ⟨(some 45), .load none (.t 44), (some (41, true))⟩, ⟨(some 46), .bin .leq .no (.t 45) (.c (.int .i64 4)), (some (41, true))⟩, ⟨(some 47), .pick (.t 41) (.t 46) (.c (.bool false)), none⟩, ⟨(some 5), .mv (.t 47), none⟩]))
     (.exit 0))))
    (.seq (.reg [⟨(some 48), .faddr 2 (.t 3), none⟩, ⟨(some 49), .load none (.t 48), none⟩, ⟨(some 50), .iaddr 1 (.t 49) (.c (.int .i64 0)), none⟩, ⟨(some 51), .load none (.t 50), none⟩, ⟨(some 52), .bin .leq .no (.t 51) (.c (.int .i64 127)), none⟩, ⟨(some 5), .mv (.t 52), none⟩])
    (.exit 0))))
   (.seq (.reg [⟨(some 53), .mv (.t 0), none⟩, ⟨(some 54), .nilc (.t 53), none⟩, ⟨(some 55), .faddr 5 (.t 54), none⟩, ⟨(some 56), .load none (.t 55), none⟩])
   (.cond (.t 56)
     (.seq (.reg [⟨(some 4), .mv (.c (.int .i64 21)), none⟩])
     .ret)
     .skip))))
  (.seq (.seq (.reg [⟨(some 4), .mv (.c (.int .i64 0)), none⟩])
  .ret)
  (.exit 0)))))
 (.seq (.seq (.reg [⟨(some 57), .mv (.t 5), none⟩, ⟨(some 58), .un .not (.t 57), none⟩])
 (.cond (.t 58)
   (.seq (.reg [⟨(some 4), .mv (.c (.int .i64 22)), none⟩])
   .ret)
   .skip))
 (.seq (.reg [⟨(some 4), .mv (.c (.int .i64 0)), none⟩])
 .ret))))), [.tmp 4]⟩
theorem c30 : compF Tryz.prog Tryz.f30 = some m30 := by kernel_rfl
/-- strings.Count -/
def m31 : MFunc := ⟨34, (.seq (.reg [⟨(some 4), .mv (.c (.int .i64 0)), none⟩])
 (.seq (.seq (.reg [⟨(some 7), .mv (.t 1), none⟩, ⟨(some 8), .lenS (.t 7), none⟩, ⟨(some 9), .bin .eql .no (.t 8) (.c (.int .i64 0)), none⟩])
 (.cond (.t 9)
   (.seq (.reg [⟨(some 10), .mv (.t 0), none⟩, ⟨(some 11), .call (.c (.fn 50 [])) [(.t 10)], none⟩, ⟨(some 12), .bin .add .no (.t 11) (.c (.int .i64 1)), none⟩, ⟨(some 4), .mv (.t 12), none⟩])
   .ret)
   .skip))
 (.seq (.seq (.reg [⟨(some 13), .mv (.t 1), none⟩, ⟨(some 14), .lenS (.t 13), none⟩, ⟨(some 15), .bin .eql .no (.t 14) (.c (.int .i64 1)), none⟩])
 (.cond (.t 15)
   (.seq (.reg [⟨(some 16), .mv (.t 0), none⟩, ⟨(some 17), .mv (.t 1), none⟩, ⟨(some 18), .index (.t 17) (.c (.int .i64 0)), none⟩, ⟨(some 19), .cntB (.t 16) (.t 18), none⟩, ⟨(some 4), .mv (.t 19), none⟩])
   .ret)
   .skip))
 (.seq (.reg [⟨(some 5), .mv (.c (.int .i64 0)), none⟩])
 (.block 0 (.loop (.block 1 (.seq (.reg [⟨(some 20), .mv (.t 0), none⟩, ⟨(some 21), .mv (.t 1), none⟩, ⟨(some 22), .call (.c (.fn 52 [])) [(.t 20), (.t 21)], none⟩, ⟨(some 6), .mv (.t 22), none⟩])
    (.seq (.seq (.reg [⟨(some 23), .mv (.t 6), none⟩, ⟨(some 24), .bin .eql .no (.t 23) (.c (.int .i64 (-1))), none⟩])
    (.cond (.t 24)
      (.seq (.reg [⟨(some 25), .mv (.t 5), none⟩, ⟨(some 4), .mv (.t 25), none⟩])
      .ret)
      .skip))
    (.seq (.reg [⟨(some 26), .mv (.t 5), none⟩, ⟨(some 27), .bin .add .no (.t 26) (.c (.int .i64 1)), none⟩, ⟨(some 5), .mv (.t 27), none⟩])
    (.reg [⟨(some 28), .mv (.t 0), none⟩, ⟨(some 29), .mv (.t 6), none⟩, ⟨(some 30), .mv (.t 1), none⟩, ⟨(some 31), .lenS (.t 30), none⟩, ⟨(some 32), .bin .add .no (.t 29) (.t 31), none⟩, ⟨(some 33), .cutS (.t 28) (some (.t 32)) none, none⟩, ⟨(some 0), .mv (.t 33), none⟩]))))))))))), [.tmp 4]⟩
theorem c31 : compF Tryz.prog Tryz.f31 = some m31 := by kernel_rfl
/-- strings.LastIndexByte -/
def m32 : MFunc := ⟨8, (.seq (.reg [⟨(some 4), .mv (.c (.int .i64 0)), none⟩])
 (.seq (.reg [⟨(some 5), .mv (.t 0), none⟩, ⟨(some 6), .mv (.t 1), none⟩, ⟨(some 7), .call (.c (.fn 53 [])) [(.t 5), (.t 6)], none⟩, ⟨(some 4), .mv (.t 7), none⟩])
 .ret)), [.tmp 4]⟩
theorem c32 : compF Tryz.prog Tryz.f32 = some m32 := by kernel_rfl
/-- (*weirgate/weirgateref09.P).sees -/
def m33 : MFunc := ⟨30, (.seq (.reg [⟨(some 4), .mv (.c (.bool false)), none⟩])
 (.seq (.reg [⟨(some 6), .mv (.t 0), none⟩, ⟨(some 7), .call (.c (.fn 25 [])) [(.t 6)], none⟩, ⟨(some 5), .alloc [(.int .i64 0), (.str []), (.int .i64 0)], none⟩, ⟨none, .store 3 (.t 5) (.t 7), none⟩])
 (.seq (.reg [⟨(some 8), .mv (.t 0), none⟩, ⟨(some 9), .call (.c (.fn 24 [])) [(.t 8)], none⟩, ⟨(some 10), .mv (.t 9), none⟩, ⟨(some 11), .faddr 1 (.t 5), (some (10, true))⟩, ⟨(some 12), .load none (.t 11), (some (10, true))⟩, ⟨(some 13), .mv (.t 1), (some (10, true))⟩, ⟨(some 14), .bin .eql .no (.t 12) (.t 13), (some (10, true))⟩, ⟨(some 15), .pick (.t 10) (.t 14) (.c (.bool false)), none⟩, ⟨(some 16), .mv (.t 15), none⟩, ⟨(some 17), .faddr 0 (.t 5), (some (16, true))⟩, ⟨(some 18), .load none (.t 17), (some (16, true))⟩, ⟨(some 19), .bin .eql .no (.t 18) (.c (.int .i64 2)), (some (16, true))⟩, ⟨(some 20), .mv (.t 19), (some (16, true))⟩, ⟨(some 21), .faddr 0 (.t 5), (some (20, false))⟩, ⟨(some 22), .load none (.t 21), (some (20, false))⟩, ⟨(some 23), .bin .eql .no (.t 22) (.c (.int .i64 0)), (some (20, false))⟩, ⟨(some 24), .mv (.t 23), (some (20, false))⟩, ⟨(some 25), .mv (.t 1), (some (24, true))⟩, ⟨(some 26), .call (.c (.fn 54 [])) [(.t 25)], (some (24, true))⟩, ⟨(some 27), .pick (.t 24) (.t 26) (.c (.bool false)), (some (20, false))⟩, ⟨(some 28), .pick (.t 20) (.c (.bool true)) (.t 27), (some (16, true))⟩, ⟨(some 29), .pick (.t 16) (.t 28) (.c (.bool false)), none⟩, ⟨(some 4), .mv (.t 29), none⟩])
 .ret))), [.tmp 4]⟩
theorem c33 : compF Tryz.prog Tryz.f33 = some m33 := by kernel_rfl
/-- (*weirgate/weirgateref09.P).variable -/
def m34 : MFunc := ⟨40, (.seq (.reg [⟨(some 2), .alloc [(.int .i64 0), .nils, .nils, .nils, (.int .i64 0), .nils], none⟩])
 (.seq (.reg [⟨(some 6), .mv (.t 0), none⟩, ⟨(some 7), .call (.c (.fn 23 [])) [(.t 6), (.c (.int .i64 2))], none⟩, ⟨(some 3), .alloc [(.int .i64 0), .nils, .nils, .nils, (.int .i64 0), .nils], none⟩, ⟨none, .store 6 (.t 3) (.t 7), none⟩])
 (.seq (.reg [⟨(some 8), .mv (.t 0), none⟩, ⟨(some 9), .call (.c (.fn 38 [])) [(.t 8), (.c (.str [118, 97, 114]))], none⟩])
 (.seq (.draw [⟨(some 10), .faddr 0 (.t 3), none⟩, ⟨(some 11), .faddr 1 (.t 10), none⟩, ⟨(some 12), .load none (.t 11), none⟩, ⟨(some 13), .mv (.t 0), none⟩, ⟨(some 14), .call (.c (.fn 37 [])) [(.t 13)], none⟩, ⟨(some 15), .bslice 1 1 [(.str [])] [(0, 1, (.t 14))], none⟩, ⟨(some 16), .append 1 16 (.t 12) (.t 15), none⟩, ⟨(some 17), .faddr 0 (.t 3), none⟩, ⟨(some 18), .faddr 1 (.t 17), none⟩, ⟨none, .store 1 (.t 18) (.t 16), none⟩] [0, 1, 3, 0, 8, 24, 63, 127, 255, 511])
 (.seq (.reg [⟨(some 19), .mv (.t 0), none⟩, ⟨(some 20), .call (.c (.fn 38 [])) [(.t 19), (.c (.str [111, 102]))], none⟩])
 (.seq (.reg [⟨(some 21), .mv (.t 0), none⟩, ⟨(some 22), .call (.c (.fn 39 [])) [(.t 21)], none⟩, ⟨(some 4), .mv (.t 22), none⟩])
 (.seq (.reg [⟨(some 5), .mv (.c (.int .i64 0)), none⟩])
 (.seq (.seq (.reg [⟨(some 23), .mv (.t 0), none⟩, ⟨(some 24), .call (.c (.fn 36 [])) [(.t 23), (.c (.str [61]))], none⟩])
 (.cond (.t 24)
   (.seq (.reg [⟨(some 25), .mv (.t 0), none⟩, ⟨(some 26), .call (.c (.fn 36 [])) [(.t 25), (.c (.str [45]))], none⟩])
   (.cond (.t 26)
     (.reg [⟨(some 27), .mv (.t 0), none⟩, ⟨(some 28), .call (.c (.fn 39 [])) [(.t 27)], none⟩, ⟨(some 29), .un .neg (.t 28), none⟩, ⟨(some 5), .mv (.t 29), none⟩])
     (.reg [⟨(some 30), .mv (.t 0), none⟩, ⟨(some 31), .call (.c (.fn 39 [])) [(.t 30)], none⟩, ⟨(some 5), .mv (.t 31), none⟩])))
   .skip))
 (.seq (.reg [⟨(some 32), .mv (.t 4), none⟩, ⟨(some 33), .mv (.t 5), none⟩, ⟨(some 34), .bslice 1 2 [(.int .i64 0)] [(0, 1, (.t 32)), (1, 1, (.t 33))], none⟩, ⟨(some 35), .faddr 0 (.t 3), none⟩, ⟨(some 36), .faddr 2 (.t 35), none⟩, ⟨none, .store 1 (.t 36) (.t 34), none⟩])
 (.seq (.reg [⟨(some 37), .mv (.t 0), none⟩, ⟨(some 38), .call (.c (.fn 38 [])) [(.t 37), (.c (.str [59]))], none⟩])
 (.seq (.reg [⟨(some 39), .load (some 6) (.t 3), none⟩, ⟨none, .store 6 (.t 2) (.t 39), none⟩])
 .ret))))))))))), [.cell 2 (some 6)]⟩
theorem c34 : compF Tryz.prog Tryz.f34 = some m34 := by kernel_rfl
/-- (*weirgate/weirgateref09.P).process -/
def m35 : MFunc := ⟨51, (.seq (.reg [⟨(some 2), .alloc [(.int .i64 0), .nils, .nils, .nils, (.int .i64 0), .nils], none⟩])
 (.seq (.reg [⟨(some 5), .mv (.t 0), none⟩, ⟨(some 6), .call (.c (.fn 23 [])) [(.t 5), (.c (.int .i64 3))], none⟩, ⟨(some 3), .alloc [(.int .i64 0), .nils, .nils, .nils, (.int .i64 0), .nils], none⟩, ⟨none, .store 6 (.t 3) (.t 6), none⟩])
 (.seq (.reg [⟨(some 7), .mv (.t 0), none⟩, ⟨(some 8), .call (.c (.fn 38 [])) [(.t 7), (.c (.str [112, 114, 111, 99]))], none⟩])
 (.seq (.draw [⟨(some 9), .faddr 0 (.t 3), none⟩, ⟨(some 10), .faddr 1 (.t 9), none⟩, ⟨(some 11), .load none (.t 10), none⟩, ⟨(some 12), .mv (.t 0), none⟩, ⟨(some 13), .call (.c (.fn 37 [])) [(.t 12)], none⟩, ⟨(some 14), .bslice 1 1 [(.str [])] [(0, 1, (.t 13))], none⟩, ⟨(some 15), .append 1 16 (.t 11) (.t 14), none⟩, ⟨(some 16), .faddr 0 (.t 3), none⟩, ⟨(some 17), .faddr 1 (.t 16), none⟩, ⟨none, .store 1 (.t 17) (.t 15), none⟩] [0, 1, 3, 0, 8, 24, 63, 127, 255, 511])
 (.seq (.reg [⟨(some 4), .mv (.c (.int .i64 1)), none⟩])
 (.seq (.seq (.reg [⟨(some 18), .mv (.t 0), none⟩, ⟨(some 19), .call (.c (.fn 36 [])) [(.t 18), (.c (.str [42]))], none⟩])
 (.cond (.t 19)
   (.reg [⟨(some 20), .mv (.t 0), none⟩, ⟨(some 21), .call (.c (.fn 39 [])) [(.t 20)], none⟩, ⟨(some 4), .mv (.t 21), none⟩])
   .skip))
 (.seq (.reg [⟨(some 22), .mv (.t 4), none⟩, ⟨(some 23), .bslice 1 1 [(.int .i64 0)] [(0, 1, (.t 22))], none⟩, ⟨(some 24), .faddr 0 (.t 3), none⟩, ⟨(some 25), .faddr 2 (.t 24), none⟩, ⟨none, .store 1 (.t 25) (.t 23), none⟩])
 (.seq (.reg [⟨(some 26), .mv (.t 0), none⟩, ⟨(some 27), .call (.c (.fn 38 [])) [(.t 26), (.c (.str [123]))], none⟩])
 (.seq (.block 0 (.loop (.seq (.seq (.reg [⟨(some 28), .mv (.t 0), none⟩, ⟨(some 29), .call (.c (.fn 33 [])) [(.t 28), (.c (.str [118, 97, 114]))], none⟩])
   (.cond (.t 29)
     .skip
     (.exit 0)))
   (.block 1 (.draw [⟨(some 30), .faddr 5 (.t 3), none⟩, ⟨(some 31), .load none (.t 30), none⟩, ⟨(some 32), .mv (.t 0), none⟩, ⟨(some 33), .call (.c (.fn 34 [])) [(.t 32)], none⟩, ⟨(some 34), .len (.t 31), none⟩, ⟨(some 35), .bslice 6 1 [(.int .i64 0), .nils, .nils, .nils, (.int .i64 0), .nils] [(0, 6, (.c (.agg [(.int .i64 0), .nils, .nils, .nils, (.int .i64 0), .nils])))], none⟩, ⟨(some 36), .append 6 112 (.t 31) (.t 35), none⟩, ⟨(some 37), .iaddr 6 (.t 36) (.t 34), none⟩, ⟨none, .store 6 (.t 37) (.t 33), none⟩, ⟨(some 38), .faddr 5 (.t 3), none⟩, ⟨none, .store 1 (.t 38) (.t 36), none⟩] [0, 1, 0, 4, 3, 0, 63, 127, 255, 127, 639])))))
 (.seq (.reg [⟨(some 39), .mv (.t 0), none⟩, ⟨(some 40), .call (.c (.fn 55 [])) [(.t 39)], none⟩])
 (.seq (.reg [⟨(some 41), .mv (.t 0), none⟩, ⟨(some 42), .call (.c (.fn 56 [])) [(.t 41), (.t 3)], none⟩])
 (.seq (.reg [⟨(some 43), .mv (.t 0), none⟩, ⟨(some 44), .nilc (.t 43), none⟩, ⟨(some 45), .faddr 2 (.t 44), none⟩, ⟨(some 46), .load none (.t 45), none⟩, ⟨(some 47), .bin .sub .no (.t 46) (.c (.int .i64 1)), none⟩, ⟨(some 48), .nilc (.t 43), none⟩, ⟨(some 49), .faddr 2 (.t 48), none⟩, ⟨none, .store 1 (.t 49) (.t 47), none⟩])
 (.seq (.reg [⟨(some 50), .load (some 6) (.t 3), none⟩, ⟨none, .store 6 (.t 2) (.t 50), none⟩])
 .ret))))))))))))), [.cell 2 (some 6)]⟩
theorem c35 : compF Tryz.prog Tryz.f35 = some m35 := by kernel_rfl
/-- (*weirgate/weirgateref09.P).take -/
def m36 : MFunc := ⟨16, (.seq (.reg [⟨(some 4), .mv (.c (.bool false)), none⟩])
 (.seq (.seq (.reg [⟨(some 5), .mv (.t 0), none⟩, ⟨(some 6), .mv (.t 1), none⟩, ⟨(some 7), .call (.c (.fn 33 [])) [(.t 5), (.t 6)], none⟩, ⟨(some 8), .un .not (.t 7), none⟩])
 (.cond (.t 8)
   (.seq (.reg [⟨(some 4), .mv (.c (.bool false)), none⟩])
   .ret)
   .skip))
 (.seq (.reg [⟨(some 9), .mv (.t 0), none⟩, ⟨(some 10), .nilc (.t 9), none⟩, ⟨(some 11), .faddr 1 (.t 10), none⟩, ⟨(some 12), .load none (.t 11), none⟩, ⟨(some 13), .bin .add .no (.t 12) (.c (.int .i64 1)), none⟩, ⟨(some 14), .nilc (.t 9), none⟩, ⟨(some 15), .faddr 1 (.t 14), none⟩, ⟨none, .store 1 (.t 15) (.t 13), none⟩])
 (.seq (.reg [⟨(some 4), .mv (.c (.bool true)), none⟩])
 .ret)))), [.tmp 4]⟩
theorem c36 : compF Tryz.prog Tryz.f36 = some m36 := by kernel_rfl
/-- (*weirgate/weirgateref09.P).name -/
def m37 : MFunc := ⟨31, (.seq (.reg [⟨(some 2), .mv (.c (.str [])), none⟩])
 (.seq (.reg [⟨(some 4), .mv (.t 0), none⟩, ⟨(some 5), .call (.c (.fn 25 [])) [(.t 4)], none⟩, ⟨(some 3), .alloc [(.int .i64 0), (.str []), (.int .i64 0)], none⟩, ⟨none, .store 3 (.t 3) (.t 5), none⟩])
 (.seq (.seq (.reg [⟨(some 6), .faddr 0 (.t 3), none⟩, ⟨(some 7), .load none (.t 6), none⟩, ⟨(some 8), .bin .neq .no (.t 7) (.c (.int .i64 0)), none⟩, ⟨(some 9), .mv (.t 8), none⟩, ⟨(some 10), .faddr 1 (.t 3), (some (9, false))⟩, ⟨(some 11), .load none (.t 10), (some (9, false))⟩, ⟨(some 12), .call (.c (.fn 57 [])) [(.t 11)], (some (9, false))⟩, ⟨(some 13), .un .not (.t 12), (some (9, false))⟩, ⟨(some 14), .pick (.t 9) (.c (.bool true)) (.t 13), none⟩, ⟨(some 15), .mv (.t 14), none⟩, ⟨(some 16), .mv (.t 0), (some (15, false))⟩, ⟨(some 17), .call (.c (.fn 24 [])) [(.t 16)], (some (15, false))⟩, ⟨(some 18), .un .not (.t 17), (some (15, false))⟩, ⟨(some 19), .pick (.t 15) (.c (.bool true)) (.t 18), none⟩])
 (.cond (.t 19)
   (.seq (.reg [⟨(some 20), .mv (.t 0), none⟩, ⟨(some 21), .call (.c (.fn 58 [])) [(.t 20), (.c (.int .i64 11))], none⟩])
   (.seq (.reg [⟨(some 2), .mv (.c (.str [])), none⟩])
   .ret))
   .skip))
 (.seq (.reg [⟨(some 22), .mv (.t 0), none⟩, ⟨(some 23), .nilc (.t 22), none⟩, ⟨(some 24), .faddr 1 (.t 23), none⟩, ⟨(some 25), .load none (.t 24), none⟩, ⟨(some 26), .bin .add .no (.t 25) (.c (.int .i64 1)), none⟩, ⟨(some 27), .nilc (.t 22), none⟩, ⟨(some 28), .faddr 1 (.t 27), none⟩, ⟨none, .store 1 (.t 28) (.t 26), none⟩])
 (.seq (.reg [⟨(some 29), .faddr 1 (.t 3), none⟩, ⟨(some 30), .load none (.t 29), none⟩, ⟨(some 2), .mv (.t 30), none⟩])
 .ret))))), [.tmp 2]⟩
theorem c37 : compF Tryz.prog Tryz.f37 = some m37 := by kernel_rfl
/-- (*weirgate/weirgateref09.P).must -/
def m38 : MFunc := ⟨10, (.seq (.reg [⟨(some 4), .mv (.t 0), none⟩, ⟨(some 5), .mv (.t 1), none⟩, ⟨(some 6), .call (.c (.fn 36 [])) [(.t 4), (.t 5)], none⟩, ⟨(some 7), .un .not (.t 6), none⟩])
 (.cond (.t 7)
   (.reg [⟨(some 8), .mv (.t 0), none⟩, ⟨(some 9), .call (.c (.fn 58 [])) [(.t 8), (.c (.int .i64 11))], none⟩])
   .skip)), []⟩
theorem c38 : compF Tryz.prog Tryz.f38 = some m38 := by kernel_rfl
/-- (*weirgate/weirgateref09.P).num -/
def m39 : MFunc := ⟨42, (.seq (.reg [⟨(some 2), .mv (.c (.int .i64 0)), none⟩])
 (.seq (.reg [⟨(some 6), .mv (.t 0), none⟩, ⟨(some 7), .call (.c (.fn 25 [])) [(.t 6)], none⟩, ⟨(some 3), .alloc [(.int .i64 0), (.str []), (.int .i64 0)], none⟩, ⟨none, .store 3 (.t 3) (.t 7), none⟩])
 (.seq (.seq (.reg [⟨(some 8), .faddr 0 (.t 3), none⟩, ⟨(some 9), .load none (.t 8), none⟩, ⟨(some 10), .bin .neq .no (.t 9) (.c (.int .i64 1)), none⟩, ⟨(some 11), .mv (.t 10), none⟩, ⟨(some 12), .mv (.t 0), (some (11, false))⟩, ⟨(some 13), .call (.c (.fn 24 [])) [(.t 12)], (some (11, false))⟩, ⟨(some 14), .un .not (.t 13), (some (11, false))⟩, ⟨(some 15), .pick (.t 11) (.c (.bool true)) (.t 14), none⟩])
 (.cond (.t 15)
   (.seq (.reg [⟨(some 16), .mv (.t 0), none⟩, ⟨(some 17), .call (.c (.fn 58 [])) [(.t 16), (.c (.int .i64 11))], none⟩])
   (.seq (.reg [⟨(some 2), .mv (.c (.int .i64 0)), none⟩])
   .ret))
   .skip))
 (.seq (.reg [⟨(some 18), .mv (.t 0), none⟩, ⟨(some 19), .nilc (.t 18), none⟩, ⟨(some 20), .faddr 1 (.t 19), none⟩, ⟨(some 21), .load none (.t 20), none⟩, ⟨(some 22), .bin .add .no (.t 21) (.c (.int .i64 1)), none⟩, ⟨(some 23), .nilc (.t 18), none⟩, ⟨(some 24), .faddr 1 (.t 23), none⟩, ⟨none, .store 1 (.t 24) (.t 22), none⟩])
 (.seq (.reg [⟨(some 4), .mv (.c (.int .i64 0)), none⟩])
 (.seq (.seq (.reg [⟨(some 5), .mv (.c (.int .i64 0)), none⟩])
 (.block 0 (.loop (.seq (.seq (.reg [⟨(some 25), .mv (.t 5), none⟩, ⟨(some 26), .faddr 1 (.t 3), none⟩, ⟨(some 27), .load none (.t 26), none⟩, ⟨(some 28), .lenS (.t 27), none⟩, ⟨(some 29), .bin .lss .no (.t 25) (.t 28), none⟩])
   (.cond (.t 29)
     .skip
     (.exit 0)))
   (.seq (.block 1 (.reg [⟨(some 32), .mv (.t 4), none⟩, ⟨(some 33), .bin .mul .no (.c (.int .i64 10)) (.t 32), none⟩, ⟨(some 34), .faddr 1 (.t 3), none⟩, ⟨(some 35), .load none (.t 34), none⟩, ⟨(some 36), .mv (.t 5), none⟩, ⟨(some 37), .index (.t 35) (.t 36), none⟩, ⟨(some 38), .bin .sub .no (.t 37) (.c (.int .u8 48)), none⟩, ⟨(some 39), .convI .i64 (.t 38), none⟩, ⟨(some 40), .bin .add .no (.t 33) (.t 39), none⟩, ⟨(some 4), .mv (.t 40), none⟩]))
   (.reg [⟨(some 30), .mv (.t 5), none⟩, ⟨(some 31), .bin .add .no (.t 30) (.c (.int .i64 1)), none⟩, ⟨(some 5), .mv (.t 31), none⟩]))))))
 (.seq (.reg [⟨(some 41), .mv (.t 4), none⟩, ⟨(some 2), .mv (.t 41), none⟩])
 .ret))))))), [.tmp 2]⟩
theorem c39 : compF Tryz.prog Tryz.f39 = some m39 := by kernel_rfl
/-- (*weirgate/weirgateref09.P).flag -/
def m40 : MFunc := ⟨8, (.seq (.reg [⟨(some 4), .mv (.c (.int .i64 0)), none⟩])
 (.seq (.seq (.reg [⟨(some 5), .mv (.t 0), none⟩, ⟨(some 6), .mv (.t 1), none⟩, ⟨(some 7), .call (.c (.fn 36 [])) [(.t 5), (.t 6)], none⟩])
 (.cond (.t 7)
   (.seq (.reg [⟨(some 4), .mv (.c (.int .i64 1)), none⟩])
   .ret)
   .skip))
 (.seq (.reg [⟨(some 4), .mv (.c (.int .i64 0)), none⟩])
 .ret))), [.tmp 4]⟩
theorem c40 : compF Tryz.prog Tryz.f40 = some m40 := by kernel_rfl
/-- (*weirgate/weirgateref09.P).Expr -/
def m41 : MFunc := ⟨13, (.seq (.reg [⟨(some 2), .alloc [(.int .i64 0), .nils, .nils, .nils, (.int .i64 0), .nils], none⟩])
 (.seq (.reg [⟨(some 4), .mv (.t 0), none⟩, ⟨(some 5), .call (.c (.fn 59 [])) [(.t 4)], none⟩, ⟨(some 3), .alloc [(.int .i64 0), .nils, .nils, .nils, (.int .i64 0), .nils], none⟩, ⟨none, .store 6 (.t 3) (.t 5), none⟩])
 (.seq (.block 0 (.loop (.seq (.seq (.reg [⟨(some 6), .mv (.t 0), none⟩, ⟨(some 7), .call (.c (.fn 36 [])) [(.t 6), (.c (.str [124, 124]))], none⟩])
   (.cond (.t 7)
     .skip
     (.exit 0)))
   (.block 1 (.draw [⟨(some 8), .load (some 6) (.t 3), none⟩, ⟨(some 9), .mv (.t 0), none⟩, ⟨(some 10), .call (.c (.fn 59 [])) [(.t 9)], none⟩, ⟨(some 11), .call (.c (.fn 60 [])) [(.c (.int .i64 0)), (.t 8), (.t 10)], none⟩, ⟨none, .store 6 (.t 3) (.t 11), none⟩] [0, 0, 2, 7, 15])))))
 (.seq (.reg [⟨(some 12), .load (some 6) (.t 3), none⟩, ⟨none, .store 6 (.t 2) (.t 12), none⟩])
 .ret)))), [.cell 2 (some 6)]⟩
theorem c41 : compF Tryz.prog Tryz.f41 = some m41 := by kernel_rfl
/-- weirgate/parse.ordered -/
def m42 : MFunc := ⟨42, (.seq (.reg [⟨(some 6), .mv (.c (.int .i64 0)), none⟩])
 (.seq (.seq (.reg [⟨(some 10), .mv (.t 2), none⟩, ⟨(some 11), .bin .gtr .no (.t 10) (.c (.int .i64 20)), none⟩])
 (.cond (.t 11)
   (.seq (.reg [⟨(some 6), .mv (.c (.int .i64 (-1))), none⟩])
   .ret)
   .skip))
 (.seq (.reg [⟨(some 12), .mv (.t 1), none⟩, ⟨(some 13), .bin .add .no (.t 12) (.c (.int .i64 1)), none⟩, ⟨(some 7), .mv (.t 13), none⟩])
 (.seq (.seq (.reg [⟨(some 14), .mv (.t 0), none⟩, ⟨(some 15), .mv (.t 1), none⟩, ⟨(some 16), .iaddr 5 (.t 14) (.t 15), none⟩, ⟨(some 17), .faddr 3 (.t 16), none⟩, ⟨(some 18), .load none (.t 17), none⟩, ⟨(some 19), .len (.t 18), none⟩, ⟨(some 20), .mv (.c (.int .i64 0)), none⟩])
 (.block 0 (.loop (.seq (.reg [⟨(some 21), .bin .lss .no (.t 20) (.t 19), none⟩])
   (.seq (.cond (.t 21)
     .skip
     (.exit 0))
   (.seq (.block 1 (.seq (.reg [⟨(some 22), .iaddr 1 (.t 18) (.t 20), none⟩, ⟨(some 23), .load none (.t 22), none⟩, ⟨(some 9), .mv (.t 23), none⟩])
    (.seq (.seq (.reg [⟨(some 24), .mv (.t 9), none⟩, ⟨(some 25), .mv (.t 7), none⟩, ⟨(some 26), .bin .neq .no (.t 24) (.t 25), none⟩, ⟨(some 27), .mv (.t 26), none⟩, ⟨(some 28), .mv (.t 9), (some (27, false))⟩, ⟨(some 29), .mv (.t 0), (some (27, false))⟩, ⟨(some 30), .len (.t 29), (some (27, false))⟩, ⟨(some 31), .bin .geq .no (.t 28) (.t 30), (some (27, false))⟩, ⟨(some 32), .pick (.t 27) (.c (.bool true)) (.t 31), none⟩])
    (.cond (.t 32)
      (.seq (.reg [⟨(some 6), .mv (.c (.int .i64 (-1))), none⟩])
      .ret)
      .skip))
    (.seq (.reg [⟨(some 33), .mv (.t 0), none⟩, ⟨(some 34), .mv (.t 9), none⟩, ⟨(some 35), .mv (.t 2), none⟩, ⟨(some 36), .bin .add .no (.t 35) (.c (.int .i64 1)), none⟩, ⟨(some 37), .call (.c (.fn 42 [])) [(.t 33), (.t 34), (.t 36)], none⟩, ⟨(some 7), .mv (.t 37), none⟩])
    (.seq (.reg [⟨(some 38), .mv (.t 7), none⟩, ⟨(some 39), .bin .lss .no (.t 38) (.c (.int .i64 0)), none⟩])
    (.cond (.t 39)
      (.seq (.reg [⟨(some 6), .mv (.c (.int .i64 (-1))), none⟩])
      .ret)
      .skip))))))
   (.reg [⟨(some 40), .bin .add .no (.t 20) (.c (.int .i64 1)), none⟩, ⟨(some 20), .mv (.t 40), none⟩])))))))
 (.seq (.reg [⟨(some 41), .mv (.t 7), none⟩, ⟨(some 6), .mv (.t 41), none⟩])
 .ret))))), [.tmp 6]⟩
theorem c42 : compF Tryz.prog Tryz.f42 = some m42 := by kernel_rfl
/-- slices.ContainsFunc[[]weirgate/api.Node,weirgate/api.Node] -/
def m43 : MFunc := ⟨9, (.seq (.reg [⟨(some 4), .mv (.c (.bool false)), none⟩])
 (.seq (.reg [⟨(some 5), .mv (.t 0), none⟩, ⟨(some 6), .mv (.t 1), none⟩, ⟨(some 7), .call (.c (.fn 61 [])) [(.t 5), (.t 6)], none⟩, ⟨(some 8), .bin .geq .no (.t 7) (.c (.int .i64 0)), none⟩, ⟨(some 4), .mv (.t 8), none⟩])
 .ret)), [.tmp 4]⟩
theorem c43 : compF Tryz.prog Tryz.f43 = some m43 := by kernel_rfl
/-- weirgate/parse.Right$1 -/
def m44 : MFunc := ⟨10, (.seq (.reg [⟨(some 2), .box 5 (.t 0), none⟩, ⟨(some 3), .mv (.c (.bool false)), none⟩])
 (.seq (.draw [⟨(some 4), .load (some 5) (.t 2), none⟩, ⟨(some 5), .load none (.t 1), none⟩, ⟨(some 6), .load (some 5) (.t 2), none⟩, ⟨(some 7), .call (.c (.fn 46 [])) [(.t 5), (.t 6)], none⟩, ⟨(some 8), .call (.c (.fn 45 [])) [(.t 4), (.t 7)], none⟩, ⟨(some 9), .un .not (.t 8), none⟩, ⟨(some 3), .mv (.t 9), none⟩] [0, 0, 0, 6, 15, 31, 63])
 .ret)), [.tmp 3]⟩
theorem c44 : compF Tryz.prog Tryz.f44 = some m44 := by kernel_rfl
/-- weirgate/parse.shape -/
def m45 : MFunc := ⟨170, (.seq (.reg [⟨(some 2), .box 5 (.t 0), none⟩, ⟨(some 3), .box 1 (.t 1), none⟩, ⟨(some 4), .mv (.c (.bool false)), none⟩])
 (.seq (.reg [⟨(some 9), .mkfn 62 [(.t 3)], none⟩, ⟨(some 5), .mv (.c (.int .i64 0)), none⟩, ⟨(some 6), .mv (.t 9), none⟩])
 (.seq (.draw [⟨(some 10), .faddr 2 (.t 2), none⟩, ⟨(some 11), .load none (.t 10), none⟩, ⟨(some 12), .len (.t 11), none⟩, ⟨(some 13), .bin .eql .no (.t 12) (.c (.int .i64 0)), none⟩, ⟨(some 14), .mv (.t 6), none⟩, ⟨(some 15), .call (.t 14) [(.c .nils)], none⟩, ⟨(some 7), .mv (.t 13), none⟩, ⟨(some 8), .mv (.t 15), none⟩] [0, 1, 3, 7, 0, 16, 63, 127])
 (.seq (.seq (.reg [⟨(some 16), .faddr 0 (.t 2), none⟩, ⟨(some 17), .load none (.t 16), none⟩])
 (.block 0 (.seq (.reg [⟨(some 19), .bin .eql .no (.t 17) (.c (.int .i64 0)), none⟩, ⟨(some 18), .mv (.t 19), none⟩])
  (.cond (.t 18)
    (.reg [⟨(some 20), .load none (.t 3), none⟩, ⟨(some 21), .bslice 1 2 [(.int .i64 0)] [(0, 1, (.c (.int .i64 1))), (1, 1, (.c (.int .i64 5)))], none⟩, ⟨(some 22), .call (.c (.fn 64 [])) [(.t 20), (.t 21)], none⟩, ⟨(some 8), .mv (.t 22), none⟩])
    (.seq (.reg [⟨(some 24), .bin .eql .no (.t 17) (.c (.int .i64 1)), none⟩, ⟨(some 23), .mv (.t 24), none⟩])
    (.cond (.t 23)
      (.reg [⟨(some 25), .faddr 2 (.t 2), none⟩, ⟨(some 26), .load none (.t 25), none⟩, ⟨(some 27), .bslice 1 4 [(.int .i64 0)] [(0, 1, (.c (.int .i64 999999))), (1, 1, (.c (.int .i64 999999))), (2, 1, (.c (.int .i64 1))), (3, 1, (.c (.int .i64 1)))], none⟩, ⟨(some 28), .call (.c (.fn 65 [])) [(.t 26), (.t 27)], none⟩, ⟨(some 5), .mv (.c (.int .i64 1)), none⟩, ⟨(some 7), .mv (.t 28), none⟩])
      (.seq (.reg [⟨(some 30), .bin .eql .no (.t 17) (.c (.int .i64 2)), none⟩, ⟨(some 29), .mv (.t 30), none⟩])
      (.cond (.t 29)
        (.draw [⟨(some 31), .faddr 2 (.t 2), none⟩, ⟨(some 32), .load none (.t 31), none⟩, ⟨(some 33), .len (.t 32), none⟩, ⟨(some 34), .bin .eql .no (.t 33) (.c (.int .i64 2)), none⟩, ⟨(some 35), .mv (.t 34), none⟩, ⟨(some 36), .faddr 2 (.t 2), (some (35, true))⟩, ⟨(some 37), .load none (.t 36), (some (35, true))⟩, ⟨(some 38), .cut 1 (.t 37) none (some (.c (.int .i64 1))) none, (some (35, true))⟩, ⟨(some 39), .bslice 1 1 [(.int .i64 0)] [(0, 1, (.c (.int .i64 999999)))], (some (35, true))⟩, ⟨(some 40), .call (.c (.fn 65 [])) [(.t 38), (.t 39)], (some (35, true))⟩, ⟨(some 41), .pick (.t 35) (.t 40) (.c (.bool false)), none⟩, ⟨(some 42), .mv (.t 41), none⟩, ⟨(some 43), .faddr 2 (.t 2), (some (42, true))⟩, ⟨(some 44), .load none (.t 43), (some (42, true))⟩, ⟨(some 45), .iaddr 1 (.t 44) (.c (.int .i64 1)), (some (42, true))⟩, ⟨(some 46), .load none (.t 45), (some (42, true))⟩, ⟨(some 47), .bin .geq .no (.t 46) (.c (.int .i64 (-999999))), (some (42, true))⟩, ⟨(some 48), .pick (.t 42) (.t 47) (.c (.bool false)), none⟩, ⟨(some 49), .mv (.t 48), none⟩, ⟨(some 50), .faddr 2 (.t 2), (some (49, true))⟩, ⟨(some 51), .load none (.t 50), (some (49, true))⟩, ⟨(some 52), .iaddr 1 (.t 51) (.c (.int .i64 1)), (some (49, true))⟩, ⟨(some 53), .load none (.t 52), (some (49, true))⟩, ⟨(some 54), .bin .leq .no (.t 53) (.c (.int .i64 999999)), (some (49, true))⟩, ⟨(some 55), .pick (.t 49) (.t 54) (.c (.bool false)), none⟩, ⟨(some 5), .mv (.c (.int .i64 1)), none⟩, ⟨(some 7), .mv (.t 55), none⟩] [0, 1, 3, 7, 15, 31, 63, 127, 31, 511, 1023, 2047, 4095, 8191, 16383, 32767, 65535, 131071, 262143, 524287, 1048575, 2097151, 4194303, 8388607, 16777215, 524287, 67108863])
        (.seq (.reg [⟨(some 57), .bin .eql .no (.t 17) (.c (.int .i64 3)), none⟩, ⟨(some 56), .mv (.t 57), none⟩])
        (.cond (.t 56)
          (.draw [⟨(some 58), .faddr 2 (.t 2), none⟩, ⟨(some 59), .load none (.t 58), none⟩, ⟨(some 60), .bslice 1 1 [(.int .i64 0)] [(0, 1, (.c (.int .i64 999999)))], none⟩, ⟨(some 61), .call (.c (.fn 65 [])) [(.t 59), (.t 60)], none⟩, ⟨(some 62), .load none (.t 3), none⟩, ⟨(some 63), .call (.c (.fn 66 [])) [(.t 62)], none⟩, ⟨(some 5), .mv (.c (.int .i64 1)), none⟩, ⟨(some 7), .mv (.t 61), none⟩, ⟨(some 8), .mv (.t 63), none⟩] [0, 1, 0, 7, 0, 31, 63, 127, 255])
          (.seq (.seq (.reg [⟨(some 65), .bin .eql .no (.t 17) (.c (.int .i64 4)), none⟩, ⟨(some 64), .mv (.t 65), none⟩])
          (.cond (.t 64)
            .skip
            (.seq (.reg [⟨(some 66), .bin .eql .no (.t 17) (.c (.int .i64 20)), none⟩, ⟨(some 64), .mv (.t 66), none⟩])
            (.cond (.t 64)
              .skip
              (.reg [⟨(some 67), .bin .eql .no (.t 17) (.c (.int .i64 21)), none⟩, ⟨(some 64), .mv (.t 67), none⟩])))))
          (.cond (.t 64)
            (.reg [⟨(some 68), .mv (.t 6), none⟩, ⟨(some 69), .bslice 1 1 [(.int .i64 0)] [(0, 1, (.c (.int .i64 3)))], none⟩, ⟨(some 70), .call (.t 68) [(.t 69)], none⟩, ⟨(some 8), .mv (.t 70), none⟩])
            (.seq (.seq (.reg [⟨(some 72), .bin .eql .no (.t 17) (.c (.int .i64 6)), none⟩, ⟨(some 71), .mv (.t 72), none⟩])
            (.cond (.t 71)
              .skip
              (.reg [⟨(some 73), .bin .eql .no (.t 17) (.c (.int .i64 7)), none⟩, ⟨(some 71), .mv (.t 73), none⟩])))
            (.cond (.t 71)
              (.reg [⟨(some 74), .mv (.t 6), none⟩, ⟨(some 75), .bslice 1 1 [(.int .i64 0)] [(0, 1, (.c (.int .i64 3)))], none⟩, ⟨(some 76), .call (.t 74) [(.t 75)], none⟩, ⟨(some 5), .mv (.c (.int .i64 1)), none⟩, ⟨(some 8), .mv (.t 76), none⟩])
              (.seq (.reg [⟨(some 78), .bin .eql .no (.t 17) (.c (.int .i64 8)), none⟩, ⟨(some 77), .mv (.t 78), none⟩])
              (.cond (.t 77)
                (.reg [⟨(some 79), .faddr 2 (.t 2), none⟩, ⟨(some 80), .load none (.t 79), none⟩, ⟨(some 81), .bslice 1 1 [(.int .i64 0)] [(0, 1, (.c (.int .i64 1)))], none⟩, ⟨(some 82), .call (.c (.fn 65 [])) [(.t 80), (.t 81)], none⟩, ⟨(some 5), .mv (.c (.int .i64 2)), none⟩, ⟨(some 7), .mv (.t 82), none⟩])
                (.seq (.reg [⟨(some 84), .bin .eql .no (.t 17) (.c (.int .i64 9)), none⟩, ⟨(some 83), .mv (.t 84), none⟩])
                (.cond (.t 83)
                  (.reg [⟨(some 85), .faddr 2 (.t 2), none⟩, ⟨(some 86), .load none (.t 85), none⟩, ⟨(some 87), .bslice 1 1 [(.int .i64 0)] [(0, 1, (.c (.int .i64 1)))], none⟩, ⟨(some 88), .call (.c (.fn 65 [])) [(.t 86), (.t 87)], none⟩, ⟨(some 89), .mv (.t 6), none⟩, ⟨(some 90), .bslice 1 1 [(.int .i64 0)] [(0, 1, (.c (.int .i64 3)))], none⟩, ⟨(some 91), .call (.t 89) [(.t 90)], none⟩, ⟨(some 7), .mv (.t 88), none⟩, ⟨(some 8), .mv (.t 91), none⟩])
                  (.seq (.reg [⟨(some 93), .bin .eql .no (.t 17) (.c (.int .i64 10)), none⟩, ⟨(some 92), .mv (.t 93), none⟩])
                  (.cond (.t 92)
                    (.draw [⟨(some 94), .faddr 2 (.t 2), none⟩, ⟨(some 95), .load none (.t 94), none⟩, ⟨(some 96), .bslice 1 1 [(.int .i64 0)] [(0, 1, (.c (.int .i64 1)))], none⟩, ⟨(some 97), .call (.c (.fn 65 [])) [(.t 95), (.t 96)], none⟩, ⟨(some 98), .load none (.t 3), none⟩, ⟨(some 99), .len (.t 98), none⟩, ⟨(some 100), .bin .gtr .no (.t 99) (.c (.int .i64 0)), none⟩, ⟨(some 101), .mv (.t 100), none⟩, ⟨(some 102), .load none (.t 3), (some (101, true))⟩, ⟨(some 103), .bslice 1 1 [(.int .i64 0)] [(0, 1, (.c (.int .i64 4)))], (some (101, true))⟩, ⟨(some 104), .call (.c (.fn 64 [])) [(.t 102), (.t 103)], (some (101, true))⟩, ⟨(some 105), .pick (.t 101) (.t 104) (.c (.bool false)), none⟩, ⟨(some 7), .mv (.t 97), none⟩, ⟨(some 8), .mv (.t 105), none⟩] [0, 1, 0, 7, 0, 16, 48, 127, 255, 255, 1023, 2047, 2047, 8191])
                    (.seq (.reg [⟨(some 107), .bin .eql .no (.t 17) (.c (.int .i64 11)), none⟩, ⟨(some 106), .mv (.t 107), none⟩])
                    (.cond (.t 106)
                      (.reg [⟨(some 108), .mv (.t 6), none⟩, ⟨(some 109), .bslice 1 2 [(.int .i64 0)] [(0, 1, (.c (.int .i64 3))), (1, 1, (.c (.int .i64 4)))], none⟩, ⟨(some 110), .call (.t 108) [(.t 109)], none⟩, ⟨(some 111), .mv (.t 110), none⟩, ⟨(some 112), .mv (.t 6), (some (111, false))⟩, ⟨(some 113), .bslice 1 3 [(.int .i64 0)] [(0, 1, (.c (.int .i64 3))), (1, 1, (.c (.int .i64 4))), (2, 1, (.c (.int .i64 4)))], (some (111, false))⟩, ⟨(some 114), .call (.t 112) [(.t 113)], (some (111, false))⟩, ⟨(some 115), .pick (.t 111) (.c (.bool true)) (.t 114), none⟩, ⟨(some 8), .mv (.t 115), none⟩])
                      (.seq (.reg [⟨(some 117), .bin .eql .no (.t 17) (.c (.int .i64 12)), none⟩, ⟨(some 116), .mv (.t 117), none⟩])
                      (.cond (.t 116)
                        (.reg [⟨(some 118), .mv (.t 6), none⟩, ⟨(some 119), .bslice 1 2 [(.int .i64 0)] [(0, 1, (.c (.int .i64 3))), (1, 1, (.c (.int .i64 4)))], none⟩, ⟨(some 120), .call (.t 118) [(.t 119)], none⟩, ⟨(some 8), .mv (.t 120), none⟩])
                        (.seq (.reg [⟨(some 122), .bin .eql .no (.t 17) (.c (.int .i64 13)), none⟩, ⟨(some 121), .mv (.t 122), none⟩])
                        (.cond (.t 121)
                          (.reg [⟨(some 123), .mv (.t 6), none⟩, ⟨(some 124), .bslice 1 1 [(.int .i64 0)] [(0, 1, (.c (.int .i64 4)))], none⟩, ⟨(some 125), .call (.t 123) [(.t 124)], none⟩, ⟨(some 8), .mv (.t 125), none⟩])
                          (.seq (.reg [⟨(some 127), .bin .eql .no (.t 17) (.c (.int .i64 16)), none⟩, ⟨(some 126), .mv (.t 127), none⟩])
                          (.cond (.t 126)
                            (.reg [⟨(some 128), .load none (.t 3), none⟩, ⟨(some 129), .bslice 1 1 [(.int .i64 0)] [(0, 1, (.c (.int .i64 2)))], none⟩, ⟨(some 130), .call (.c (.fn 64 [])) [(.t 128), (.t 129)], none⟩, ⟨(some 8), .mv (.t 130), none⟩])
                            (.seq (.reg [⟨(some 132), .bin .eql .no (.t 17) (.c (.int .i64 17)), none⟩, ⟨(some 131), .mv (.t 132), none⟩])
                            (.cond (.t 131)
                              (.reg [⟨(some 133), .faddr 2 (.t 2), none⟩, ⟨(some 134), .load none (.t 133), none⟩, ⟨(some 135), .bslice 1 1 [(.int .i64 0)] [(0, 1, (.c (.int .i64 999999)))], none⟩, ⟨(some 136), .call (.c (.fn 65 [])) [(.t 134), (.t 135)], none⟩, ⟨(some 7), .mv (.t 136), none⟩])
                              (.seq (.seq (.reg [⟨(some 138), .bin .eql .no (.t 17) (.c (.int .i64 18)), none⟩, ⟨(some 137), .mv (.t 138), none⟩])
                              (.cond (.t 137)
                                .skip
                                (.reg [⟨(some 139), .bin .eql .no (.t 17) (.c (.int .i64 19)), none⟩, ⟨(some 137), .mv (.t 139), none⟩])))
                              (.cond (.t 137)
                                (.reg [⟨(some 5), .mv (.c (.int .i64 1)), none⟩])
                                (.seq (.reg [⟨(some 141), .bin .eql .no (.t 17) (.c (.int .i64 22)), none⟩, ⟨(some 140), .mv (.t 141), none⟩])
                                (.cond (.t 140)
                                  (.reg [⟨(some 142), .faddr 2 (.t 2), none⟩, ⟨(some 143), .load none (.t 142), none⟩, ⟨(some 144), .bslice 1 1 [(.int .i64 0)] [(0, 1, (.c (.int .i64 8)))], none⟩, ⟨(some 145), .call (.c (.fn 65 [])) [(.t 143), (.t 144)], none⟩, ⟨(some 146), .mv (.t 6), none⟩, ⟨(some 147), .bslice 1 2 [(.int .i64 0)] [(0, 1, (.c (.int .i64 3))), (1, 1, (.c (.int .i64 3)))], none⟩, ⟨(some 148), .call (.t 146) [(.t 147)], none⟩, ⟨(some 7), .mv (.t 145), none⟩, ⟨(some 8), .mv (.t 148), none⟩])
                                  (.seq (.seq (.reg [⟨(some 150), .bin .eql .no (.t 17) (.c (.int .i64 5)), none⟩, ⟨(some 149), .mv (.t 150), none⟩])
                                  (.cond (.t 149)
                                    .skip
                                    (.seq (.reg [⟨(some 151), .bin .eql .no (.t 17) (.c (.int .i64 14)), none⟩, ⟨(some 149), .mv (.t 151), none⟩])
                                    (.cond (.t 149)
                                      .skip
                                      (.reg [⟨(some 152), .bin .eql .no (.t 17) (.c (.int .i64 15)), none⟩, ⟨(some 149), .mv (.t 152), none⟩])))))
                                  (.cond (.t 149)
                                    .skip
                                    (.seq (.reg [⟨(some 4), .mv (.c (.bool false)), none⟩])
                                    .ret)))))))))))))))))))))))))))))))))))))
 (.seq (.reg [⟨(some 153), .mv (.t 7), none⟩, ⟨(some 154), .mv (.t 153), none⟩, ⟨(some 155), .mv (.t 8), (some (154, true))⟩, ⟨(some 156), .pick (.t 154) (.t 155) (.c (.bool false)), none⟩, ⟨(some 157), .mv (.t 156), none⟩, ⟨(some 158), .faddr 1 (.t 2), (some (157, true))⟩, ⟨(some 159), .load none (.t 158), (some (157, true))⟩, ⟨(some 160), .len (.t 159), (some (157, true))⟩, ⟨(some 161), .mv (.t 5), (some (157, true))⟩, ⟨(some 162), .bin .eql .no (.t 160) (.t 161), (some (157, true))⟩, ⟨(some 163), .pick (.t 157) (.t 162) (.c (.bool false)), none⟩, ⟨(some 164), .mv (.t 163), none⟩, ⟨(some 165), .faddr 1 (.t 2), (some (164, true))⟩, ⟨(some 166), .load none (.t 165), (some (164, true))⟩, ⟨(some 167), .call (.c (.fn 67 [])) [(.t 166), (.c (.fn 68 []))], (some (164, true))⟩, ⟨(some 168), .un .not (.t 167), (some (164, true))⟩, ⟨(some 169), .pick (.t 164) (.t 168) (.c (.bool false)), none⟩, ⟨(some 4), .mv (.t 169), none⟩])
 .ret))))), [.tmp 4]⟩
theorem c45 : compF Tryz.prog Tryz.f45 = some m45 := by kernel_rfl
/-- weirgate/parse.sorts -/
def m46 : MFunc := ⟨26, (.seq (.reg [⟨(some 3), .box 5 (.t 1), none⟩, ⟨(some 4), .mv (.c .nils), none⟩])
 (.seq (.reg [⟨(some 5), .mv (.c .nils), none⟩])
 (.seq (.seq (.reg [⟨(some 8), .faddr 3 (.t 3), none⟩, ⟨(some 9), .load none (.t 8), none⟩, ⟨(some 10), .len (.t 9), none⟩, ⟨(some 11), .mv (.c (.int .i64 0)), none⟩])
 (.block 0 (.loop (.seq (.reg [⟨(some 12), .bin .lss .no (.t 11) (.t 10), none⟩])
   (.seq (.cond (.t 12)
     .skip
     (.exit 0))
   (.seq (.block 1 (.seq (.reg [⟨(some 13), .iaddr 1 (.t 9) (.t 11), none⟩, ⟨(some 14), .load none (.t 13), none⟩, ⟨(some 7), .mv (.t 14), none⟩])
    (.reg [⟨(some 15), .mv (.t 5), none⟩, ⟨(some 16), .mv (.t 0), none⟩, ⟨(some 17), .mv (.t 7), none⟩, ⟨(some 18), .iaddr 5 (.t 16) (.t 17), none⟩, ⟨(some 19), .faddr 0 (.t 18), none⟩, ⟨(some 20), .load none (.t 19), none⟩, ⟨(some 21), .call (.c (.fn 70 [])) [(.t 20)], none⟩, ⟨(some 22), .bslice 1 1 [(.int .i64 0)] [(0, 1, (.t 21))], none⟩, ⟨(some 23), .append 1 8 (.t 15) (.t 22), none⟩, ⟨(some 5), .mv (.t 23), none⟩])))
   (.reg [⟨(some 24), .bin .add .no (.t 11) (.c (.int .i64 1)), none⟩, ⟨(some 11), .mv (.t 24), none⟩])))))))
 (.seq (.reg [⟨(some 25), .mv (.t 5), none⟩, ⟨(some 4), .mv (.t 25), none⟩])
 .ret)))), [.tmp 4]⟩
theorem c46 : compF Tryz.prog Tryz.f46 = some m46 := by kernel_rfl
/-- (*weirgate/scope.walker).node -/
def m47 : MFunc := ⟨124, (.seq (.reg [⟨(some 6), .mv (.t 0), none⟩, ⟨(some 7), .nilc (.t 6), none⟩, ⟨(some 8), .faddr 0 (.t 7), none⟩, ⟨(some 9), .load none (.t 8), none⟩, ⟨(some 10), .mv (.t 1), none⟩, ⟨(some 11), .iaddr 5 (.t 9) (.t 10), none⟩, ⟨(some 12), .load (some 5) (.t 11), none⟩, ⟨(some 4), .alloc [(.int .i64 0), .nils, .nils, .nils, (.int .i64 0)], none⟩, ⟨none, .store 5 (.t 4) (.t 12), none⟩])
 (.seq (.draw [⟨(some 13), .mv (.t 0), none⟩, ⟨(some 14), .nilc (.t 13), none⟩, ⟨(some 15), .faddr 6 (.t 14), none⟩, ⟨(some 16), .load none (.t 15), none⟩, ⟨(some 17), .mv (.t 1), none⟩, ⟨(some 18), .mv (.t 0), none⟩, ⟨(some 19), .nilc (.t 18), none⟩, ⟨(some 20), .faddr 1 (.t 19), none⟩, ⟨(some 21), .load (some 3) (.t 20), none⟩, ⟨(some 22), .call (.t 16) [(.t 17), (.t 21)], none⟩] [0, 1, 3, 7, 0, 0, 32, 96, 224, 511])
 (.seq (.seq (.reg [⟨(some 23), .faddr 0 (.t 4), none⟩, ⟨(some 24), .load none (.t 23), none⟩])
 (.block 0 (.seq (.reg [⟨(some 26), .bin .eql .no (.t 24) (.c (.int .i64 1)), none⟩, ⟨(some 25), .mv (.t 26), none⟩])
  (.cond (.t 25)
    (.draw [⟨(some 27), .mv (.t 0), none⟩, ⟨(some 28), .load (some 5) (.t 4), none⟩, ⟨(some 29), .mv (.t 0), none⟩, ⟨(some 30), .nilc (.t 29), none⟩, ⟨(some 31), .faddr 1 (.t 30), none⟩, ⟨(some 32), .faddr 0 (.t 31), none⟩, ⟨(some 33), .call (.c (.fn 71 [])) [(.t 27), (.t 28), (.t 32)], none⟩] [0, 0, 0, 4, 12, 28, 63])
    (.seq (.reg [⟨(some 35), .bin .eql .no (.t 24) (.c (.int .i64 2)), none⟩, ⟨(some 34), .mv (.t 35), none⟩])
    (.cond (.t 34)
      (.draw [⟨(some 36), .mv (.t 0), none⟩, ⟨(some 37), .load (some 5) (.t 4), none⟩, ⟨(some 38), .mv (.t 0), none⟩, ⟨(some 39), .nilc (.t 38), none⟩, ⟨(some 40), .faddr 1 (.t 39), none⟩, ⟨(some 41), .faddr 1 (.t 40), none⟩, ⟨(some 42), .call (.c (.fn 71 [])) [(.t 36), (.t 37), (.t 41)], none⟩] [0, 0, 0, 4, 12, 28, 63])
      (.seq (.reg [⟨(some 44), .bin .eql .no (.t 24) (.c (.int .i64 3)), none⟩, ⟨(some 43), .mv (.t 44), none⟩])
      (.cond (.t 43)
        (.seq (.draw [⟨(some 45), .mv (.t 0), none⟩, ⟨(some 46), .load (some 5) (.t 4), none⟩, ⟨(some 47), .mv (.t 0), none⟩, ⟨(some 48), .nilc (.t 47), none⟩, ⟨(some 49), .faddr 1 (.t 48), none⟩, ⟨(some 50), .faddr 2 (.t 49), none⟩, ⟨(some 51), .call (.c (.fn 71 [])) [(.t 45), (.t 46), (.t 50)], none⟩] [0, 0, 0, 4, 12, 28, 63])
        (.seq (.reg [⟨(some 52), .mv (.t 0), none⟩, ⟨(some 53), .nilc (.t 52), none⟩, ⟨(some 54), .faddr 1 (.t 53), none⟩, ⟨(some 55), .faddr 1 (.t 54), none⟩, ⟨(some 56), .load none (.t 55), none⟩, ⟨(some 5), .mv (.t 56), none⟩])
        (.seq (.reg [⟨(some 57), .mv (.t 0), none⟩, ⟨(some 58), .load (some 5) (.t 4), none⟩, ⟨(some 59), .call (.c (.fn 72 [])) [(.t 57), (.t 58)], none⟩])
        (.seq (.reg [⟨(some 60), .mv (.t 0), none⟩, ⟨(some 61), .mv (.t 5), none⟩, ⟨(some 62), .nilc (.t 60), none⟩, ⟨(some 63), .faddr 1 (.t 62), none⟩, ⟨(some 64), .faddr 1 (.t 63), none⟩, ⟨none, .store 1 (.t 64) (.t 61), none⟩])
        .ret))))
        (.seq (.seq (.reg [⟨(some 66), .bin .eql .no (.t 24) (.c (.int .i64 6)), none⟩, ⟨(some 65), .mv (.t 66), none⟩])
        (.cond (.t 65)
          .skip
          (.reg [⟨(some 67), .bin .eql .no (.t 24) (.c (.int .i64 18)), none⟩, ⟨(some 65), .mv (.t 67), none⟩])))
        (.cond (.t 65)
          (.draw [⟨(some 68), .mv (.t 0), none⟩, ⟨(some 69), .load (some 5) (.t 4), none⟩, ⟨(some 70), .faddr 1 (.t 4), none⟩, ⟨(some 71), .load none (.t 70), none⟩, ⟨(some 72), .iaddr 1 (.t 71) (.c (.int .i64 0)), none⟩, ⟨(some 73), .load none (.t 72), none⟩, ⟨(some 74), .mv (.t 0), none⟩, ⟨(some 75), .nilc (.t 74), none⟩, ⟨(some 76), .faddr 1 (.t 75), none⟩, ⟨(some 77), .faddr 1 (.t 76), none⟩, ⟨(some 78), .load none (.t 77), none⟩, ⟨(some 79), .call (.c (.fn 73 [])) [(.t 68), (.t 69), (.t 73), (.t 78)], none⟩] [0, 0, 0, 4, 12, 28, 0, 64, 192, 448, 960, 2047])
          (.seq (.seq (.reg [⟨(some 81), .bin .eql .no (.t 24) (.c (.int .i64 7)), none⟩, ⟨(some 80), .mv (.t 81), none⟩])
          (.cond (.t 80)
            .skip
            (.reg [⟨(some 82), .bin .eql .no (.t 24) (.c (.int .i64 19)), none⟩, ⟨(some 80), .mv (.t 82), none⟩])))
          (.cond (.t 80)
            (.draw [⟨(some 83), .mv (.t 0), none⟩, ⟨(some 84), .load (some 5) (.t 4), none⟩, ⟨(some 85), .faddr 1 (.t 4), none⟩, ⟨(some 86), .load none (.t 85), none⟩, ⟨(some 87), .iaddr 1 (.t 86) (.c (.int .i64 0)), none⟩, ⟨(some 88), .load none (.t 87), none⟩, ⟨(some 89), .mv (.t 0), none⟩, ⟨(some 90), .nilc (.t 89), none⟩, ⟨(some 91), .faddr 1 (.t 90), none⟩, ⟨(some 92), .faddr 0 (.t 91), none⟩, ⟨(some 93), .load none (.t 92), none⟩, ⟨(some 94), .call (.c (.fn 73 [])) [(.t 83), (.t 84), (.t 88), (.t 93)], none⟩] [0, 0, 0, 4, 12, 28, 0, 64, 192, 448, 960, 2047])
            (.seq (.reg [⟨(some 96), .bin .eql .no (.t 24) (.c (.int .i64 8)), none⟩, ⟨(some 95), .mv (.t 96), none⟩])
            (.cond (.t 95)
              (.seq (.draw [⟨(some 97), .mv (.t 0), none⟩, ⟨(some 98), .load (some 5) (.t 4), none⟩, ⟨(some 99), .faddr 1 (.t 4), none⟩, ⟨(some 100), .load none (.t 99), none⟩, ⟨(some 101), .iaddr 1 (.t 100) (.c (.int .i64 0)), none⟩, ⟨(some 102), .load none (.t 101), none⟩, ⟨(some 103), .mv (.t 0), none⟩, ⟨(some 104), .nilc (.t 103), none⟩, ⟨(some 105), .faddr 1 (.t 104), none⟩, ⟨(some 106), .faddr 0 (.t 105), none⟩, ⟨(some 107), .load none (.t 106), none⟩, ⟨(some 108), .call (.c (.fn 73 [])) [(.t 97), (.t 98), (.t 102), (.t 107)], none⟩] [0, 0, 0, 4, 12, 28, 0, 64, 192, 448, 960, 2047])
              (.draw [⟨(some 109), .mv (.t 0), none⟩, ⟨(some 110), .load (some 5) (.t 4), none⟩, ⟨(some 111), .faddr 1 (.t 4), none⟩, ⟨(some 112), .load none (.t 111), none⟩, ⟨(some 113), .iaddr 1 (.t 112) (.c (.int .i64 1)), none⟩, ⟨(some 114), .load none (.t 113), none⟩, ⟨(some 115), .mv (.t 0), none⟩, ⟨(some 116), .nilc (.t 115), none⟩, ⟨(some 117), .faddr 1 (.t 116), none⟩, ⟨(some 118), .faddr 1 (.t 117), none⟩, ⟨(some 119), .load none (.t 118), none⟩, ⟨(some 120), .call (.c (.fn 73 [])) [(.t 109), (.t 110), (.t 114), (.t 119)], none⟩] [0, 0, 0, 4, 12, 28, 0, 64, 192, 448, 960, 2047]))
              .skip))))))))))))))
 (.reg [⟨(some 121), .mv (.t 0), none⟩, ⟨(some 122), .load (some 5) (.t 4), none⟩, ⟨(some 123), .call (.c (.fn 72 [])) [(.t 121), (.t 122)], none⟩])))), []⟩
theorem c47 : compF Tryz.prog Tryz.f47 = some m47 := by kernel_rfl
/-- (*weirgate/typing.checker).chanFits -/
def m48 : MFunc := ⟨31, (.seq (.reg [⟨(some 3), .box 5 (.t 1), none⟩, ⟨(some 4), .mv (.c (.bool false)), none⟩])
 (.seq (.reg [⟨(some 5), .mv (.t 0), none⟩, ⟨(some 6), .nilc (.t 5), none⟩, ⟨(some 7), .faddr 1 (.t 6), none⟩, ⟨(some 8), .load none (.t 7), none⟩, ⟨(some 9), .bin .add .no (.t 8) (.c (.int .i64 1)), none⟩, ⟨(some 10), .nilc (.t 5), none⟩, ⟨(some 11), .faddr 1 (.t 10), none⟩, ⟨none, .store 1 (.t 11) (.t 9), none⟩])
 (.seq (.reg [⟨(some 12), .faddr 2 (.t 3), none⟩, ⟨(some 13), .load none (.t 12), none⟩, ⟨(some 14), .iaddr 1 (.t 13) (.c (.int .i64 0)), none⟩, ⟨(some 15), .load none (.t 14), none⟩, ⟨(some 16), .call (.c (.fn 74 [])) [(.t 15), (.c (.int .i64 1)), (.c (.int .i64 3))], none⟩, ⟨(some 17), .mv (.t 16), none⟩, ⟨(some 18), .faddr 2 (.t 3), (some (17, true))⟩, ⟨(some 19), .load none (.t 18), (some (17, true))⟩, ⟨(some 20), .iaddr 1 (.t 19) (.c (.int .i64 1)), (some (17, true))⟩, ⟨(some 21), .load none (.t 20), (some (17, true))⟩, ⟨(some 22), .call (.c (.fn 74 [])) [(.t 21), (.c (.int .i64 1)), (.c (.int .i64 8))], (some (17, true))⟩, ⟨(some 23), .pick (.t 17) (.t 22) (.c (.bool false)), none⟩, ⟨(some 24), .mv (.t 23), none⟩, ⟨(some 25), .mv (.t 0), (some (24, true))⟩, ⟨(some 26), .nilc (.t 25), (some (24, true))⟩, ⟨(some 27), .faddr 1 (.t 26), (some (24, true))⟩, ⟨(some 28), .load none (.t 27), (some (24, true))⟩, ⟨(some 29), .bin .leq .no (.t 28) (.c (.int .i64 3)), (some (24, true))⟩, ⟨(some 30), .pick (.t 24) (.t 29) (.c (.bool false)), none⟩, ⟨(some 4), .mv (.t 30), none⟩])
 .ret))), [.tmp 4]⟩
theorem c48 : compF Tryz.prog Tryz.f48 = some m48 := by kernel_rfl
/-- (*weirgate/typing.checker).varFits -/
def m49 : MFunc := ⟨44, (.seq (.reg [⟨(some 3), .box 5 (.t 1), none⟩, ⟨(some 4), .mv (.c (.bool false)), none⟩])
 (.seq (.draw [⟨(some 5), .mv (.t 0), none⟩, ⟨(some 6), .nilc (.t 5), none⟩, ⟨(some 7), .faddr 3 (.t 6), none⟩, ⟨(some 8), .load none (.t 7), none⟩, ⟨(some 9), .mv (.t 0), none⟩, ⟨(some 10), .nilc (.t 9), none⟩, ⟨(some 11), .faddr 4 (.t 10), none⟩, ⟨(some 12), .load none (.t 11), none⟩, ⟨(some 13), .bin .add .no (.t 8) (.t 12), none⟩, ⟨(some 14), .nilc (.t 5), none⟩, ⟨(some 15), .faddr 3 (.t 14), none⟩, ⟨none, .store 1 (.t 15) (.t 13), none⟩] [0, 1, 3, 7, 0, 16, 48, 112, 255, 511, 1023, 2047])
 (.seq (.draw [⟨(some 16), .faddr 2 (.t 3), none⟩, ⟨(some 17), .load none (.t 16), none⟩, ⟨(some 18), .iaddr 1 (.t 17) (.c (.int .i64 0)), none⟩, ⟨(some 19), .load none (.t 18), none⟩, ⟨(some 20), .call (.c (.fn 74 [])) [(.t 19), (.c (.int .i64 1)), (.c (.int .i64 8))], none⟩, ⟨(some 21), .mv (.t 20), none⟩, ⟨(some 22), .faddr 2 (.t 3), (some (21, true))⟩, ⟨(some 23), .load none (.t 22), (some (21, true))⟩, ⟨(some 24), .iaddr 1 (.t 23) (.c (.int .i64 1)), (some (21, true))⟩, ⟨(some 25), .load none (.t 24), (some (21, true))⟩, ⟨(some 26), .faddr 2 (.t 3), (some (21, true))⟩, ⟨(some 27), .load none (.t 26), (some (21, true))⟩, ⟨(some 28), .iaddr 1 (.t 27) (.c (.int .i64 0)), (some (21, true))⟩, ⟨(some 29), .load none (.t 28), (some (21, true))⟩, ⟨(some 30), .call (.c (.fn 75 [])) [(.t 25), (.t 29)], (some (21, true))⟩, ⟨(some 31), .faddr 2 (.t 3), (some (21, true))⟩, ⟨(some 32), .load none (.t 31), (some (21, true))⟩, ⟨(some 33), .iaddr 1 (.t 32) (.c (.int .i64 1)), (some (21, true))⟩, ⟨(some 34), .load none (.t 33), (some (21, true))⟩, ⟨(some 35), .bin .eql .no (.t 30) (.t 34), (some (21, true))⟩, ⟨(some 36), .pick (.t 21) (.t 35) (.c (.bool false)), none⟩, ⟨(some 37), .mv (.t 36), none⟩, ⟨(some 38), .mv (.t 0), (some (37, true))⟩, ⟨(some 39), .nilc (.t 38), (some (37, true))⟩, ⟨(some 40), .faddr 3 (.t 39), (some (37, true))⟩, ⟨(some 41), .load none (.t 40), (some (37, true))⟩, ⟨(some 42), .bin .leq .no (.t 41) (.c (.int .i64 8)), (some (37, true))⟩, ⟨(some 43), .pick (.t 37) (.t 42) (.c (.bool false)), none⟩, ⟨(some 4), .mv (.t 43), none⟩] [0, 1, 3, 7, 15, 31, 63, 127, 255, 511, 63, 1087, 3135, 7231, 16383, 63, 32831, 98367, 229439, 524287, 1048575, 2097151, 4194303, 8388607, 16777215, 33554431, 67108863, 134217727, 268435455])
 .ret))), [.tmp 4]⟩
theorem c49 : compF Tryz.prog Tryz.f49 = some m49 := by kernel_rfl
/-- unicode/utf8.RuneCountInString -/
def m50 : MFunc := ⟨10, (.seq (.reg [⟨(some 2), .mv (.c (.int .i64 0)), none⟩])
 (.seq (.seq (.reg [⟨(some 3), .mv (.t 0), none⟩, ⟨(some 4), .call (.c .undef) [], none⟩])
 (.block 0 (.loop (.seq (.reg [⟨(some 5), .call (.c .undef) [], none⟩, ⟨(some 6), .extract (.t 5) 0, none⟩])
   (.seq (.cond (.t 6)
     .skip
     (.exit 0))
   (.block 1 (.reg [⟨(some 7), .mv (.t 2), none⟩, ⟨(some 8), .bin .add .no (.t 7) (.c (.int .i64 1)), none⟩, ⟨(some 2), .mv (.t 8), none⟩])))))))
 (.seq (.reg [⟨(some 9), .mv (.t 2), none⟩, ⟨(some 2), .mv (.t 9), none⟩])
 .ret))), [.tmp 2]⟩
theorem c50 : compF Tryz.prog Tryz.f50 = some m50 := by kernel_rfl
/-- strings.Index -/
def m52 : MFunc := ⟨8, (.seq (.reg [⟨(some 4), .mv (.c (.int .i64 0)), none⟩])
 (.seq (.reg [⟨(some 5), .mv (.t 0), none⟩, ⟨(some 6), .mv (.t 1), none⟩, ⟨(some 7), .call (.c (.fn 76 [])) [(.t 5), (.t 6)], none⟩, ⟨(some 4), .mv (.t 7), none⟩])
 .ret)), [.tmp 4]⟩
theorem c52 : compF Tryz.prog Tryz.f52 = some m52 := by kernel_rfl
/-- internal/bytealg.LastIndexByteString -/
def m53 : MFunc := ⟨19, (.seq (.reg [⟨(some 4), .mv (.c (.int .i64 0)), none⟩])
 (.seq (.seq (.reg [⟨(some 6), .mv (.t 0), none⟩, ⟨(some 7), .lenS (.t 6), none⟩, ⟨(some 8), .bin .sub .no (.t 7) (.c (.int .i64 1)), none⟩, ⟨(some 5), .mv (.t 8), none⟩])
 (.block 0 (.loop (.seq (.seq (.reg [⟨(some 9), .mv (.t 5), none⟩, ⟨(some 10), .bin .geq .no (.t 9) (.c (.int .i64 0)), none⟩])
   (.cond (.t 10)
     .skip
     (.exit 0)))
   (.seq (.block 1 (.seq (.reg [⟨(some 13), .mv (.t 0), none⟩, ⟨(some 14), .mv (.t 5), none⟩, ⟨(some 15), .index (.t 13) (.t 14), none⟩, ⟨(some 16), .mv (.t 1), none⟩, ⟨(some 17), .bin .eql .no (.t 15) (.t 16), none⟩])
    (.cond (.t 17)
      (.seq (.reg [⟨(some 18), .mv (.t 5), none⟩, ⟨(some 4), .mv (.t 18), none⟩])
      .ret)
      .skip)))
   (.reg [⟨(some 11), .mv (.t 5), none⟩, ⟨(some 12), .bin .sub .no (.t 11) (.c (.int .i64 1)), none⟩, ⟨(some 5), .mv (.t 12), none⟩]))))))
 (.seq (.reg [⟨(some 4), .mv (.c (.int .i64 (-1))), none⟩])
 .ret))), [.tmp 4]⟩
theorem c53 : compF Tryz.prog Tryz.f53 = some m53 := by kernel_rfl
/-- weirgate/weirgateref08.Key -/
def m54 : MFunc := ⟨18, (.seq (.reg [⟨(some 2), .mv (.c (.bool false)), none⟩])
 (.seq (.reg [⟨(some 5), .bslice 1 21 [(.str [])] [(0, 1, (.c (.str [99, 104, 97, 110]))), (1, 1, (.c (.str [111, 102]))), (2, 1, (.c (.str [108, 111, 115, 115, 121]))), (3, 1, (.c (.str [99, 111, 112, 121, 105, 110, 103]))), (4, 1, (.c (.str [118, 97, 114]))), (5, 1, (.c (.str [112, 114, 111, 99]))), (6, 1, (.c (.str [115, 97, 102, 101]))), (7, 1, (.c (.str [100, 101, 97, 100, 108, 111, 99, 107]))), (8, 1, (.c (.str [115, 101, 110, 100]))), (9, 1, (.c (.str [114, 101, 99, 118]))), (10, 1, (.c (.str [105, 100, 108, 101]))), (11, 1, (.c (.str [119, 104, 101, 110]))), (12, 1, (.c (.str [99, 104, 111, 111, 115, 101]))), (13, 1, (.c (.str [111, 114]))), (14, 1, (.c (.str [105, 102]))), (15, 1, (.c (.str [101, 108, 115, 101]))), (16, 1, (.c (.str [119, 104, 105, 108, 101]))), (17, 1, (.c (.str [97, 116, 111, 109, 105, 99]))), (18, 1, (.c (.str [115, 107, 105, 112]))), (19, 1, (.c (.str [115, 116, 111, 112]))), (20, 1, (.c (.str [108, 101, 110])))], none⟩, ⟨(some 3), .mv (.t 5), none⟩])
 (.seq (.seq (.reg [⟨(some 4), .mv (.c (.int .i64 0)), none⟩])
 (.block 0 (.loop (.seq (.seq (.reg [⟨(some 6), .mv (.t 4), none⟩, ⟨(some 7), .mv (.t 3), none⟩, ⟨(some 8), .len (.t 7), none⟩, ⟨(some 9), .bin .lss .no (.t 6) (.t 8), none⟩])
   (.cond (.t 9)
     .skip
     (.exit 0)))
   (.seq (.block 1 (.seq (.reg [⟨(some 12), .mv (.t 3), none⟩, ⟨(some 13), .mv (.t 4), none⟩, ⟨(some 14), .iaddr 1 (.t 12) (.t 13), none⟩, ⟨(some 15), .load none (.t 14), none⟩, ⟨(some 16), .mv (.t 0), none⟩, ⟨(some 17), .bin .eql .no (.t 15) (.t 16), none⟩])
    (.cond (.t 17)
      (.seq (.reg [⟨(some 2), .mv (.c (.bool true)), none⟩])
      .ret)
      .skip)))
   (.reg [⟨(some 10), .mv (.t 4), none⟩, ⟨(some 11), .bin .add .no (.t 10) (.c (.int .i64 1)), none⟩, ⟨(some 4), .mv (.t 11), none⟩]))))))
 (.seq (.reg [⟨(some 2), .mv (.c (.bool false)), none⟩])
 .ret)))), [.tmp 2]⟩
theorem c54 : compF Tryz.prog Tryz.f54 = some m54 := by kernel_rfl
/-- (*weirgate/weirgateref09.P).in -/
def m55 : MFunc := ⟨16, (.seq (.reg [⟨(some 2), .mv (.t 0), none⟩, ⟨(some 3), .nilc (.t 2), none⟩, ⟨(some 4), .faddr 2 (.t 3), none⟩, ⟨(some 5), .load none (.t 4), none⟩, ⟨(some 6), .bin .add .no (.t 5) (.c (.int .i64 1)), none⟩, ⟨(some 7), .nilc (.t 2), none⟩, ⟨(some 8), .faddr 2 (.t 7), none⟩, ⟨none, .store 1 (.t 8) (.t 6), none⟩])
 (.seq (.reg [⟨(some 9), .mv (.t 0), none⟩, ⟨(some 10), .nilc (.t 9), none⟩, ⟨(some 11), .faddr 2 (.t 10), none⟩, ⟨(some 12), .load none (.t 11), none⟩, ⟨(some 13), .bin .gtr .no (.t 12) (.c (.int .i64 200)), none⟩])
 (.cond (.t 13)
   (.reg [⟨(some 14), .mv (.t 0), none⟩, ⟨(some 15), .call (.c (.fn 58 [])) [(.t 14), (.c (.int .i64 12))], none⟩])
   .skip))), []⟩
theorem c55 : compF Tryz.prog Tryz.f55 = some m55 := by kernel_rfl
/-- (*weirgate/weirgateref09.P).stats -/
def m56 : MFunc := ⟨23, (.block 0 (.loop (.seq (.seq (.reg [⟨(some 4), .mv (.t 0), none⟩, ⟨(some 5), .call (.c (.fn 24 [])) [(.t 4)], none⟩, ⟨(some 6), .mv (.t 5), none⟩, ⟨(some 7), .mv (.t 0), (some (6, true))⟩, ⟨(some 8), .call (.c (.fn 36 [])) [(.t 7), (.c (.str [125]))], (some (6, true))⟩, ⟨(some 9), .un .not (.t 8), (some (6, true))⟩, ⟨(some 10), .pick (.t 6) (.t 9) (.c (.bool false)), none⟩])
   (.cond (.t 10)
     .skip
     (.exit 0)))
   (.block 1 (.draw [⟨(some 11), .mv (.t 1), none⟩, ⟨(some 12), .nilc (.t 11), none⟩, ⟨(some 13), .faddr 5 (.t 12), none⟩, ⟨(some 14), .load none (.t 13), none⟩, ⟨(some 15), .mv (.t 0), none⟩, ⟨(some 16), .call (.c (.fn 77 [])) [(.t 15)], none⟩, ⟨(some 17), .len (.t 14), none⟩, ⟨(some 18), .bslice 6 1 [(.int .i64 0), .nils, .nils, .nils, (.int .i64 0), .nils] [(0, 6, (.c (.agg [(.int .i64 0), .nils, .nils, .nils, (.int .i64 0), .nils])))], none⟩, ⟨(some 19), .append 6 112 (.t 14) (.t 18), none⟩, ⟨(some 20), .iaddr 6 (.t 19) (.t 17), none⟩, ⟨none, .store 6 (.t 20) (.t 16), none⟩, ⟨(some 21), .nilc (.t 11), none⟩, ⟨(some 22), .faddr 5 (.t 21), none⟩, ⟨none, .store 1 (.t 22) (.t 19), none⟩] [0, 1, 3, 7, 0, 16, 15, 0, 255, 511, 1023, 511, 2559, 6655]))))), []⟩
theorem c56 : compF Tryz.prog Tryz.f56 = some m56 := by kernel_rfl
/-- weirgate/weirgateref08.Name -/
def m57 : MFunc := ⟨33, (.seq (.reg [⟨(some 2), .mv (.c (.bool false)), none⟩])
 (.seq (.seq (.reg [⟨(some 4), .mv (.t 0), none⟩, ⟨(some 5), .lenS (.t 4), none⟩, ⟨(some 6), .bin .eql .no (.t 5) (.c (.int .i64 0)), none⟩, ⟨(some 7), .mv (.t 6), none⟩, ⟨(some 8), .mv (.t 0), (some (7, false))⟩, ⟨(some 9), .lenS (.t 8), (some (7, false))⟩, ⟨(some 10), .bin .gtr .no (.t 9) (.c (.int .i64 12)), (some (7, false))⟩, ⟨(some 11), .pick (.t 7) (.c (.bool true)) (.t 10), none⟩, ⟨(some 12), .mv (.t 11), none⟩, ⟨(some 13), .mv (.t 0), (some (12, false))⟩, ⟨(some 14), .index (.t 13) (.c (.int .i64 0)), (some (12, false))⟩, ⟨(some 15), .call (.c (.fn 20 [])) [(.t 14)], (some (12, false))⟩, ⟨(some 16), .un .not (.t 15), (some (12, false))⟩, ⟨(some 17), .pick (.t 12) (.c (.bool true)) (.t 16), none⟩, ⟨(some 18), .mv (.t 17), none⟩, ⟨(some 19), .mv (.t 0), (some (18, false))⟩, ⟨(some 20), .call (.c (.fn 54 [])) [(.t 19)], (some (18, false))⟩, ⟨(some 21), .pick (.t 18) (.c (.bool true)) (.t 20), none⟩])
 (.cond (.t 21)
   (.seq (.reg [⟨(some 2), .mv (.c (.bool false)), none⟩])
   .ret)
   .skip))
 (.seq (.seq (.reg [⟨(some 3), .mv (.c (.int .i64 0)), none⟩])
 (.block 0 (.loop (.seq (.seq (.reg [⟨(some 22), .mv (.t 3), none⟩, ⟨(some 23), .mv (.t 0), none⟩, ⟨(some 24), .lenS (.t 23), none⟩, ⟨(some 25), .bin .lss .no (.t 22) (.t 24), none⟩])
   (.cond (.t 25)
     .skip
     (.exit 0)))
   (.seq (.block 1 (.seq (.reg [⟨(some 28), .mv (.t 0), none⟩, ⟨(some 29), .mv (.t 3), none⟩, ⟨(some 30), .index (.t 28) (.t 29), none⟩, ⟨(some 31), .call (.c (.fn 21 [])) [(.t 30)], none⟩, ⟨(some 32), .un .not (.t 31), none⟩])
    (.cond (.t 32)
      (.seq (.reg [⟨(some 2), .mv (.c (.bool false)), none⟩])
      .ret)
      .skip)))
   (.reg [⟨(some 26), .mv (.t 3), none⟩, ⟨(some 27), .bin .add .no (.t 26) (.c (.int .i64 1)), none⟩, ⟨(some 3), .mv (.t 27), none⟩]))))))
 (.seq (.reg [⟨(some 2), .mv (.c (.bool true)), none⟩])
 .ret)))), [.tmp 2]⟩
theorem c57 : compF Tryz.prog Tryz.f57 = some m57 := by kernel_rfl
/-- (*weirgate/weirgateref09.P).bad -/
def m58 : MFunc := ⟨14, (.seq (.reg [⟨(some 4), .mv (.t 0), none⟩, ⟨(some 5), .call (.c (.fn 24 [])) [(.t 4)], none⟩])
 (.cond (.t 5)
   (.reg [⟨(some 6), .mv (.t 0), none⟩, ⟨(some 7), .mv (.t 1), none⟩, ⟨(some 8), .mv (.t 0), none⟩, ⟨(some 9), .call (.c (.fn 25 [])) [(.t 8)], none⟩, ⟨(some 10), .field none 2 (.t 9), none⟩, ⟨(some 11), .build [(.int .i64 0), (.int .i64 0)] [(0, 1, (.t 7)), (1, 1, (.t 10))], none⟩, ⟨(some 12), .nilc (.t 6), none⟩, ⟨(some 13), .faddr 3 (.t 12), none⟩, ⟨none, .store 2 (.t 13) (.t 11), none⟩])
   .skip)), []⟩
theorem c58 : compF Tryz.prog Tryz.f58 = some m58 := by kernel_rfl
/-- (*weirgate/weirgateref09.P).and -/
def m59 : MFunc := ⟨13, (.seq (.reg [⟨(some 2), .alloc [(.int .i64 0), .nils, .nils, .nils, (.int .i64 0), .nils], none⟩])
 (.seq (.reg [⟨(some 4), .mv (.t 0), none⟩, ⟨(some 5), .call (.c (.fn 78 [])) [(.t 4)], none⟩, ⟨(some 3), .alloc [(.int .i64 0), .nils, .nils, .nils, (.int .i64 0), .nils], none⟩, ⟨none, .store 6 (.t 3) (.t 5), none⟩])
 (.seq (.block 0 (.loop (.seq (.seq (.reg [⟨(some 6), .mv (.t 0), none⟩, ⟨(some 7), .call (.c (.fn 36 [])) [(.t 6), (.c (.str [38, 38]))], none⟩])
   (.cond (.t 7)
     .skip
     (.exit 0)))
   (.block 1 (.draw [⟨(some 8), .load (some 6) (.t 3), none⟩, ⟨(some 9), .mv (.t 0), none⟩, ⟨(some 10), .call (.c (.fn 78 [])) [(.t 9)], none⟩, ⟨(some 11), .call (.c (.fn 60 [])) [(.c (.int .i64 1)), (.t 8), (.t 10)], none⟩, ⟨none, .store 6 (.t 3) (.t 11), none⟩] [0, 0, 2, 7, 15])))))
 (.seq (.reg [⟨(some 12), .load (some 6) (.t 3), none⟩, ⟨none, .store 6 (.t 2) (.t 12), none⟩])
 .ret)))), [.cell 2 (some 6)]⟩
theorem c59 : compF Tryz.prog Tryz.f59 = some m59 := by kernel_rfl
/-- weirgate/weirgateref09.bin -/
def m60 : MFunc := ⟨17, (.seq (.reg [⟨(some 4), .box 6 (.t 1), none⟩, ⟨(some 5), .box 6 (.t 2), none⟩, ⟨(some 6), .alloc [(.int .i64 0), .nils, .nils, .nils, (.int .i64 0), .nils], none⟩])
 (.seq (.reg [⟨(some 7), .mv (.t 0), none⟩, ⟨(some 8), .bslice 1 1 [(.int .i64 0)] [(0, 1, (.t 7))], none⟩, ⟨(some 9), .faddr 0 (.t 4), none⟩, ⟨(some 10), .faddr 4 (.t 9), none⟩, ⟨(some 11), .load none (.t 10), none⟩, ⟨(some 12), .build [(.int .i64 0), .nils, .nils, .nils, (.int .i64 0)] [(0, 1, (.c (.int .i64 22))), (2, 1, (.t 8)), (4, 1, (.t 11))], none⟩, ⟨(some 13), .load (some 6) (.t 4), none⟩, ⟨(some 14), .load (some 6) (.t 5), none⟩, ⟨(some 15), .bslice 6 2 [(.int .i64 0), .nils, .nils, .nils, (.int .i64 0), .nils] [(0, 6, (.t 13)), (6, 6, (.t 14))], none⟩, ⟨(some 16), .build [(.int .i64 0), .nils, .nils, .nils, (.int .i64 0), .nils] [(0, 5, (.t 12)), (5, 1, (.t 15))], none⟩, ⟨none, .store 6 (.t 6) (.t 16), none⟩])
 .ret)), [.cell 6 (some 6)]⟩
theorem c60 : compF Tryz.prog Tryz.f60 = some m60 := by kernel_rfl
/-- slices.IndexFunc[[]weirgate/api.Node,weirgate/api.Node] -/
def m61 : MFunc := ⟨19, (.seq (.reg [⟨(some 4), .mv (.c (.int .i64 0)), none⟩])
 (.seq (.seq (.reg [⟨(some 6), .mv (.t 0), none⟩, ⟨(some 7), .len (.t 6), none⟩, ⟨(some 8), .mv (.c (.int .i64 0)), none⟩])
 (.block 0 (.loop (.seq (.reg [⟨(some 9), .bin .lss .no (.t 8) (.t 7), none⟩])
   (.seq (.cond (.t 9)
     .skip
     (.exit 0))
   (.seq (.block 1 (.seq (.reg [⟨(some 10), .mv (.t 8), none⟩, ⟨(some 5), .mv (.t 10), none⟩])
    (.seq (.reg [⟨(some 11), .mv (.t 1), none⟩, ⟨(some 12), .mv (.t 0), none⟩, ⟨(some 13), .mv (.t 5), none⟩, ⟨(some 14), .iaddr 5 (.t 12) (.t 13), none⟩, ⟨(some 15), .load (some 5) (.t 14), none⟩, ⟨(some 16), .call (.t 11) [(.t 15)], none⟩])
    (.cond (.t 16)
      (.seq (.reg [⟨(some 17), .mv (.t 5), none⟩, ⟨(some 4), .mv (.t 17), none⟩])
      .ret)
      .skip))))
   (.reg [⟨(some 18), .bin .add .no (.t 8) (.c (.int .i64 1)), none⟩, ⟨(some 8), .mv (.t 18), none⟩])))))))
 (.seq (.reg [⟨(some 4), .mv (.c (.int .i64 (-1))), none⟩])
 .ret))), [.tmp 4]⟩
theorem c61 : compF Tryz.prog Tryz.f61 = some m61 := by kernel_rfl
/-- weirgate/parse.shape$1 -/
def m62 : MFunc := ⟨7, (.seq (.reg [⟨(some 3), .mv (.c (.bool false)), none⟩])
 (.seq (.reg [⟨(some 4), .load none (.t 1), none⟩, ⟨(some 5), .mv (.t 0), none⟩, ⟨(some 6), .call (.c (.fn 63 [])) [(.t 4), (.t 5)], none⟩, ⟨(some 3), .mv (.t 6), none⟩])
 .ret)), [.tmp 3]⟩
theorem c62 : compF Tryz.prog Tryz.f62 = some m62 := by kernel_rfl
/-- slices.Equal[[]weirgate/parse.sort,weirgate/parse.sort] -/
def m63 : MFunc := ⟨26, (.seq (.reg [⟨(some 4), .mv (.c (.bool false)), none⟩])
 (.seq (.seq (.reg [⟨(some 6), .mv (.t 0), none⟩, ⟨(some 7), .len (.t 6), none⟩, ⟨(some 8), .mv (.t 1), none⟩, ⟨(some 9), .len (.t 8), none⟩, ⟨(some 10), .bin .neq .no (.t 7) (.t 9), none⟩])
 (.cond (.t 10)
   (.seq (.reg [⟨(some 4), .mv (.c (.bool false)), none⟩])
   .ret)
   .skip))
 (.seq (.seq (.reg [⟨(some 11), .mv (.t 0), none⟩, ⟨(some 12), .len (.t 11), none⟩, ⟨(some 13), .mv (.c (.int .i64 0)), none⟩])
 (.block 0 (.loop (.seq (.reg [⟨(some 14), .bin .lss .no (.t 13) (.t 12), none⟩])
   (.seq (.cond (.t 14)
     .skip
     (.exit 0))
   (.seq (.block 1 (.seq (.reg [⟨(some 15), .mv (.t 13), none⟩, ⟨(some 5), .mv (.t 15), none⟩])
    (.seq (.draw [⟨(some 16), .mv (.t 0), none⟩, ⟨(some 17), .mv (.t 5), none⟩, ⟨(some 18), .iaddr 1 (.t 16) (.t 17), none⟩, ⟨(some 19), .load none (.t 18), none⟩, ⟨(some 20), .mv (.t 1), none⟩, ⟨(some 21), .mv (.t 5), none⟩, ⟨(some 22), .iaddr 1 (.t 20) (.t 21), none⟩, ⟨(some 23), .load none (.t 22), none⟩, ⟨(some 24), .bin .neq .no (.t 19) (.t 23), none⟩] [0, 0, 3, 7, 0, 0, 48, 112, 255])
    (.cond (.t 24)
      (.seq (.reg [⟨(some 4), .mv (.c (.bool false)), none⟩])
      .ret)
      .skip))))
   (.reg [⟨(some 25), .bin .add .no (.t 13) (.c (.int .i64 1)), none⟩, ⟨(some 13), .mv (.t 25), none⟩])))))))
 (.seq (.reg [⟨(some 4), .mv (.c (.bool true)), none⟩])
 .ret)))), [.tmp 4]⟩
theorem c63 : compF Tryz.prog Tryz.f63 = some m63 := by kernel_rfl
/-- weirgate/parse.only -/
def m64 : MFunc := ⟨9, (.seq (.reg [⟨(some 3), .box 1 (.t 1), none⟩, ⟨(some 4), .mv (.c (.bool false)), none⟩])
 (.seq (.reg [⟨(some 5), .mv (.t 0), none⟩, ⟨(some 6), .mkfn 80 [(.t 3)], none⟩, ⟨(some 7), .call (.c (.fn 79 [])) [(.t 5), (.t 6)], none⟩, ⟨(some 8), .un .not (.t 7), none⟩, ⟨(some 4), .mv (.t 8), none⟩])
 .ret)), [.tmp 4]⟩
theorem c64 : compF Tryz.prog Tryz.f64 = some m64 := by kernel_rfl
/-- weirgate/parse.between -/
def m65 : MFunc := ⟨30, (.seq (.reg [⟨(some 4), .mv (.c (.bool false)), none⟩])
 (.seq (.seq (.reg [⟨(some 7), .mv (.t 0), none⟩, ⟨(some 8), .len (.t 7), none⟩, ⟨(some 9), .mv (.t 1), none⟩, ⟨(some 10), .len (.t 9), none⟩, ⟨(some 11), .bin .neq .no (.t 8) (.t 10), none⟩])
 (.cond (.t 11)
   (.seq (.reg [⟨(some 4), .mv (.c (.bool false)), none⟩])
   .ret)
   .skip))
 (.seq (.seq (.reg [⟨(some 12), .mv (.t 0), none⟩, ⟨(some 13), .len (.t 12), none⟩, ⟨(some 14), .mv (.c (.int .i64 0)), none⟩])
 (.block 0 (.loop (.seq (.reg [⟨(some 15), .bin .lss .no (.t 14) (.t 13), none⟩])
   (.seq (.cond (.t 15)
     .skip
     (.exit 0))
   (.seq (.block 1 (.seq (.reg [⟨(some 16), .mv (.t 14), none⟩, ⟨(some 17), .iaddr 1 (.t 12) (.t 14), none⟩, ⟨(some 18), .load none (.t 17), none⟩, ⟨(some 5), .mv (.t 16), none⟩, ⟨(some 6), .mv (.t 18), none⟩])
    (.seq (.reg [⟨(some 19), .mv (.t 6), none⟩, ⟨(some 20), .bin .lss .no (.t 19) (.c (.int .i64 0)), none⟩, ⟨(some 21), .mv (.t 20), none⟩, ⟨(some 22), .mv (.t 6), (some (21, false))⟩, ⟨(some 23), .mv (.t 1), (some (21, false))⟩, ⟨(some 24), .mv (.t 5), (some (21, false))⟩, ⟨(some 25), .iaddr 1 (.t 23) (.t 24), (some (21, false))⟩, ⟨(some 26), .load none (.t 25), (some (21, false))⟩, ⟨(some 27), .bin .gtr .no (.t 22) (.t 26), (some (21, false))⟩, ⟨(some 28), .pick (.t 21) (.c (.bool true)) (.t 27), none⟩])
    (.cond (.t 28)
      (.seq (.reg [⟨(some 4), .mv (.c (.bool false)), none⟩])
      .ret)
      .skip))))
   (.reg [⟨(some 29), .bin .add .no (.t 14) (.c (.int .i64 1)), none⟩, ⟨(some 14), .mv (.t 29), none⟩])))))))
 (.seq (.reg [⟨(some 4), .mv (.c (.bool true)), none⟩])
 .ret)))), [.tmp 4]⟩
theorem c65 : compF Tryz.prog Tryz.f65 = some m65 := by kernel_rfl
/-- weirgate/parse.process -/
def m66 : MFunc := ⟨22, (.seq (.reg [⟨(some 2), .mv (.c (.bool false)), none⟩])
 (.seq (.reg [⟨(some 3), .mv (.c (.int .i64 0)), none⟩])
 (.seq (.block 0 (.loop (.seq (.seq (.reg [⟨(some 4), .mv (.t 3), none⟩, ⟨(some 5), .mv (.t 0), none⟩, ⟨(some 6), .len (.t 5), none⟩, ⟨(some 7), .bin .lss .no (.t 4) (.t 6), none⟩, ⟨(some 8), .mv (.t 7), none⟩, ⟨(some 9), .mv (.t 0), (some (8, true))⟩, ⟨(some 10), .mv (.t 3), (some (8, true))⟩, ⟨(some 11), .iaddr 1 (.t 9) (.t 10), (some (8, true))⟩, ⟨(some 12), .load none (.t 11), (some (8, true))⟩, ⟨(some 13), .bin .eql .no (.t 12) (.c (.int .i64 5)), (some (8, true))⟩, ⟨(some 14), .pick (.t 8) (.t 13) (.c (.bool false)), none⟩])
   (.cond (.t 14)
     .skip
     (.exit 0)))
   (.block 1 (.reg [⟨(some 15), .mv (.t 3), none⟩, ⟨(some 16), .bin .add .no (.t 15) (.c (.int .i64 1)), none⟩, ⟨(some 3), .mv (.t 16), none⟩])))))
 (.seq (.reg [⟨(some 17), .mv (.t 0), none⟩, ⟨(some 18), .mv (.t 3), none⟩, ⟨(some 19), .cut 1 (.t 17) (some (.t 18)) none none, none⟩, ⟨(some 20), .bslice 1 1 [(.int .i64 0)] [(0, 1, (.c (.int .i64 2)))], none⟩, ⟨(some 21), .call (.c (.fn 64 [])) [(.t 19), (.t 20)], none⟩, ⟨(some 2), .mv (.t 21), none⟩])
 .ret)))), [.tmp 2]⟩
theorem c66 : compF Tryz.prog Tryz.f66 = some m66 := by kernel_rfl
/-- slices.ContainsFunc[[]string,string] -/
def m67 : MFunc := ⟨9, (.seq (.reg [⟨(some 4), .mv (.c (.bool false)), none⟩])
 (.seq (.reg [⟨(some 5), .mv (.t 0), none⟩, ⟨(some 6), .mv (.t 1), none⟩, ⟨(some 7), .call (.c (.fn 82 [])) [(.t 5), (.t 6)], none⟩, ⟨(some 8), .bin .geq .no (.t 7) (.c (.int .i64 0)), none⟩, ⟨(some 4), .mv (.t 8), none⟩])
 .ret)), [.tmp 4]⟩
theorem c67 : compF Tryz.prog Tryz.f67 = some m67 := by kernel_rfl
/-- weirgate/parse.shape$2 -/
def m68 : MFunc := ⟨6, (.seq (.reg [⟨(some 2), .mv (.c (.bool false)), none⟩])
 (.seq (.reg [⟨(some 3), .mv (.t 0), none⟩, ⟨(some 4), .call (.c (.fn 69 [])) [(.t 3)], none⟩, ⟨(some 5), .un .not (.t 4), none⟩, ⟨(some 2), .mv (.t 5), none⟩])
 .ret)), [.tmp 2]⟩
theorem c68 : compF Tryz.prog Tryz.f68 = some m68 := by kernel_rfl
/-- weirgate/lex.Name -/
def m69 : MFunc := ⟨29, (.seq (.reg [⟨(some 2), .mv (.c (.bool false)), none⟩])
 (.seq (.reg [⟨(some 3), .mv (.t 0), none⟩, ⟨(some 4), .bin .neq .no (.t 3) (.c (.str [])), none⟩, ⟨(some 5), .mv (.t 4), none⟩, ⟨(some 6), .mv (.t 0), (some (5, true))⟩, ⟨(some 7), .lenS (.t 6), (some (5, true))⟩, ⟨(some 8), .bin .leq .no (.t 7) (.c (.int .i64 12)), (some (5, true))⟩, ⟨(some 9), .pick (.t 5) (.t 8) (.c (.bool false)), none⟩, ⟨(some 10), .mv (.t 9), none⟩, ⟨(some 11), .mv (.t 0), (some (10, true))⟩, ⟨(some 12), .index (.t 11) (.c (.int .i64 0)), (some (10, true))⟩, ⟨(some 13), .call (.c (.fn 83 [])) [(.t 12)], (some (10, true))⟩, ⟨(some 14), .bin .eql .no (.t 13) (.c (.int .i64 2)), (some (10, true))⟩, ⟨(some 15), .pick (.t 10) (.t 14) (.c (.bool false)), none⟩, ⟨(some 16), .mv (.t 15), none⟩, ⟨(some 17), .mv (.t 0), (some (16, true))⟩, ⟨(some 18), .bslice 1 3 [(.int .i64 0)] [(0, 1, (.c (.int .i64 2))), (1, 1, (.c (.int .i64 3))), (2, 1, (.c (.int .i64 4)))], (some (16, true))⟩, ⟨(some 19), .call (.c (.fn 84 [])) [(.t 17), (.c (.int .i64 0)), (.t 18)], (some (16, true))⟩, ⟨(some 20), .mv (.t 0), (some (16, true))⟩, ⟨(some 21), .lenS (.t 20), (some (16, true))⟩, ⟨(some 22), .bin .eql .no (.t 19) (.t 21), (some (16, true))⟩, ⟨(some 23), .pick (.t 16) (.t 22) (.c (.bool false)), none⟩, ⟨(some 24), .mv (.t 23), none⟩, ⟨(some 25), .mv (.t 0), (some (24, true))⟩, ⟨(some 26), .call (.c (.fn 85 [])) [(.t 25)], (some (24, true))⟩, ⟨(some 27), .un .not (.t 26), (some (24, true))⟩, ⟨(some 28), .pick (.t 24) (.t 27) (.c (.bool false)), none⟩, ⟨(some 2), .mv (.t 28), none⟩])
 .ret)), [.tmp 2]⟩
theorem c69 : compF Tryz.prog Tryz.f69 = some m69 := by kernel_rfl
/-- weirgate/parse.sortOf -/
def m70 : MFunc := ⟨30, (.seq (.reg [⟨(some 2), .mv (.c (.int .i64 0)), none⟩])
 (.seq (.block 0 (.seq (.reg [⟨(some 4), .mv (.t 0), none⟩, ⟨(some 5), .bin .eql .no (.t 4) (.c (.int .i64 2)), none⟩, ⟨(some 3), .mv (.t 5), none⟩])
  (.cond (.t 3)
    (.seq (.reg [⟨(some 2), .mv (.c (.int .i64 5)), none⟩])
    .ret)
    (.seq (.reg [⟨(some 7), .mv (.t 0), none⟩, ⟨(some 8), .bin .geq .no (.t 7) (.c (.int .i64 1)), none⟩, ⟨(some 9), .mv (.t 8), none⟩, ⟨(some 10), .mv (.t 0), (some (9, true))⟩, ⟨(some 11), .bin .leq .no (.t 10) (.c (.int .i64 5)), (some (9, true))⟩, ⟨(some 12), .pick (.t 9) (.t 11) (.c (.bool false)), none⟩, ⟨(some 6), .mv (.t 12), none⟩])
    (.cond (.t 6)
      (.seq (.reg [⟨(some 2), .mv (.c (.int .i64 1)), none⟩])
      .ret)
      (.seq (.reg [⟨(some 14), .mv (.t 0), none⟩, ⟨(some 15), .bin .geq .no (.t 14) (.c (.int .i64 6)), none⟩, ⟨(some 16), .mv (.t 15), none⟩, ⟨(some 17), .mv (.t 0), (some (16, true))⟩, ⟨(some 18), .bin .leq .no (.t 17) (.c (.int .i64 15)), (some (16, true))⟩, ⟨(some 19), .pick (.t 16) (.t 18) (.c (.bool false)), none⟩, ⟨(some 13), .mv (.t 19), none⟩])
      (.cond (.t 13)
        (.seq (.reg [⟨(some 2), .mv (.c (.int .i64 2)), none⟩])
        .ret)
        (.seq (.reg [⟨(some 21), .mv (.t 0), none⟩, ⟨(some 22), .bin .eql .no (.t 21) (.c (.int .i64 16)), none⟩, ⟨(some 20), .mv (.t 22), none⟩])
        (.cond (.t 20)
          (.seq (.reg [⟨(some 2), .mv (.c (.int .i64 4)), none⟩])
          .ret)
          (.seq (.reg [⟨(some 24), .mv (.t 0), none⟩, ⟨(some 25), .bin .geq .no (.t 24) (.c (.int .i64 17)), none⟩, ⟨(some 26), .mv (.t 25), none⟩, ⟨(some 27), .mv (.t 0), (some (26, true))⟩, ⟨(some 28), .bin .leq .no (.t 27) (.c (.int .i64 22)), (some (26, true))⟩, ⟨(some 29), .pick (.t 26) (.t 28) (.c (.bool false)), none⟩, ⟨(some 23), .mv (.t 29), none⟩])
          (.cond (.t 23)
            (.seq (.reg [⟨(some 2), .mv (.c (.int .i64 3)), none⟩])
            .ret)
            .skip)))))))))))
 (.seq (.reg [⟨(some 2), .mv (.c (.int .i64 0)), none⟩])
 .ret))), [.tmp 2]⟩
theorem c70 : compF Tryz.prog Tryz.f70 = some m70 := by kernel_rfl
/-- (*weirgate/scope.walker).put -/
def m71 : MFunc := ⟨34, (.seq (.reg [⟨(some 4), .box 5 (.t 1), none⟩])
 (.seq (.reg [⟨(some 7), .faddr 1 (.t 4), none⟩, ⟨(some 8), .load none (.t 7), none⟩, ⟨(some 9), .iaddr 1 (.t 8) (.c (.int .i64 0)), none⟩, ⟨(some 10), .load none (.t 9), none⟩, ⟨(some 6), .mv (.t 10), none⟩])
 (.seq (.seq (.reg [⟨(some 11), .mv (.t 0), none⟩, ⟨(some 12), .nilc (.t 11), none⟩, ⟨(some 13), .faddr 1 (.t 12), none⟩, ⟨(some 14), .mv (.t 6), none⟩, ⟨(some 15), .call (.c (.fn 86 [])) [(.t 13), (.t 14)], none⟩])
 (.cond (.t 15)
   (.reg [⟨(some 16), .mv (.t 0), none⟩, ⟨(some 17), .load (some 5) (.t 4), none⟩, ⟨(some 18), .call (.c (.fn 87 [])) [(.t 16), (.t 17)], none⟩])
   .skip))
 (.seq (.reg [⟨(some 19), .mv (.t 2), none⟩, ⟨(some 20), .nilc (.t 19), none⟩, ⟨(some 21), .load none (.t 20), none⟩, ⟨(some 22), .mv (.t 6), none⟩, ⟨(some 23), .call (.c (.fn 88 [])) [(.t 21), (.t 22)], none⟩, ⟨(some 24), .un .not (.t 23), none⟩])
 (.cond (.t 24)
   (.reg [⟨(some 25), .mv (.t 2), none⟩, ⟨(some 26), .mv (.t 2), none⟩, ⟨(some 27), .nilc (.t 26), none⟩, ⟨(some 28), .load none (.t 27), none⟩, ⟨(some 29), .call (.c (.fn 89 [])) [(.t 28)], none⟩, ⟨(some 30), .mv (.t 6), none⟩, ⟨(some 31), .bslice 1 1 [(.str [])] [(0, 1, (.t 30))], none⟩, ⟨(some 32), .append 1 16 (.t 29) (.t 31), none⟩, ⟨(some 33), .nilc (.t 25), none⟩, ⟨none, .store 1 (.t 33) (.t 32), none⟩])
   .skip))))), []⟩
theorem c71 : compF Tryz.prog Tryz.f71 = some m71 := by kernel_rfl
/-- (*weirgate/scope.walker).kids -/
def m72 : MFunc := ⟨17, (.seq (.reg [⟨(some 3), .box 5 (.t 1), none⟩])
 (.seq (.reg [⟨(some 6), .faddr 3 (.t 3), none⟩, ⟨(some 7), .load none (.t 6), none⟩, ⟨(some 8), .len (.t 7), none⟩, ⟨(some 9), .mv (.c (.int .i64 0)), none⟩])
 (.block 0 (.loop (.seq (.reg [⟨(some 10), .bin .lss .no (.t 9) (.t 8), none⟩])
   (.seq (.cond (.t 10)
     .skip
     (.exit 0))
   (.seq (.block 1 (.seq (.reg [⟨(some 11), .iaddr 1 (.t 7) (.t 9), none⟩, ⟨(some 12), .load none (.t 11), none⟩, ⟨(some 5), .mv (.t 12), none⟩])
    (.reg [⟨(some 13), .mv (.t 0), none⟩, ⟨(some 14), .mv (.t 5), none⟩, ⟨(some 15), .call (.c (.fn 47 [])) [(.t 13), (.t 14)], none⟩])))
   (.reg [⟨(some 16), .bin .add .no (.t 9) (.c (.int .i64 1)), none⟩, ⟨(some 9), .mv (.t 16), none⟩])))))))), []⟩
theorem c72 : compF Tryz.prog Tryz.f72 = some m72 := by kernel_rfl
/-- (*weirgate/scope.walker).uses -/
def m73 : MFunc := ⟨15, (.seq (.reg [⟨(some 5), .box 5 (.t 1), none⟩])
 (.seq (.reg [⟨(some 8), .mv (.t 3), none⟩, ⟨(some 9), .mv (.t 2), none⟩, ⟨(some 10), .call (.c (.fn 88 [])) [(.t 8), (.t 9)], none⟩, ⟨(some 11), .un .not (.t 10), none⟩])
 (.cond (.t 11)
   (.reg [⟨(some 12), .mv (.t 0), none⟩, ⟨(some 13), .load (some 5) (.t 5), none⟩, ⟨(some 14), .call (.c (.fn 87 [])) [(.t 12), (.t 13)], none⟩])
   .skip))), []⟩
theorem c73 : compF Tryz.prog Tryz.f73 = some m73 := by kernel_rfl
/-- weirgate/typing.from -/
def m74 : MFunc := ⟨15, (.seq (.reg [⟨(some 6), .mv (.c (.bool false)), none⟩])
 (.seq (.reg [⟨(some 7), .mv (.t 0), none⟩, ⟨(some 8), .mv (.t 1), none⟩, ⟨(some 9), .bin .geq .no (.t 7) (.t 8), none⟩, ⟨(some 10), .mv (.t 9), none⟩, ⟨(some 11), .mv (.t 0), (some (10, true))⟩, ⟨(some 12), .mv (.t 2), (some (10, true))⟩, ⟨(some 13), .bin .leq .no (.t 11) (.t 12), (some (10, true))⟩, ⟨(some 14), .pick (.t 10) (.t 13) (.c (.bool false)), none⟩, ⟨(some 6), .mv (.t 14), none⟩])
 .ret)), [.tmp 6]⟩
theorem c74 : compF Tryz.prog Tryz.f74 = some m74 := by kernel_rfl
/-- weirgate/bits.Trim -/
def m75 : MFunc := ⟨22, (.seq (.reg [⟨(some 4), .mv (.c (.int .i64 0)), none⟩])
 (.seq (.reg [⟨(some 5), .mv (.t 1), none⟩, ⟨(some 6), .call (.c (.fn 90 [])) [(.t 5)], none⟩, ⟨(some 1), .mv (.t 6), none⟩])
 (.seq (.reg [⟨(some 7), .mv (.t 0), none⟩, ⟨(some 8), .mv (.t 1), none⟩, ⟨(some 9), .bin .shl .no (.c (.int .i64 1)) (.t 8), none⟩, ⟨(some 10), .bin .sub .no (.t 9) (.c (.int .i64 1)), none⟩, ⟨(some 11), .bin .and .no (.t 7) (.t 10), none⟩, ⟨(some 0), .mv (.t 11), none⟩])
 (.seq (.seq (.reg [⟨(some 12), .mv (.t 0), none⟩, ⟨(some 13), .mv (.t 1), none⟩, ⟨(some 14), .bin .sub .no (.t 13) (.c (.int .i64 1)), none⟩, ⟨(some 15), .bin .shr .no (.t 12) (.t 14), none⟩, ⟨(some 16), .bin .eql .no (.t 15) (.c (.int .i64 1)), none⟩])
 (.cond (.t 16)
   (.reg [⟨(some 17), .mv (.t 0), none⟩, ⟨(some 18), .mv (.t 1), none⟩, ⟨(some 19), .bin .shl .no (.c (.int .i64 1)) (.t 18), none⟩, ⟨(some 20), .bin .sub .no (.t 17) (.t 19), none⟩, ⟨(some 0), .mv (.t 20), none⟩])
   .skip))
 (.seq (.reg [⟨(some 21), .mv (.t 0), none⟩, ⟨(some 4), .mv (.t 21), none⟩])
 .ret))))), [.tmp 4]⟩
theorem c75 : compF Tryz.prog Tryz.f75 = some m75 := by kernel_rfl
/-- internal/stringslite.Index -/
def m76 : MFunc := ⟨143, (.seq (.reg [⟨(some 4), .mv (.c (.int .i64 0)), none⟩])
 (.seq (.reg [⟨(some 14), .mv (.t 1), none⟩, ⟨(some 15), .lenS (.t 14), none⟩, ⟨(some 5), .mv (.t 15), none⟩])
 (.seq (.block 0 (.seq (.reg [⟨(some 17), .mv (.t 5), none⟩, ⟨(some 18), .bin .eql .no (.t 17) (.c (.int .i64 0)), none⟩, ⟨(some 19), .mv (.t 18), none⟩, ⟨(some 20), .mv (.t 1), (some (19, false))⟩, ⟨(some 21), .mv (.t 0), (some (19, false))⟩, ⟨(some 22), .bin .eql .no (.t 20) (.t 21), (some (19, false))⟩, ⟨(some 23), .pick (.t 19) (.c (.bool true)) (.t 22), none⟩, ⟨(some 16), .mv (.t 23), none⟩])
  (.cond (.t 16)
    (.seq (.reg [⟨(some 4), .mv (.c (.int .i64 0)), none⟩])
    .ret)
    (.seq (.reg [⟨(some 25), .mv (.t 5), none⟩, ⟨(some 26), .bin .eql .no (.t 25) (.c (.int .i64 1)), none⟩, ⟨(some 24), .mv (.t 26), none⟩])
    (.cond (.t 24)
      (.seq (.reg [⟨(some 27), .mv (.t 0), none⟩, ⟨(some 28), .mv (.t 1), none⟩, ⟨(some 29), .index (.t 28) (.c (.int .i64 0)), none⟩, ⟨(some 30), .call (.c (.fn 91 [])) [(.t 27), (.t 29)], none⟩, ⟨(some 4), .mv (.t 30), none⟩])
      .ret)
      (.seq (.reg [⟨(some 32), .mv (.t 5), none⟩, ⟨(some 33), .mv (.t 0), none⟩, ⟨(some 34), .lenS (.t 33), none⟩, ⟨(some 35), .bin .geq .no (.t 32) (.t 34), none⟩, ⟨(some 31), .mv (.t 35), none⟩])
      (.cond (.t 31)
        (.seq (.reg [⟨(some 4), .mv (.c (.int .i64 (-1))), none⟩])
        .ret)
        (.seq (.reg [⟨(some 37), .mv (.t 5), none⟩, ⟨(some 38), .load none (.g 0), none⟩, ⟨(some 39), .bin .leq .no (.t 37) (.t 38), none⟩, ⟨(some 40), .mv (.t 39), none⟩, ⟨(some 41), .mv (.t 0), (some (40, true))⟩, ⟨(some 42), .lenS (.t 41), (some (40, true))⟩, ⟨(some 43), .bin .leq .no (.t 42) (.c (.int .i64 64)), (some (40, true))⟩, ⟨(some 44), .pick (.t 40) (.t 43) (.c (.bool false)), none⟩, ⟨(some 36), .mv (.t 44), none⟩])
        (.cond (.t 36)
          (.seq (.reg [⟨(some 45), .mv (.t 0), none⟩, ⟨(some 46), .mv (.t 1), none⟩, ⟨(some 47), .call (.c (.fn 92 [])) [(.t 45), (.t 46)], none⟩, ⟨(some 4), .mv (.t 47), none⟩])
          .ret)
          .skip)))))))))
 (.seq (.reg [⟨(some 48), .mv (.t 1), none⟩, ⟨(some 49), .index (.t 48) (.c (.int .i64 0)), none⟩, ⟨(some 6), .mv (.t 49), none⟩])
 (.seq (.reg [⟨(some 50), .mv (.t 1), none⟩, ⟨(some 51), .index (.t 50) (.c (.int .i64 1)), none⟩, ⟨(some 7), .mv (.t 51), none⟩])
 (.seq (.reg [⟨(some 8), .mv (.c (.int .i64 0)), none⟩])
 (.seq (.reg [⟨(some 52), .mv (.t 0), none⟩, ⟨(some 53), .lenS (.t 52), none⟩, ⟨(some 54), .mv (.t 5), none⟩, ⟨(some 55), .bin .sub .no (.t 53) (.t 54), none⟩, ⟨(some 56), .bin .add .no (.t 55) (.c (.int .i64 1)), none⟩, ⟨(some 9), .mv (.t 56), none⟩])
 (.seq (.reg [⟨(some 10), .mv (.c (.int .i64 0)), none⟩])
 (.seq (.block 1 (.loop (.seq (.seq (.reg [⟨(some 57), .mv (.t 8), none⟩, ⟨(some 58), .mv (.t 9), none⟩, ⟨(some 59), .bin .lss .no (.t 57) (.t 58), none⟩])
   (.cond (.t 59)
     .skip
     (.exit 1)))
   (.block 2 (.seq (.seq (.reg [⟨(some 60), .mv (.t 0), none⟩, ⟨(some 61), .mv (.t 8), none⟩, ⟨(some 62), .index (.t 60) (.t 61), none⟩, ⟨(some 63), .mv (.t 6), none⟩, ⟨(some 64), .bin .neq .no (.t 62) (.t 63), none⟩])
    (.cond (.t 64)
      (.seq (.reg [⟨(some 65), .mv (.t 0), none⟩, ⟨(some 66), .mv (.t 8), none⟩, ⟨(some 67), .bin .add .no (.t 66) (.c (.int .i64 1)), none⟩, ⟨(some 68), .mv (.t 9), none⟩, ⟨(some 69), .cutS (.t 65) (some (.t 67)) (some (.t 68)), none⟩, ⟨(some 70), .mv (.t 6), none⟩, ⟨(some 71), .call (.c (.fn 91 [])) [(.t 69), (.t 70)], none⟩, ⟨(some 11), .mv (.t 71), none⟩])
      (.seq (.seq (.reg [⟨(some 72), .mv (.t 11), none⟩, ⟨(some 73), .bin .lss .no (.t 72) (.c (.int .i64 0)), none⟩])
      (.cond (.t 73)
        (.seq (.reg [⟨(some 4), .mv (.c (.int .i64 (-1))), none⟩])
        .ret)
        .skip))
      (.reg [⟨(some 74), .mv (.t 8), none⟩, ⟨(some 75), .mv (.t 11), none⟩, ⟨(some 76), .bin .add .no (.t 75) (.c (.int .i64 1)), none⟩, ⟨(some 77), .bin .add .no (.t 74) (.t 76), none⟩, ⟨(some 8), .mv (.t 77), none⟩])))
      .skip))
    (.seq (.seq (.reg [⟨(some 78), .mv (.t 0), none⟩, ⟨(some 79), .mv (.t 8), none⟩, ⟨(some 80), .bin .add .no (.t 79) (.c (.int .i64 1)), none⟩, ⟨(some 81), .index (.t 78) (.t 80), none⟩, ⟨(some 82), .mv (.t 7), none⟩, ⟨(some 83), .bin .eql .no (.t 81) (.t 82), none⟩, ⟨(some 84), .mv (.t 83), none⟩, ⟨(some 85), .mv (.t 0), (some (84, true))⟩, ⟨(some 86), .mv (.t 8), (some (84, true))⟩, ⟨(some 87), .mv (.t 8), (some (84, true))⟩, ⟨(some 88), .mv (.t 5), (some (84, true))⟩, ⟨(some 89), .bin .add .no (.t 87) (.t 88), (some (84, true))⟩, ⟨(some 90), .cutS (.t 85) (some (.t 86)) (some (.t 89)), (some (84, true))⟩, ⟨(some 91), .mv (.t 1), (some (84, true))⟩, ⟨(some 92), .bin .eql .no (.t 90) (.t 91), (some (84, true))⟩, ⟨(some 93), .pick (.t 84) (.t 92) (.c (.bool false)), none⟩])
    (.cond (.t 93)
      (.seq (.reg [⟨(some 94), .mv (.t 8), none⟩, ⟨(some 4), .mv (.t 94), none⟩])
      .ret)
      .skip))
    (.seq (.reg [⟨(some 95), .mv (.t 8), none⟩, ⟨(some 96), .bin .add .no (.t 95) (.c (.int .i64 1)), none⟩, ⟨(some 8), .mv (.t 96), none⟩])
    (.seq (.reg [⟨(some 97), .mv (.t 10), none⟩, ⟨(some 98), .bin .add .no (.t 97) (.c (.int .i64 1)), none⟩, ⟨(some 10), .mv (.t 98), none⟩])
    (.seq (.reg [⟨(some 99), .mv (.t 5), none⟩, ⟨(some 100), .load none (.g 0), none⟩, ⟨(some 101), .bin .leq .no (.t 99) (.t 100), none⟩, ⟨(some 102), .mv (.t 101), none⟩, ⟨(some 103), .mv (.t 10), (some (102, true))⟩, ⟨(some 104), .mv (.t 8), (some (102, true))⟩, ⟨(some 105), .call (.c (.fn 93 [])) [(.t 104)], (some (102, true))⟩, ⟨(some 106), .bin .gtr .no (.t 103) (.t 105), (some (102, true))⟩, ⟨(some 107), .pick (.t 102) (.t 106) (.c (.bool false)), none⟩])
    (.cond (.t 107)
      (.seq (.reg [⟨(some 108), .mv (.t 0), none⟩, ⟨(some 109), .mv (.t 8), none⟩, ⟨(some 110), .cutS (.t 108) (some (.t 109)) none, none⟩, ⟨(some 111), .mv (.t 1), none⟩, ⟨(some 112), .call (.c (.fn 92 [])) [(.t 110), (.t 111)], none⟩, ⟨(some 12), .mv (.t 112), none⟩])
      (.seq (.seq (.reg [⟨(some 113), .mv (.t 12), none⟩, ⟨(some 114), .bin .geq .no (.t 113) (.c (.int .i64 0)), none⟩])
      (.cond (.t 114)
        (.seq (.reg [⟨(some 115), .mv (.t 12), none⟩, ⟨(some 116), .mv (.t 8), none⟩, ⟨(some 117), .bin .add .no (.t 115) (.t 116), none⟩, ⟨(some 4), .mv (.t 117), none⟩])
        .ret)
        .skip))
      (.seq (.reg [⟨(some 4), .mv (.c (.int .i64 (-1))), none⟩])
      .ret)))
      (.seq (.reg [⟨(some 118), .mv (.t 5), none⟩, ⟨(some 119), .load none (.g 0), none⟩, ⟨(some 120), .bin .gtr .no (.t 118) (.t 119), none⟩, ⟨(some 121), .mv (.t 120), none⟩, ⟨(some 122), .mv (.t 10), (some (121, true))⟩, ⟨(some 123), .mv (.t 8), (some (121, true))⟩, ⟨(some 124), .bin .shr .no (.t 123) (.c (.int .u64 4)), (some (121, true))⟩, ⟨(some 125), .bin .add .no (.c (.int .i64 4)) (.t 124), (some (121, true))⟩, ⟨(some 126), .bin .geq .no (.t 122) (.t 125), (some (121, true))⟩, ⟨(some 127), .pick (.t 121) (.t 126) (.c (.bool false)), none⟩, ⟨(some 128), .mv (.t 127), none⟩, ⟨(some 129), .mv (.t 8), (some (128, true))⟩, ⟨(some 130), .mv (.t 9), (some (128, true))⟩, ⟨(some 131), .bin .lss .no (.t 129) (.t 130), (some (128, true))⟩, ⟨(some 132), .pick (.t 128) (.t 131) (.c (.bool false)), none⟩])
      (.cond (.t 132)
        (.seq (.reg [⟨(some 133), .mv (.t 0), none⟩, ⟨(some 134), .mv (.t 8), none⟩, ⟨(some 135), .cutS (.t 133) (some (.t 134)) none, none⟩, ⟨(some 136), .mv (.t 1), none⟩, ⟨(some 137), .call (.c (.fn 94 [])) [(.t 135), (.t 136)], none⟩, ⟨(some 13), .mv (.t 137), none⟩])
        (.seq (.seq (.reg [⟨(some 138), .mv (.t 13), none⟩, ⟨(some 139), .bin .lss .no (.t 138) (.c (.int .i64 0)), none⟩])
        (.cond (.t 139)
          (.seq (.reg [⟨(some 4), .mv (.c (.int .i64 (-1))), none⟩])
          .ret)
          .skip))
        (.seq (.reg [⟨(some 140), .mv (.t 8), none⟩, ⟨(some 141), .mv (.t 13), none⟩, ⟨(some 142), .bin .add .no (.t 140) (.t 141), none⟩, ⟨(some 4), .mv (.t 142), none⟩])
        .ret)))
        .skip))))))))))))
 (.seq (.reg [⟨(some 4), .mv (.c (.int .i64 (-1))), none⟩])
 .ret)))))))))), [.tmp 4]⟩
theorem c76 : compF Tryz.prog Tryz.f76 = some m76 := by kernel_rfl
/-- (*weirgate/weirgateref09.P).stat -/
def m77 : MFunc := ⟨163, (.seq (.reg [⟨(some 2), .alloc [(.int .i64 0), .nils, .nils, .nils, (.int .i64 0), .nils], none⟩])
 (.seq (.reg [⟨(some 5), .mv (.t 0), none⟩, ⟨(some 6), .call (.c (.fn 23 [])) [(.t 5), (.c (.int .i64 6))], none⟩, ⟨(some 3), .alloc [(.int .i64 0), .nils, .nils, .nils, (.int .i64 0), .nils], none⟩, ⟨none, .store 6 (.t 3) (.t 6), none⟩])
 (.seq (.reg [⟨(some 7), .mv (.t 0), none⟩, ⟨(some 8), .call (.c (.fn 40 [])) [(.t 7), (.c (.str [105, 100, 108, 101]))], none⟩, ⟨(some 4), .mv (.t 8), none⟩])
 (.seq (.seq (.reg [⟨(some 9), .mv (.t 4), none⟩, ⟨(some 10), .bin .eql .no (.t 9) (.c (.int .i64 1)), none⟩, ⟨(some 11), .mv (.t 10), none⟩, ⟨(some 12), .mv (.t 0), (some (11, false))⟩, ⟨(some 13), .call (.c (.fn 33 [])) [(.t 12), (.c (.str [114, 101, 99, 118]))], (some (11, false))⟩, ⟨(some 14), .pick (.t 11) (.c (.bool true)) (.t 13), none⟩, ⟨(some 15), .mv (.t 14), none⟩, ⟨(some 16), .mv (.t 0), (some (15, false))⟩, ⟨(some 17), .call (.c (.fn 33 [])) [(.t 16), (.c (.str [119, 104, 101, 110]))], (some (15, false))⟩, ⟨(some 18), .pick (.t 15) (.c (.bool true)) (.t 17), none⟩, ⟨(some 19), .mv (.t 18), none⟩, ⟨(some 20), .mv (.t 0), (some (19, false))⟩, ⟨(some 21), .call (.c (.fn 33 [])) [(.t 20), (.c (.str [99, 104, 111, 111, 115, 101]))], (some (19, false))⟩, ⟨(some 22), .pick (.t 19) (.c (.bool true)) (.t 21), none⟩])
 (.cond (.t 22)
   (.seq (.reg [⟨(some 23), .mv (.t 4), none⟩, ⟨(some 24), .bslice 1 1 [(.int .i64 0)] [(0, 1, (.t 23))], none⟩, ⟨(some 25), .faddr 0 (.t 3), none⟩, ⟨(some 26), .faddr 2 (.t 25), none⟩, ⟨none, .store 1 (.t 26) (.t 24), none⟩])
   (.seq (.reg [⟨(some 27), .mv (.t 0), none⟩, ⟨(some 28), .call (.c (.fn 95 [])) [(.t 27), (.t 3)], none⟩])
   (.seq (.reg [⟨(some 29), .load (some 6) (.t 3), none⟩, ⟨none, .store 6 (.t 2) (.t 29), none⟩])
   .ret)))
   .skip))
 (.seq (.block 0 (.seq (.reg [⟨(some 53), .mv (.t 0), none⟩, ⟨(some 54), .call (.c (.fn 36 [])) [(.t 53), (.c (.str [115, 101, 110, 100]))], none⟩, ⟨(some 52), .mv (.t 54), none⟩])
  (.cond (.t 52)
    (.seq (.reg [⟨(some 55), .faddr 0 (.t 3), none⟩, ⟨(some 56), .faddr 0 (.t 55), none⟩, ⟨none, .store 1 (.t 56) (.c (.int .i64 7)), none⟩])
    (.seq (.draw [⟨(some 57), .faddr 0 (.t 3), none⟩, ⟨(some 58), .faddr 1 (.t 57), none⟩, ⟨(some 59), .load none (.t 58), none⟩, ⟨(some 60), .mv (.t 0), none⟩, ⟨(some 61), .call (.c (.fn 37 [])) [(.t 60)], none⟩, ⟨(some 62), .bslice 1 1 [(.str [])] [(0, 1, (.t 61))], none⟩, ⟨(some 63), .append 1 16 (.t 59) (.t 62), none⟩, ⟨(some 64), .faddr 0 (.t 3), none⟩, ⟨(some 65), .faddr 1 (.t 64), none⟩, ⟨none, .store 1 (.t 65) (.t 63), none⟩] [0, 1, 3, 0, 8, 24, 63, 127, 255, 511])
    (.seq (.draw [⟨(some 66), .faddr 5 (.t 3), none⟩, ⟨(some 67), .load none (.t 66), none⟩, ⟨(some 68), .mv (.t 0), none⟩, ⟨(some 69), .call (.c (.fn 41 [])) [(.t 68)], none⟩, ⟨(some 70), .len (.t 67), none⟩, ⟨(some 71), .bslice 6 1 [(.int .i64 0), .nils, .nils, .nils, (.int .i64 0), .nils] [(0, 6, (.c (.agg [(.int .i64 0), .nils, .nils, .nils, (.int .i64 0), .nils])))], none⟩, ⟨(some 72), .append 6 112 (.t 67) (.t 71), none⟩, ⟨(some 73), .iaddr 6 (.t 72) (.t 70), none⟩, ⟨none, .store 6 (.t 73) (.t 69), none⟩, ⟨(some 74), .faddr 5 (.t 3), none⟩, ⟨none, .store 1 (.t 74) (.t 72), none⟩] [0, 1, 0, 4, 3, 0, 63, 127, 255, 127, 639])
    (.reg [⟨(some 75), .mv (.t 0), none⟩, ⟨(some 76), .call (.c (.fn 38 [])) [(.t 75), (.c (.str [59]))], none⟩]))))
    (.seq (.reg [⟨(some 78), .mv (.t 0), none⟩, ⟨(some 79), .call (.c (.fn 36 [])) [(.t 78), (.c (.str [105, 102]))], none⟩, ⟨(some 77), .mv (.t 79), none⟩])
    (.cond (.t 77)
      (.seq (.reg [⟨(some 80), .faddr 0 (.t 3), none⟩, ⟨(some 81), .faddr 0 (.t 80), none⟩, ⟨none, .store 1 (.t 81) (.c (.int .i64 11)), none⟩])
      (.seq (.draw [⟨(some 82), .faddr 5 (.t 3), none⟩, ⟨(some 83), .load none (.t 82), none⟩, ⟨(some 84), .mv (.t 0), none⟩, ⟨(some 85), .call (.c (.fn 41 [])) [(.t 84)], none⟩, ⟨(some 86), .len (.t 83), none⟩, ⟨(some 87), .bslice 6 1 [(.int .i64 0), .nils, .nils, .nils, (.int .i64 0), .nils] [(0, 6, (.c (.agg [(.int .i64 0), .nils, .nils, .nils, (.int .i64 0), .nils])))], none⟩, ⟨(some 88), .append 6 112 (.t 83) (.t 87), none⟩, ⟨(some 89), .iaddr 6 (.t 88) (.t 86), none⟩, ⟨none, .store 6 (.t 89) (.t 85), none⟩, ⟨(some 90), .faddr 5 (.t 3), none⟩, ⟨none, .store 1 (.t 90) (.t 88), none⟩] [0, 1, 0, 4, 3, 0, 63, 127, 255, 127, 639])
      (.seq (.draw [⟨(some 91), .faddr 5 (.t 3), none⟩, ⟨(some 92), .load none (.t 91), none⟩, ⟨(some 93), .mv (.t 0), none⟩, ⟨(some 94), .call (.c (.fn 96 [])) [(.t 93)], none⟩, ⟨(some 95), .len (.t 92), none⟩, ⟨(some 96), .bslice 6 1 [(.int .i64 0), .nils, .nils, .nils, (.int .i64 0), .nils] [(0, 6, (.c (.agg [(.int .i64 0), .nils, .nils, .nils, (.int .i64 0), .nils])))], none⟩, ⟨(some 97), .append 6 112 (.t 92) (.t 96), none⟩, ⟨(some 98), .iaddr 6 (.t 97) (.t 95), none⟩, ⟨none, .store 6 (.t 98) (.t 94), none⟩, ⟨(some 99), .faddr 5 (.t 3), none⟩, ⟨none, .store 1 (.t 99) (.t 97), none⟩] [0, 1, 0, 4, 3, 0, 63, 127, 255, 127, 639])
      (.seq (.reg [⟨(some 100), .mv (.t 0), none⟩, ⟨(some 101), .call (.c (.fn 36 [])) [(.t 100), (.c (.str [101, 108, 115, 101]))], none⟩])
      (.cond (.t 101)
        (.draw [⟨(some 102), .faddr 5 (.t 3), none⟩, ⟨(some 103), .load none (.t 102), none⟩, ⟨(some 104), .mv (.t 0), none⟩, ⟨(some 105), .call (.c (.fn 96 [])) [(.t 104)], none⟩, ⟨(some 106), .len (.t 103), none⟩, ⟨(some 107), .bslice 6 1 [(.int .i64 0), .nils, .nils, .nils, (.int .i64 0), .nils] [(0, 6, (.c (.agg [(.int .i64 0), .nils, .nils, .nils, (.int .i64 0), .nils])))], none⟩, ⟨(some 108), .append 6 112 (.t 103) (.t 107), none⟩, ⟨(some 109), .iaddr 6 (.t 108) (.t 106), none⟩, ⟨none, .store 6 (.t 109) (.t 105), none⟩, ⟨(some 110), .faddr 5 (.t 3), none⟩, ⟨none, .store 1 (.t 110) (.t 108), none⟩] [0, 1, 0, 4, 3, 0, 63, 127, 255, 127, 639])
        .skip)))))
      (.seq (.reg [⟨(some 112), .mv (.t 0), none⟩, ⟨(some 113), .call (.c (.fn 36 [])) [(.t 112), (.c (.str [119, 104, 105, 108, 101]))], none⟩, ⟨(some 111), .mv (.t 113), none⟩])
      (.cond (.t 111)
        (.seq (.reg [⟨(some 114), .faddr 0 (.t 3), none⟩, ⟨(some 115), .faddr 0 (.t 114), none⟩, ⟨none, .store 1 (.t 115) (.c (.int .i64 12)), none⟩])
        (.seq (.draw [⟨(some 116), .faddr 5 (.t 3), none⟩, ⟨(some 117), .load none (.t 116), none⟩, ⟨(some 118), .mv (.t 0), none⟩, ⟨(some 119), .call (.c (.fn 41 [])) [(.t 118)], none⟩, ⟨(some 120), .len (.t 117), none⟩, ⟨(some 121), .bslice 6 1 [(.int .i64 0), .nils, .nils, .nils, (.int .i64 0), .nils] [(0, 6, (.c (.agg [(.int .i64 0), .nils, .nils, .nils, (.int .i64 0), .nils])))], none⟩, ⟨(some 122), .append 6 112 (.t 117) (.t 121), none⟩, ⟨(some 123), .iaddr 6 (.t 122) (.t 120), none⟩, ⟨none, .store 6 (.t 123) (.t 119), none⟩, ⟨(some 124), .faddr 5 (.t 3), none⟩, ⟨none, .store 1 (.t 124) (.t 122), none⟩] [0, 1, 0, 4, 3, 0, 63, 127, 255, 127, 639])
        (.draw [⟨(some 125), .faddr 5 (.t 3), none⟩, ⟨(some 126), .load none (.t 125), none⟩, ⟨(some 127), .mv (.t 0), none⟩, ⟨(some 128), .call (.c (.fn 96 [])) [(.t 127)], none⟩, ⟨(some 129), .len (.t 126), none⟩, ⟨(some 130), .bslice 6 1 [(.int .i64 0), .nils, .nils, .nils, (.int .i64 0), .nils] [(0, 6, (.c (.agg [(.int .i64 0), .nils, .nils, .nils, (.int .i64 0), .nils])))], none⟩, ⟨(some 131), .append 6 112 (.t 126) (.t 130), none⟩, ⟨(some 132), .iaddr 6 (.t 131) (.t 129), none⟩, ⟨none, .store 6 (.t 132) (.t 128), none⟩, ⟨(some 133), .faddr 5 (.t 3), none⟩, ⟨none, .store 1 (.t 133) (.t 131), none⟩] [0, 1, 0, 4, 3, 0, 63, 127, 255, 127, 639])))
        (.seq (.reg [⟨(some 135), .mv (.t 0), none⟩, ⟨(some 136), .call (.c (.fn 36 [])) [(.t 135), (.c (.str [97, 116, 111, 109, 105, 99]))], none⟩, ⟨(some 134), .mv (.t 136), none⟩])
        (.cond (.t 134)
          (.seq (.reg [⟨(some 137), .faddr 0 (.t 3), none⟩, ⟨(some 138), .faddr 0 (.t 137), none⟩, ⟨none, .store 1 (.t 138) (.c (.int .i64 13)), none⟩])
          (.draw [⟨(some 139), .faddr 5 (.t 3), none⟩, ⟨(some 140), .load none (.t 139), none⟩, ⟨(some 141), .mv (.t 0), none⟩, ⟨(some 142), .call (.c (.fn 96 [])) [(.t 141)], none⟩, ⟨(some 143), .len (.t 140), none⟩, ⟨(some 144), .bslice 6 1 [(.int .i64 0), .nils, .nils, .nils, (.int .i64 0), .nils] [(0, 6, (.c (.agg [(.int .i64 0), .nils, .nils, .nils, (.int .i64 0), .nils])))], none⟩, ⟨(some 145), .append 6 112 (.t 140) (.t 144), none⟩, ⟨(some 146), .iaddr 6 (.t 145) (.t 143), none⟩, ⟨none, .store 6 (.t 146) (.t 142), none⟩, ⟨(some 147), .faddr 5 (.t 3), none⟩, ⟨none, .store 1 (.t 147) (.t 145), none⟩] [0, 1, 0, 4, 3, 0, 63, 127, 255, 127, 639]))
          (.seq (.reg [⟨(some 149), .mv (.t 0), none⟩, ⟨(some 150), .call (.c (.fn 36 [])) [(.t 149), (.c (.str [115, 107, 105, 112]))], none⟩, ⟨(some 148), .mv (.t 150), none⟩])
          (.cond (.t 148)
            (.seq (.reg [⟨(some 151), .faddr 0 (.t 3), none⟩, ⟨(some 152), .faddr 0 (.t 151), none⟩, ⟨none, .store 1 (.t 152) (.c (.int .i64 14)), none⟩])
            (.reg [⟨(some 153), .mv (.t 0), none⟩, ⟨(some 154), .call (.c (.fn 38 [])) [(.t 153), (.c (.str [59]))], none⟩]))
            (.seq (.reg [⟨(some 156), .mv (.t 0), none⟩, ⟨(some 157), .call (.c (.fn 36 [])) [(.t 156), (.c (.str [115, 116, 111, 112]))], none⟩, ⟨(some 155), .mv (.t 157), none⟩])
            (.cond (.t 155)
              (.seq (.reg [⟨(some 158), .faddr 0 (.t 3), none⟩, ⟨(some 159), .faddr 0 (.t 158), none⟩, ⟨none, .store 1 (.t 159) (.c (.int .i64 15)), none⟩])
              (.reg [⟨(some 160), .mv (.t 0), none⟩, ⟨(some 161), .call (.c (.fn 38 [])) [(.t 160), (.c (.str [59]))], none⟩]))
              (.seq (.draw [⟨(some 30), .faddr 0 (.t 3), none⟩, ⟨(some 31), .faddr 1 (.t 30), none⟩, ⟨(some 32), .load none (.t 31), none⟩, ⟨(some 33), .mv (.t 0), none⟩, ⟨(some 34), .call (.c (.fn 37 [])) [(.t 33)], none⟩, ⟨(some 35), .bslice 1 1 [(.str [])] [(0, 1, (.t 34))], none⟩, ⟨(some 36), .append 1 16 (.t 32) (.t 35), none⟩, ⟨(some 37), .faddr 0 (.t 3), none⟩, ⟨(some 38), .faddr 1 (.t 37), none⟩, ⟨none, .store 1 (.t 38) (.t 36), none⟩] [0, 1, 3, 0, 8, 24, 63, 127, 255, 511])
              (.seq (.reg [⟨(some 39), .mv (.t 0), none⟩, ⟨(some 40), .call (.c (.fn 38 [])) [(.t 39), (.c (.str [61]))], none⟩])
              (.seq (.draw [⟨(some 41), .faddr 5 (.t 3), none⟩, ⟨(some 42), .load none (.t 41), none⟩, ⟨(some 43), .mv (.t 0), none⟩, ⟨(some 44), .call (.c (.fn 41 [])) [(.t 43)], none⟩, ⟨(some 45), .len (.t 42), none⟩, ⟨(some 46), .bslice 6 1 [(.int .i64 0), .nils, .nils, .nils, (.int .i64 0), .nils] [(0, 6, (.c (.agg [(.int .i64 0), .nils, .nils, .nils, (.int .i64 0), .nils])))], none⟩, ⟨(some 47), .append 6 112 (.t 42) (.t 46), none⟩, ⟨(some 48), .iaddr 6 (.t 47) (.t 45), none⟩, ⟨none, .store 6 (.t 48) (.t 44), none⟩, ⟨(some 49), .faddr 5 (.t 3), none⟩, ⟨none, .store 1 (.t 49) (.t 47), none⟩] [0, 1, 0, 4, 3, 0, 63, 127, 255, 127, 639])
              (.reg [⟨(some 50), .mv (.t 0), none⟩, ⟨(some 51), .call (.c (.fn 38 [])) [(.t 50), (.c (.str [59]))], none⟩])))))))))))))))))
 (.seq (.reg [⟨(some 162), .load (some 6) (.t 3), none⟩, ⟨none, .store 6 (.t 2) (.t 162), none⟩])
 .ret)))))), [.cell 2 (some 6)]⟩
theorem c77 : compF Tryz.prog Tryz.f77 = some m77 := by kernel_rfl
/-- (*weirgate/weirgateref09.P).same -/
def m78 : MFunc := ⟨13, (.seq (.reg [⟨(some 2), .alloc [(.int .i64 0), .nils, .nils, .nils, (.int .i64 0), .nils], none⟩])
 (.seq (.reg [⟨(some 4), .mv (.t 0), none⟩, ⟨(some 5), .call (.c (.fn 97 [])) [(.t 4)], none⟩, ⟨(some 3), .alloc [(.int .i64 0), .nils, .nils, .nils, (.int .i64 0), .nils], none⟩, ⟨none, .store 6 (.t 3) (.t 5), none⟩])
 (.seq (.seq (.reg [⟨(some 6), .mv (.t 0), none⟩, ⟨(some 7), .call (.c (.fn 36 [])) [(.t 6), (.c (.str [61, 61]))], none⟩])
 (.cond (.t 7)
   (.draw [⟨(some 8), .load (some 6) (.t 3), none⟩, ⟨(some 9), .mv (.t 0), none⟩, ⟨(some 10), .call (.c (.fn 97 [])) [(.t 9)], none⟩, ⟨(some 11), .call (.c (.fn 60 [])) [(.c (.int .i64 2)), (.t 8), (.t 10)], none⟩, ⟨none, .store 6 (.t 3) (.t 11), none⟩] [0, 0, 2, 7, 15])
   .skip))
 (.seq (.reg [⟨(some 12), .load (some 6) (.t 3), none⟩, ⟨none, .store 6 (.t 2) (.t 12), none⟩])
 .ret)))), [.cell 2 (some 6)]⟩
theorem c78 : compF Tryz.prog Tryz.f78 = some m78 := by kernel_rfl
/-- slices.ContainsFunc[[]weirgate/parse.sort,weirgate/parse.sort] -/
def m79 : MFunc := ⟨9, (.seq (.reg [⟨(some 4), .mv (.c (.bool false)), none⟩])
 (.seq (.reg [⟨(some 5), .mv (.t 0), none⟩, ⟨(some 6), .mv (.t 1), none⟩, ⟨(some 7), .call (.c (.fn 98 [])) [(.t 5), (.t 6)], none⟩, ⟨(some 8), .bin .geq .no (.t 7) (.c (.int .i64 0)), none⟩, ⟨(some 4), .mv (.t 8), none⟩])
 .ret)), [.tmp 4]⟩
theorem c79 : compF Tryz.prog Tryz.f79 = some m79 := by kernel_rfl
/-- weirgate/parse.only$1 -/
def m80 : MFunc := ⟨8, (.seq (.reg [⟨(some 3), .mv (.c (.bool false)), none⟩])
 (.seq (.reg [⟨(some 4), .load none (.t 1), none⟩, ⟨(some 5), .mv (.t 0), none⟩, ⟨(some 6), .call (.c (.fn 81 [])) [(.t 4), (.t 5)], none⟩, ⟨(some 7), .un .not (.t 6), none⟩, ⟨(some 3), .mv (.t 7), none⟩])
 .ret)), [.tmp 3]⟩
theorem c80 : compF Tryz.prog Tryz.f80 = some m80 := by kernel_rfl
/-- slices.Contains[[]weirgate/parse.sort,weirgate/parse.sort] -/
def m81 : MFunc := ⟨9, (.seq (.reg [⟨(some 4), .mv (.c (.bool false)), none⟩])
 (.seq (.reg [⟨(some 5), .mv (.t 0), none⟩, ⟨(some 6), .mv (.t 1), none⟩, ⟨(some 7), .call (.c (.fn 99 [])) [(.t 5), (.t 6)], none⟩, ⟨(some 8), .bin .geq .no (.t 7) (.c (.int .i64 0)), none⟩, ⟨(some 4), .mv (.t 8), none⟩])
 .ret)), [.tmp 4]⟩
theorem c81 : compF Tryz.prog Tryz.f81 = some m81 := by kernel_rfl
/-- slices.IndexFunc[[]string,string] -/
def m82 : MFunc := ⟨19, (.seq (.reg [⟨(some 4), .mv (.c (.int .i64 0)), none⟩])
 (.seq (.seq (.reg [⟨(some 6), .mv (.t 0), none⟩, ⟨(some 7), .len (.t 6), none⟩, ⟨(some 8), .mv (.c (.int .i64 0)), none⟩])
 (.block 0 (.loop (.seq (.reg [⟨(some 9), .bin .lss .no (.t 8) (.t 7), none⟩])
   (.seq (.cond (.t 9)
     .skip
     (.exit 0))
   (.seq (.block 1 (.seq (.reg [⟨(some 10), .mv (.t 8), none⟩, ⟨(some 5), .mv (.t 10), none⟩])
    (.seq (.reg [⟨(some 11), .mv (.t 1), none⟩, ⟨(some 12), .mv (.t 0), none⟩, ⟨(some 13), .mv (.t 5), none⟩, ⟨(some 14), .iaddr 1 (.t 12) (.t 13), none⟩, ⟨(some 15), .load none (.t 14), none⟩, ⟨(some 16), .call (.t 11) [(.t 15)], none⟩])
    (.cond (.t 16)
      (.seq (.reg [⟨(some 17), .mv (.t 5), none⟩, ⟨(some 4), .mv (.t 17), none⟩])
      .ret)
      .skip))))
   (.reg [⟨(some 18), .bin .add .no (.t 8) (.c (.int .i64 1)), none⟩, ⟨(some 8), .mv (.t 18), none⟩])))))))
 (.seq (.reg [⟨(some 4), .mv (.c (.int .i64 (-1))), none⟩])
 .ret))), [.tmp 4]⟩
theorem c82 : compF Tryz.prog Tryz.f82 = some m82 := by kernel_rfl
/-- weirgate/lex.classOf -/
def m83 : MFunc := ⟨39, (.seq (.reg [⟨(some 2), .mv (.c (.int .i64 0)), none⟩])
 (.seq (.block 0 (.seq (.seq (.reg [⟨(some 4), .mv (.t 0), none⟩, ⟨(some 5), .bin .eql .no (.t 4) (.c (.int .u8 32)), none⟩, ⟨(some 3), .mv (.t 5), none⟩])
  (.cond (.t 3)
    .skip
    (.seq (.reg [⟨(some 6), .mv (.t 0), none⟩, ⟨(some 7), .bin .eql .no (.t 6) (.c (.int .u8 9)), none⟩, ⟨(some 3), .mv (.t 7), none⟩])
    (.cond (.t 3)
      .skip
      (.seq (.reg [⟨(some 8), .mv (.t 0), none⟩, ⟨(some 9), .bin .eql .no (.t 8) (.c (.int .u8 13)), none⟩, ⟨(some 3), .mv (.t 9), none⟩])
      (.cond (.t 3)
        .skip
        (.reg [⟨(some 10), .mv (.t 0), none⟩, ⟨(some 11), .bin .eql .no (.t 10) (.c (.int .u8 10)), none⟩, ⟨(some 3), .mv (.t 11), none⟩])))))))
  (.cond (.t 3)
    (.seq (.reg [⟨(some 2), .mv (.c (.int .i64 1)), none⟩])
    .ret)
    (.seq (.seq (.reg [⟨(some 13), .mv (.t 0), none⟩, ⟨(some 14), .bin .leq .no (.c (.int .u8 97)) (.t 13), none⟩, ⟨(some 15), .mv (.t 14), none⟩, ⟨(some 16), .mv (.t 0), (some (15, true))⟩, ⟨(some 17), .bin .leq .no (.t 16) (.c (.int .u8 122)), (some (15, true))⟩, ⟨(some 18), .pick (.t 15) (.t 17) (.c (.bool false)), none⟩, ⟨(some 12), .mv (.t 18), none⟩])
    (.cond (.t 12)
      .skip
      (.reg [⟨(some 19), .mv (.t 0), none⟩, ⟨(some 20), .bin .leq .no (.c (.int .u8 65)) (.t 19), none⟩, ⟨(some 21), .mv (.t 20), none⟩, ⟨(some 22), .mv (.t 0), (some (21, true))⟩, ⟨(some 23), .bin .leq .no (.t 22) (.c (.int .u8 90)), (some (21, true))⟩, ⟨(some 24), .pick (.t 21) (.t 23) (.c (.bool false)), none⟩, ⟨(some 12), .mv (.t 24), none⟩])))
    (.cond (.t 12)
      (.seq (.reg [⟨(some 2), .mv (.c (.int .i64 2)), none⟩])
      .ret)
      (.seq (.reg [⟨(some 26), .mv (.t 0), none⟩, ⟨(some 27), .bin .leq .no (.c (.int .u8 48)) (.t 26), none⟩, ⟨(some 28), .mv (.t 27), none⟩, ⟨(some 29), .mv (.t 0), (some (28, true))⟩, ⟨(some 30), .bin .leq .no (.t 29) (.c (.int .u8 57)), (some (28, true))⟩, ⟨(some 31), .pick (.t 28) (.t 30) (.c (.bool false)), none⟩, ⟨(some 25), .mv (.t 31), none⟩])
      (.cond (.t 25)
        (.seq (.reg [⟨(some 2), .mv (.c (.int .i64 3)), none⟩])
        .ret)
        (.seq (.reg [⟨(some 33), .mv (.t 0), none⟩, ⟨(some 34), .bin .eql .no (.t 33) (.c (.int .u8 95)), none⟩, ⟨(some 32), .mv (.t 34), none⟩])
        (.cond (.t 32)
          (.seq (.reg [⟨(some 2), .mv (.c (.int .i64 4)), none⟩])
          .ret)
          (.seq (.reg [⟨(some 36), .mv (.t 0), none⟩, ⟨(some 37), .call (.c (.fn 100 [])) [(.c (.str [123, 125, 91, 93, 40, 41, 59, 61, 60, 43, 45, 42, 47, 37, 33])), (.t 36)], none⟩, ⟨(some 38), .bin .geq .no (.t 37) (.c (.int .i64 0)), none⟩, ⟨(some 35), .mv (.t 38), none⟩])
          (.cond (.t 35)
            (.seq (.reg [⟨(some 2), .mv (.c (.int .i64 5)), none⟩])
            .ret)
            .skip)))))))))))
 (.seq (.reg [⟨(some 2), .mv (.c (.int .i64 0)), none⟩])
 .ret))), [.tmp 2]⟩
theorem c83 : compF Tryz.prog Tryz.f83 = some m83 := by kernel_rfl
/-- weirgate/lex.behind -/
def m84 : MFunc := ⟨22, (.seq (.reg [⟨(some 6), .mv (.c (.int .i64 0)), none⟩])
 (.seq (.block 0 (.loop (.seq (.seq (.reg [⟨(some 7), .mv (.t 1), none⟩, ⟨(some 8), .mv (.t 0), none⟩, ⟨(some 9), .lenS (.t 8), none⟩, ⟨(some 10), .bin .lss .no (.t 7) (.t 9), none⟩, ⟨(some 11), .mv (.t 10), none⟩, ⟨(some 12), .mv (.t 2), (some (11, true))⟩, ⟨(some 13), .mv (.t 0), (some (11, true))⟩, ⟨(some 14), .mv (.t 1), (some (11, true))⟩, ⟨(some 15), .index (.t 13) (.t 14), (some (11, true))⟩, ⟨(some 16), .call (.c (.fn 83 [])) [(.t 15)], (some (11, true))⟩, ⟨(some 17), .call (.c (.fn 101 [])) [(.t 12), (.t 16)], (some (11, true))⟩, ⟨(some 18), .pick (.t 11) (.t 17) (.c (.bool false)), none⟩])
   (.cond (.t 18)
     .skip
     (.exit 0)))
   (.block 1 (.reg [⟨(some 19), .mv (.t 1), none⟩, ⟨(some 20), .bin .add .no (.t 19) (.c (.int .i64 1)), none⟩, ⟨(some 1), .mv (.t 20), none⟩])))))
 (.seq (.reg [⟨(some 21), .mv (.t 1), none⟩, ⟨(some 6), .mv (.t 21), none⟩])
 .ret))), [.tmp 6]⟩
theorem c84 : compF Tryz.prog Tryz.f84 = some m84 := by kernel_rfl
/-- weirgate/lex.Key -/
def m85 : MFunc := ⟨6, (.seq (.reg [⟨(some 2), .mv (.c (.bool false)), none⟩])
 (.seq (.reg [⟨(some 3), .call (.c (.fn 102 [])) [], none⟩, ⟨(some 4), .mv (.t 0), none⟩, ⟨(some 5), .call (.c (.fn 88 [])) [(.t 3), (.t 4)], none⟩, ⟨(some 2), .mv (.t 5), none⟩])
 .ret)), [.tmp 2]⟩
theorem c85 : compF Tryz.prog Tryz.f85 = some m85 := by kernel_rfl
/-- (*weirgate/scope.names).has -/
def m86 : MFunc := ⟨27, (.seq (.reg [⟨(some 4), .mv (.c (.bool false)), none⟩])
 (.seq (.reg [⟨(some 5), .mv (.t 0), none⟩, ⟨(some 6), .nilc (.t 5), none⟩, ⟨(some 7), .faddr 0 (.t 6), none⟩, ⟨(some 8), .load none (.t 7), none⟩, ⟨(some 9), .mv (.t 1), none⟩, ⟨(some 10), .call (.c (.fn 88 [])) [(.t 8), (.t 9)], none⟩, ⟨(some 11), .mv (.t 10), none⟩, ⟨(some 12), .mv (.t 0), (some (11, false))⟩, ⟨(some 13), .nilc (.t 12), (some (11, false))⟩, ⟨(some 14), .faddr 1 (.t 13), (some (11, false))⟩, ⟨(some 15), .load none (.t 14), (some (11, false))⟩, ⟨(some 16), .mv (.t 1), (some (11, false))⟩, ⟨(some 17), .call (.c (.fn 88 [])) [(.t 15), (.t 16)], (some (11, false))⟩, ⟨(some 18), .pick (.t 11) (.c (.bool true)) (.t 17), none⟩, ⟨(some 19), .mv (.t 18), none⟩, ⟨(some 20), .mv (.t 0), (some (19, false))⟩, ⟨(some 21), .nilc (.t 20), (some (19, false))⟩, ⟨(some 22), .faddr 2 (.t 21), (some (19, false))⟩, ⟨(some 23), .load none (.t 22), (some (19, false))⟩, ⟨(some 24), .mv (.t 1), (some (19, false))⟩, ⟨(some 25), .call (.c (.fn 88 [])) [(.t 23), (.t 24)], (some (19, false))⟩, ⟨(some 26), .pick (.t 19) (.c (.bool true)) (.t 25), none⟩, ⟨(some 4), .mv (.t 26), none⟩])
 .ret)), [.tmp 4]⟩
theorem c86 : compF Tryz.prog Tryz.f86 = some m86 := by kernel_rfl
/-- (*weirgate/scope.walker).bad -/
def m87 : MFunc := ⟨16, (.seq (.reg [⟨(some 3), .box 5 (.t 1), none⟩])
 (.seq (.reg [⟨(some 4), .mv (.t 0), none⟩, ⟨(some 5), .nilc (.t 4), none⟩, ⟨(some 6), .faddr 4 (.t 5), none⟩, ⟨(some 7), .faddr 0 (.t 6), none⟩, ⟨(some 8), .load none (.t 7), none⟩, ⟨(some 9), .bin .eql .no (.t 8) (.c (.int .i64 0)), none⟩])
 (.cond (.t 9)
   (.reg [⟨(some 10), .mv (.t 0), none⟩, ⟨(some 11), .faddr 4 (.t 3), none⟩, ⟨(some 12), .load none (.t 11), none⟩, ⟨(some 13), .build [(.int .i64 0), (.int .i64 0)] [(0, 1, (.c (.int .i64 20))), (1, 1, (.t 12))], none⟩, ⟨(some 14), .nilc (.t 10), none⟩, ⟨(some 15), .faddr 4 (.t 14), none⟩, ⟨none, .store 2 (.t 15) (.t 13), none⟩])
   .skip))), []⟩
theorem c87 : compF Tryz.prog Tryz.f87 = some m87 := by kernel_rfl
/-- slices.Contains[[]string,string] -/
def m88 : MFunc := ⟨9, (.seq (.reg [⟨(some 4), .mv (.c (.bool false)), none⟩])
 (.seq (.reg [⟨(some 5), .mv (.t 0), none⟩, ⟨(some 6), .mv (.t 1), none⟩, ⟨(some 7), .call (.c (.fn 103 [])) [(.t 5), (.t 6)], none⟩, ⟨(some 8), .bin .geq .no (.t 7) (.c (.int .i64 0)), none⟩, ⟨(some 4), .mv (.t 8), none⟩])
 .ret)), [.tmp 4]⟩
theorem c88 : compF Tryz.prog Tryz.f88 = some m88 := by kernel_rfl
/-- slices.Clip[[]string,string] -/
def m89 : MFunc := ⟨9, (.seq (.reg [⟨(some 2), .mv (.c .nils), none⟩])
 (.seq (.reg [⟨(some 3), .mv (.t 0), none⟩, ⟨(some 4), .mv (.t 0), none⟩, ⟨(some 5), .len (.t 4), none⟩, ⟨(some 6), .mv (.t 0), none⟩, ⟨(some 7), .len (.t 6), none⟩, ⟨(some 8), .cut 1 (.t 3) none (some (.t 5)) (some (.t 7)), none⟩, ⟨(some 2), .mv (.t 8), none⟩])
 .ret)), [.tmp 2]⟩
theorem c89 : compF Tryz.prog Tryz.f89 = some m89 := by kernel_rfl
/-- weirgate/bits.held -/
def m90 : MFunc := ⟨6, (.seq (.reg [⟨(some 2), .mv (.c (.int .i64 0)), none⟩])
 (.seq (.reg [⟨(some 3), .mv (.t 0), none⟩, ⟨(some 4), .minmax true [(.t 3), (.c (.int .i64 1))], none⟩, ⟨(some 5), .minmax false [(.t 4), (.c (.int .i64 16))], none⟩, ⟨(some 2), .mv (.t 5), none⟩])
 .ret)), [.tmp 2]⟩
theorem c90 : compF Tryz.prog Tryz.f90 = some m90 := by kernel_rfl
/-- internal/stringslite.IndexByte -/
def m91 : MFunc := ⟨8, (.seq (.reg [⟨(some 4), .mv (.c (.int .i64 0)), none⟩])
 (.seq (.reg [⟨(some 5), .mv (.t 0), none⟩, ⟨(some 6), .mv (.t 1), none⟩, ⟨(some 7), .idxB (.t 5) (.t 6), none⟩, ⟨(some 4), .mv (.t 7), none⟩])
 .ret)), [.tmp 4]⟩
theorem c91 : compF Tryz.prog Tryz.f91 = some m91 := by kernel_rfl
/-- internal/bytealg.Cutover -/
def m93 : MFunc := ⟨6, (.seq (.reg [⟨(some 2), .mv (.c (.int .i64 0)), none⟩])
 (.seq (.reg [⟨(some 3), .mv (.t 0), none⟩, ⟨(some 4), .bin .add .no (.t 3) (.c (.int .i64 16)), none⟩, ⟨(some 5), .bin .quo .no (.t 4) (.c (.int .i64 8)), none⟩, ⟨(some 2), .mv (.t 5), none⟩])
 .ret)), [.tmp 2]⟩
theorem c93 : compF Tryz.prog Tryz.f93 = some m93 := by kernel_rfl
/-- internal/bytealg.IndexRabinKarp[string] -/
def m94 : MFunc := ⟨81, (.seq (.reg [⟨(some 4), .mv (.c (.int .i64 0)), none⟩])
 (.seq (.reg [⟨(some 12), .mv (.t 1), none⟩, ⟨(some 13), .call (.c (.fn 105 [])) [(.t 12)], none⟩, ⟨(some 11), .mv (.t 13), none⟩, ⟨(some 14), .extract (.t 11) 0, none⟩, ⟨(some 15), .extract (.t 11) 1, none⟩, ⟨(some 5), .mv (.t 14), none⟩, ⟨(some 6), .mv (.t 15), none⟩])
 (.seq (.reg [⟨(some 16), .mv (.t 1), none⟩, ⟨(some 17), .lenS (.t 16), none⟩, ⟨(some 7), .mv (.t 17), none⟩])
 (.seq (.reg [⟨(some 8), .mv (.c (.int .u32 0)), none⟩])
 (.seq (.seq (.reg [⟨(some 9), .mv (.c (.int .i64 0)), none⟩])
 (.block 0 (.loop (.seq (.seq (.reg [⟨(some 18), .mv (.t 9), none⟩, ⟨(some 19), .mv (.t 7), none⟩, ⟨(some 20), .bin .lss .no (.t 18) (.t 19), none⟩])
   (.cond (.t 20)
     .skip
     (.exit 0)))
   (.seq (.block 1 (.reg [⟨(some 23), .mv (.t 8), none⟩, ⟨(some 24), .bin .mul .no (.t 23) (.c (.int .u32 16777619)), none⟩, ⟨(some 25), .mv (.t 0), none⟩, ⟨(some 26), .mv (.t 9), none⟩, ⟨(some 27), .index (.t 25) (.t 26), none⟩, ⟨(some 28), .convI .u32 (.t 27), none⟩, ⟨(some 29), .bin .add .no (.t 24) (.t 28), none⟩, ⟨(some 8), .mv (.t 29), none⟩]))
   (.reg [⟨(some 21), .mv (.t 9), none⟩, ⟨(some 22), .bin .add .no (.t 21) (.c (.int .i64 1)), none⟩, ⟨(some 9), .mv (.t 22), none⟩]))))))
 (.seq (.seq (.reg [⟨(some 30), .mv (.t 8), none⟩, ⟨(some 31), .mv (.t 5), none⟩, ⟨(some 32), .bin .eql .no (.t 30) (.t 31), none⟩, ⟨(some 33), .mv (.t 32), none⟩, ⟨(some 34), .mv (.t 0), (some (33, true))⟩, ⟨(some 35), .mv (.t 7), (some (33, true))⟩, ⟨(some 36), .cutS (.t 34) none (some (.t 35)), (some (33, true))⟩, ⟨(some 37), .mv (.t 1), (some (33, true))⟩, ⟨(some 38), .bin .eql .no (.t 36) (.t 37), (some (33, true))⟩, ⟨(some 39), .pick (.t 33) (.t 38) (.c (.bool false)), none⟩])
 (.cond (.t 39)
   (.seq (.reg [⟨(some 4), .mv (.c (.int .i64 0)), none⟩])
   .ret)
   .skip))
 (.seq (.seq (.reg [⟨(some 40), .mv (.t 7), none⟩, ⟨(some 10), .mv (.t 40), none⟩])
 (.block 2 (.loop (.seq (.seq (.reg [⟨(some 41), .mv (.t 10), none⟩, ⟨(some 42), .mv (.t 0), none⟩, ⟨(some 43), .lenS (.t 42), none⟩, ⟨(some 44), .bin .lss .no (.t 41) (.t 43), none⟩])
   (.cond (.t 44)
     .skip
     (.exit 2)))
   (.block 3 (.seq (.reg [⟨(some 45), .mv (.t 8), none⟩, ⟨(some 46), .bin .mul .no (.t 45) (.c (.int .u32 16777619)), none⟩, ⟨(some 8), .mv (.t 46), none⟩])
    (.seq (.reg [⟨(some 47), .mv (.t 8), none⟩, ⟨(some 48), .mv (.t 0), none⟩, ⟨(some 49), .mv (.t 10), none⟩, ⟨(some 50), .index (.t 48) (.t 49), none⟩, ⟨(some 51), .convI .u32 (.t 50), none⟩, ⟨(some 52), .bin .add .no (.t 47) (.t 51), none⟩, ⟨(some 8), .mv (.t 52), none⟩])
    (.seq (.reg [⟨(some 53), .mv (.t 8), none⟩, ⟨(some 54), .mv (.t 6), none⟩, ⟨(some 55), .mv (.t 0), none⟩, ⟨(some 56), .mv (.t 10), none⟩, ⟨(some 57), .mv (.t 7), none⟩, ⟨(some 58), .bin .sub .no (.t 56) (.t 57), none⟩, ⟨(some 59), .index (.t 55) (.t 58), none⟩, ⟨(some 60), .convI .u32 (.t 59), none⟩, ⟨(some 61), .bin .mul .no (.t 54) (.t 60), none⟩, ⟨(some 62), .bin .sub .no (.t 53) (.t 61), none⟩, ⟨(some 8), .mv (.t 62), none⟩])
    (.seq (.reg [⟨(some 63), .mv (.t 10), none⟩, ⟨(some 64), .bin .add .no (.t 63) (.c (.int .i64 1)), none⟩, ⟨(some 10), .mv (.t 64), none⟩])
    (.seq (.reg [⟨(some 65), .mv (.t 8), none⟩, ⟨(some 66), .mv (.t 5), none⟩, ⟨(some 67), .bin .eql .no (.t 65) (.t 66), none⟩, ⟨(some 68), .mv (.t 67), none⟩, ⟨(some 69), .mv (.t 0), (some (68, true))⟩, ⟨(some 70), .mv (.t 10), (some (68, true))⟩, ⟨(some 71), .mv (.t 7), (some (68, true))⟩, ⟨(some 72), .bin .sub .no (.t 70) (.t 71), (some (68, true))⟩, ⟨(some 73), .mv (.t 10), (some (68, true))⟩, ⟨(some 74), .cutS (.t 69) (some (.t 72)) (some (.t 73)), (some (68, true))⟩, ⟨(some 75), .mv (.t 1), (some (68, true))⟩, ⟨(some 76), .bin .eql .no (.t 74) (.t 75), (some (68, true))⟩, ⟨(some 77), .pick (.t 68) (.t 76) (.c (.bool false)), none⟩])
    (.cond (.t 77)
      (.seq (.reg [⟨(some 78), .mv (.t 10), none⟩, ⟨(some 79), .mv (.t 7), none⟩, ⟨(some 80), .bin .sub .no (.t 78) (.t 79), none⟩, ⟨(some 4), .mv (.t 80), none⟩])
      .ret)
      .skip)))))))))))
 (.seq (.reg [⟨(some 4), .mv (.c (.int .i64 (-1))), none⟩])
 .ret)))))))), [.tmp 4]⟩
theorem c94 : compF Tryz.prog Tryz.f94 = some m94 := by kernel_rfl
/-- (*weirgate/weirgateref09.P).waits -/
def m95 : MFunc := ⟨90, (.seq (.seq (.reg [⟨(some 4), .mv (.t 0), none⟩, ⟨(some 5), .call (.c (.fn 36 [])) [(.t 4), (.c (.str [114, 101, 99, 118]))], none⟩])
 (.cond (.t 5)
   (.seq (.reg [⟨(some 6), .mv (.t 1), none⟩, ⟨(some 7), .nilc (.t 6), none⟩, ⟨(some 8), .faddr 0 (.t 7), none⟩, ⟨(some 9), .faddr 0 (.t 8), none⟩, ⟨none, .store 1 (.t 9) (.c (.int .i64 8)), none⟩])
   (.seq (.draw [⟨(some 10), .mv (.t 1), none⟩, ⟨(some 11), .mv (.t 1), none⟩, ⟨(some 12), .nilc (.t 11), none⟩, ⟨(some 13), .faddr 0 (.t 12), none⟩, ⟨(some 14), .faddr 1 (.t 13), none⟩, ⟨(some 15), .load none (.t 14), none⟩, ⟨(some 16), .mv (.t 0), none⟩, ⟨(some 17), .call (.c (.fn 37 [])) [(.t 16)], none⟩, ⟨(some 18), .bslice 1 1 [(.str [])] [(0, 1, (.t 17))], none⟩, ⟨(some 19), .append 1 16 (.t 15) (.t 18), none⟩, ⟨(some 20), .nilc (.t 10), none⟩, ⟨(some 21), .faddr 0 (.t 20), none⟩, ⟨(some 22), .faddr 1 (.t 21), none⟩, ⟨none, .store 1 (.t 22) (.t 19), none⟩] [0, 0, 2, 6, 14, 30, 0, 64, 192, 510, 1023, 2047, 4095, 8191])
   (.seq (.draw [⟨(some 23), .mv (.t 1), none⟩, ⟨(some 24), .mv (.t 1), none⟩, ⟨(some 25), .nilc (.t 24), none⟩, ⟨(some 26), .faddr 0 (.t 25), none⟩, ⟨(some 27), .faddr 1 (.t 26), none⟩, ⟨(some 28), .load none (.t 27), none⟩, ⟨(some 29), .mv (.t 0), none⟩, ⟨(some 30), .call (.c (.fn 37 [])) [(.t 29)], none⟩, ⟨(some 31), .bslice 1 1 [(.str [])] [(0, 1, (.t 30))], none⟩, ⟨(some 32), .append 1 16 (.t 28) (.t 31), none⟩, ⟨(some 33), .nilc (.t 23), none⟩, ⟨(some 34), .faddr 0 (.t 33), none⟩, ⟨(some 35), .faddr 1 (.t 34), none⟩, ⟨none, .store 1 (.t 35) (.t 32), none⟩] [0, 0, 2, 6, 14, 30, 0, 64, 192, 510, 1023, 2047, 4095, 8191])
   (.seq (.reg [⟨(some 36), .mv (.t 0), none⟩, ⟨(some 37), .call (.c (.fn 38 [])) [(.t 36), (.c (.str [59]))], none⟩])
   .ret))))
   .skip))
 (.seq (.seq (.reg [⟨(some 38), .mv (.t 0), none⟩, ⟨(some 39), .call (.c (.fn 36 [])) [(.t 38), (.c (.str [119, 104, 101, 110]))], none⟩])
 (.cond (.t 39)
   (.seq (.reg [⟨(some 40), .mv (.t 1), none⟩, ⟨(some 41), .nilc (.t 40), none⟩, ⟨(some 42), .faddr 0 (.t 41), none⟩, ⟨(some 43), .faddr 0 (.t 42), none⟩, ⟨none, .store 1 (.t 43) (.c (.int .i64 9)), none⟩])
   (.seq (.draw [⟨(some 44), .mv (.t 1), none⟩, ⟨(some 45), .nilc (.t 44), none⟩, ⟨(some 46), .faddr 5 (.t 45), none⟩, ⟨(some 47), .load none (.t 46), none⟩, ⟨(some 48), .mv (.t 0), none⟩, ⟨(some 49), .call (.c (.fn 41 [])) [(.t 48)], none⟩, ⟨(some 50), .len (.t 47), none⟩, ⟨(some 51), .bslice 6 1 [(.int .i64 0), .nils, .nils, .nils, (.int .i64 0), .nils] [(0, 6, (.c (.agg [(.int .i64 0), .nils, .nils, .nils, (.int .i64 0), .nils])))], none⟩, ⟨(some 52), .append 6 112 (.t 47) (.t 51), none⟩, ⟨(some 53), .iaddr 6 (.t 52) (.t 50), none⟩, ⟨none, .store 6 (.t 53) (.t 49), none⟩, ⟨(some 54), .nilc (.t 44), none⟩, ⟨(some 55), .faddr 5 (.t 54), none⟩, ⟨none, .store 1 (.t 55) (.t 52), none⟩] [0, 1, 3, 7, 0, 16, 15, 0, 255, 511, 1023, 511, 2559, 6655])
   (.seq (.reg [⟨(some 56), .mv (.t 0), none⟩, ⟨(some 57), .call (.c (.fn 38 [])) [(.t 56), (.c (.str [59]))], none⟩])
   .ret)))
   .skip))
 (.seq (.reg [⟨(some 58), .mv (.t 0), none⟩, ⟨(some 59), .call (.c (.fn 38 [])) [(.t 58), (.c (.str [99, 104, 111, 111, 115, 101]))], none⟩])
 (.seq (.reg [⟨(some 60), .mv (.t 1), none⟩, ⟨(some 61), .nilc (.t 60), none⟩, ⟨(some 62), .faddr 0 (.t 61), none⟩, ⟨(some 63), .faddr 0 (.t 62), none⟩, ⟨none, .store 1 (.t 63) (.c (.int .i64 10)), none⟩])
 (.seq (.draw [⟨(some 64), .mv (.t 1), none⟩, ⟨(some 65), .nilc (.t 64), none⟩, ⟨(some 66), .faddr 5 (.t 65), none⟩, ⟨(some 67), .load none (.t 66), none⟩, ⟨(some 68), .mv (.t 0), none⟩, ⟨(some 69), .call (.c (.fn 96 [])) [(.t 68)], none⟩, ⟨(some 70), .len (.t 67), none⟩, ⟨(some 71), .bslice 6 1 [(.int .i64 0), .nils, .nils, .nils, (.int .i64 0), .nils] [(0, 6, (.c (.agg [(.int .i64 0), .nils, .nils, .nils, (.int .i64 0), .nils])))], none⟩, ⟨(some 72), .append 6 112 (.t 67) (.t 71), none⟩, ⟨(some 73), .iaddr 6 (.t 72) (.t 70), none⟩, ⟨none, .store 6 (.t 73) (.t 69), none⟩, ⟨(some 74), .nilc (.t 64), none⟩, ⟨(some 75), .faddr 5 (.t 74), none⟩, ⟨none, .store 1 (.t 75) (.t 72), none⟩] [0, 1, 3, 7, 0, 16, 15, 0, 255, 511, 1023, 511, 2559, 6655])
 (.block 0 (.loop (.seq (.seq (.reg [⟨(some 76), .mv (.t 0), none⟩, ⟨(some 77), .call (.c (.fn 36 [])) [(.t 76), (.c (.str [111, 114]))], none⟩])
   (.cond (.t 77)
     .skip
     (.exit 0)))
   (.block 1 (.draw [⟨(some 78), .mv (.t 1), none⟩, ⟨(some 79), .nilc (.t 78), none⟩, ⟨(some 80), .faddr 5 (.t 79), none⟩, ⟨(some 81), .load none (.t 80), none⟩, ⟨(some 82), .mv (.t 0), none⟩, ⟨(some 83), .call (.c (.fn 96 [])) [(.t 82)], none⟩, ⟨(some 84), .len (.t 81), none⟩, ⟨(some 85), .bslice 6 1 [(.int .i64 0), .nils, .nils, .nils, (.int .i64 0), .nils] [(0, 6, (.c (.agg [(.int .i64 0), .nils, .nils, .nils, (.int .i64 0), .nils])))], none⟩, ⟨(some 86), .append 6 112 (.t 81) (.t 85), none⟩, ⟨(some 87), .iaddr 6 (.t 86) (.t 84), none⟩, ⟨none, .store 6 (.t 87) (.t 83), none⟩, ⟨(some 88), .nilc (.t 78), none⟩, ⟨(some 89), .faddr 5 (.t 88), none⟩, ⟨none, .store 1 (.t 89) (.t 86), none⟩] [0, 1, 3, 7, 0, 16, 15, 0, 255, 511, 1023, 511, 2559, 6655])))))))))), []⟩
theorem c95 : compF Tryz.prog Tryz.f95 = some m95 := by kernel_rfl
/-- (*weirgate/weirgateref09.P).block -/
def m96 : MFunc := ⟨20, (.seq (.reg [⟨(some 2), .alloc [(.int .i64 0), .nils, .nils, .nils, (.int .i64 0), .nils], none⟩])
 (.seq (.reg [⟨(some 4), .mv (.t 0), none⟩, ⟨(some 5), .call (.c (.fn 23 [])) [(.t 4), (.c (.int .i64 16))], none⟩, ⟨(some 3), .alloc [(.int .i64 0), .nils, .nils, .nils, (.int .i64 0), .nils], none⟩, ⟨none, .store 6 (.t 3) (.t 5), none⟩])
 (.seq (.reg [⟨(some 6), .mv (.t 0), none⟩, ⟨(some 7), .call (.c (.fn 38 [])) [(.t 6), (.c (.str [123]))], none⟩])
 (.seq (.reg [⟨(some 8), .mv (.t 0), none⟩, ⟨(some 9), .call (.c (.fn 55 [])) [(.t 8)], none⟩])
 (.seq (.reg [⟨(some 10), .mv (.t 0), none⟩, ⟨(some 11), .call (.c (.fn 56 [])) [(.t 10), (.t 3)], none⟩])
 (.seq (.reg [⟨(some 12), .mv (.t 0), none⟩, ⟨(some 13), .nilc (.t 12), none⟩, ⟨(some 14), .faddr 2 (.t 13), none⟩, ⟨(some 15), .load none (.t 14), none⟩, ⟨(some 16), .bin .sub .no (.t 15) (.c (.int .i64 1)), none⟩, ⟨(some 17), .nilc (.t 12), none⟩, ⟨(some 18), .faddr 2 (.t 17), none⟩, ⟨none, .store 1 (.t 18) (.t 16), none⟩])
 (.seq (.reg [⟨(some 19), .load (some 6) (.t 3), none⟩, ⟨none, .store 6 (.t 2) (.t 19), none⟩])
 .ret))))))), [.cell 2 (some 6)]⟩
theorem c96 : compF Tryz.prog Tryz.f96 = some m96 := by kernel_rfl
/-- (*weirgate/weirgateref09.P).less -/
def m97 : MFunc := ⟨13, (.seq (.reg [⟨(some 2), .alloc [(.int .i64 0), .nils, .nils, .nils, (.int .i64 0), .nils], none⟩])
 (.seq (.reg [⟨(some 4), .mv (.t 0), none⟩, ⟨(some 5), .call (.c (.fn 106 [])) [(.t 4)], none⟩, ⟨(some 3), .alloc [(.int .i64 0), .nils, .nils, .nils, (.int .i64 0), .nils], none⟩, ⟨none, .store 6 (.t 3) (.t 5), none⟩])
 (.seq (.seq (.reg [⟨(some 6), .mv (.t 0), none⟩, ⟨(some 7), .call (.c (.fn 36 [])) [(.t 6), (.c (.str [60]))], none⟩])
 (.cond (.t 7)
   (.draw [⟨(some 8), .load (some 6) (.t 3), none⟩, ⟨(some 9), .mv (.t 0), none⟩, ⟨(some 10), .call (.c (.fn 106 [])) [(.t 9)], none⟩, ⟨(some 11), .call (.c (.fn 60 [])) [(.c (.int .i64 3)), (.t 8), (.t 10)], none⟩, ⟨none, .store 6 (.t 3) (.t 11), none⟩] [0, 0, 2, 7, 15])
   .skip))
 (.seq (.reg [⟨(some 12), .load (some 6) (.t 3), none⟩, ⟨none, .store 6 (.t 2) (.t 12), none⟩])
 .ret)))), [.cell 2 (some 6)]⟩
theorem c97 : compF Tryz.prog Tryz.f97 = some m97 := by kernel_rfl
/-- slices.IndexFunc[[]weirgate/parse.sort,weirgate/parse.sort] -/
def m98 : MFunc := ⟨19, (.seq (.reg [⟨(some 4), .mv (.c (.int .i64 0)), none⟩])
 (.seq (.seq (.reg [⟨(some 6), .mv (.t 0), none⟩, ⟨(some 7), .len (.t 6), none⟩, ⟨(some 8), .mv (.c (.int .i64 0)), none⟩])
 (.block 0 (.loop (.seq (.reg [⟨(some 9), .bin .lss .no (.t 8) (.t 7), none⟩])
   (.seq (.cond (.t 9)
     .skip
     (.exit 0))
   (.seq (.block 1 (.seq (.reg [⟨(some 10), .mv (.t 8), none⟩, ⟨(some 5), .mv (.t 10), none⟩])
    (.seq (.reg [⟨(some 11), .mv (.t 1), none⟩, ⟨(some 12), .mv (.t 0), none⟩, ⟨(some 13), .mv (.t 5), none⟩, ⟨(some 14), .iaddr 1 (.t 12) (.t 13), none⟩, ⟨(some 15), .load none (.t 14), none⟩, ⟨(some 16), .call (.t 11) [(.t 15)], none⟩])
    (.cond (.t 16)
      (.seq (.reg [⟨(some 17), .mv (.t 5), none⟩, ⟨(some 4), .mv (.t 17), none⟩])
      .ret)
      .skip))))
   (.reg [⟨(some 18), .bin .add .no (.t 8) (.c (.int .i64 1)), none⟩, ⟨(some 8), .mv (.t 18), none⟩])))))))
 (.seq (.reg [⟨(some 4), .mv (.c (.int .i64 (-1))), none⟩])
 .ret))), [.tmp 4]⟩
theorem c98 : compF Tryz.prog Tryz.f98 = some m98 := by kernel_rfl
/-- slices.Index[[]weirgate/parse.sort,weirgate/parse.sort] -/
def m99 : MFunc := ⟨19, (.seq (.reg [⟨(some 4), .mv (.c (.int .i64 0)), none⟩])
 (.seq (.seq (.reg [⟨(some 6), .mv (.t 0), none⟩, ⟨(some 7), .len (.t 6), none⟩, ⟨(some 8), .mv (.c (.int .i64 0)), none⟩])
 (.block 0 (.loop (.seq (.reg [⟨(some 9), .bin .lss .no (.t 8) (.t 7), none⟩])
   (.seq (.cond (.t 9)
     .skip
     (.exit 0))
   (.seq (.block 1 (.seq (.reg [⟨(some 10), .mv (.t 8), none⟩, ⟨(some 5), .mv (.t 10), none⟩])
    (.seq (.reg [⟨(some 11), .mv (.t 1), none⟩, ⟨(some 12), .mv (.t 0), none⟩, ⟨(some 13), .mv (.t 5), none⟩, ⟨(some 14), .iaddr 1 (.t 12) (.t 13), none⟩, ⟨(some 15), .load none (.t 14), none⟩, ⟨(some 16), .bin .eql .no (.t 11) (.t 15), none⟩])
    (.cond (.t 16)
      (.seq (.reg [⟨(some 17), .mv (.t 5), none⟩, ⟨(some 4), .mv (.t 17), none⟩])
      .ret)
      .skip))))
   (.reg [⟨(some 18), .bin .add .no (.t 8) (.c (.int .i64 1)), none⟩, ⟨(some 8), .mv (.t 18), none⟩])))))))
 (.seq (.reg [⟨(some 4), .mv (.c (.int .i64 (-1))), none⟩])
 .ret))), [.tmp 4]⟩
theorem c99 : compF Tryz.prog Tryz.f99 = some m99 := by kernel_rfl
/-- strings.IndexByte -/
def m100 : MFunc := ⟨8, (.seq (.reg [⟨(some 4), .mv (.c (.int .i64 0)), none⟩])
 (.seq (.reg [⟨(some 5), .mv (.t 0), none⟩, ⟨(some 6), .mv (.t 1), none⟩, ⟨(some 7), .call (.c (.fn 91 [])) [(.t 5), (.t 6)], none⟩, ⟨(some 4), .mv (.t 7), none⟩])
 .ret)), [.tmp 4]⟩
theorem c100 : compF Tryz.prog Tryz.f100 = some m100 := by kernel_rfl
/-- slices.Contains[[]weirgate/lex.class,weirgate/lex.class] -/
def m101 : MFunc := ⟨9, (.seq (.reg [⟨(some 4), .mv (.c (.bool false)), none⟩])
 (.seq (.reg [⟨(some 5), .mv (.t 0), none⟩, ⟨(some 6), .mv (.t 1), none⟩, ⟨(some 7), .call (.c (.fn 107 [])) [(.t 5), (.t 6)], none⟩, ⟨(some 8), .bin .geq .no (.t 7) (.c (.int .i64 0)), none⟩, ⟨(some 4), .mv (.t 8), none⟩])
 .ret)), [.tmp 4]⟩
theorem c101 : compF Tryz.prog Tryz.f101 = some m101 := by kernel_rfl
/-- weirgate/lex.keys -/
def m102 : MFunc := ⟨2, (.seq (.reg [⟨(some 0), .mv (.c .nils), none⟩])
 (.seq (.reg [⟨(some 1), .call (.c (.fn 108 [])) [(.c (.str [99, 104, 97, 110, 32, 111, 102, 32, 108, 111, 115, 115, 121, 32, 99, 111, 112, 121, 105, 110, 103, 32, 118, 97, 114, 32, 112, 114, 111, 99, 32, 115, 97, 102, 101, 32, 100, 101, 97, 100, 108, 111, 99, 107, 32, 115, 101, 110, 100, 32, 114, 101, 99, 118, 32, 105, 100, 108, 101, 32, 119, 104, 101, 110, 32, 99, 104, 111, 111, 115, 101, 32, 111, 114, 32, 105, 102, 32, 101, 108, 115, 101, 32, 119, 104, 105, 108, 101, 32, 97, 116, 111, 109, 105, 99, 32, 115, 107, 105, 112, 32, 115, 116, 111, 112, 32, 108, 101, 110]))], none⟩, ⟨(some 0), .mv (.t 1), none⟩])
 .ret)), [.tmp 0]⟩
theorem c102 : compF Tryz.prog Tryz.f102 = some m102 := by kernel_rfl
/-- slices.Index[[]string,string] -/
def m103 : MFunc := ⟨19, (.seq (.reg [⟨(some 4), .mv (.c (.int .i64 0)), none⟩])
 (.seq (.seq (.reg [⟨(some 6), .mv (.t 0), none⟩, ⟨(some 7), .len (.t 6), none⟩, ⟨(some 8), .mv (.c (.int .i64 0)), none⟩])
 (.block 0 (.loop (.seq (.reg [⟨(some 9), .bin .lss .no (.t 8) (.t 7), none⟩])
   (.seq (.cond (.t 9)
     .skip
     (.exit 0))
   (.seq (.block 1 (.seq (.reg [⟨(some 10), .mv (.t 8), none⟩, ⟨(some 5), .mv (.t 10), none⟩])
    (.seq (.reg [⟨(some 11), .mv (.t 1), none⟩, ⟨(some 12), .mv (.t 0), none⟩, ⟨(some 13), .mv (.t 5), none⟩, ⟨(some 14), .iaddr 1 (.t 12) (.t 13), none⟩, ⟨(some 15), .load none (.t 14), none⟩, ⟨(some 16), .bin .eql .no (.t 11) (.t 15), none⟩])
    (.cond (.t 16)
      (.seq (.reg [⟨(some 17), .mv (.t 5), none⟩, ⟨(some 4), .mv (.t 17), none⟩])
      .ret)
      .skip))))
   (.reg [⟨(some 18), .bin .add .no (.t 8) (.c (.int .i64 1)), none⟩, ⟨(some 8), .mv (.t 18), none⟩])))))))
 (.seq (.reg [⟨(some 4), .mv (.c (.int .i64 (-1))), none⟩])
 .ret))), [.tmp 4]⟩
theorem c103 : compF Tryz.prog Tryz.f103 = some m103 := by kernel_rfl
/-- internal/bytealg.hashStr[string] -/
def m105 : MFunc := ⟨39, (.seq (.reg [⟨(some 2), .mv (.c (.int .u32 0)), none⟩, ⟨(some 3), .mv (.c (.int .u32 0)), none⟩])
 (.seq (.reg [⟨(some 4), .mv (.c (.int .u32 0)), none⟩])
 (.seq (.seq (.reg [⟨(some 5), .mv (.c (.int .i64 0)), none⟩])
 (.block 0 (.loop (.seq (.seq (.reg [⟨(some 9), .mv (.t 5), none⟩, ⟨(some 10), .mv (.t 0), none⟩, ⟨(some 11), .lenS (.t 10), none⟩, ⟨(some 12), .bin .lss .no (.t 9) (.t 11), none⟩])
   (.cond (.t 12)
     .skip
     (.exit 0)))
   (.seq (.block 1 (.reg [⟨(some 15), .mv (.t 4), none⟩, ⟨(some 16), .bin .mul .no (.t 15) (.c (.int .u32 16777619)), none⟩, ⟨(some 17), .mv (.t 0), none⟩, ⟨(some 18), .mv (.t 5), none⟩, ⟨(some 19), .index (.t 17) (.t 18), none⟩, ⟨(some 20), .convI .u32 (.t 19), none⟩, ⟨(some 21), .bin .add .no (.t 16) (.t 20), none⟩, ⟨(some 4), .mv (.t 21), none⟩]))
   (.reg [⟨(some 13), .mv (.t 5), none⟩, ⟨(some 14), .bin .add .no (.t 13) (.c (.int .i64 1)), none⟩, ⟨(some 5), .mv (.t 14), none⟩]))))))
 (.seq (.reg [⟨(some 6), .mv (.c (.int .u32 1)), none⟩, ⟨(some 7), .mv (.c (.int .u32 16777619)), none⟩])
 (.seq (.seq (.reg [⟨(some 22), .mv (.t 0), none⟩, ⟨(some 23), .lenS (.t 22), none⟩, ⟨(some 8), .mv (.t 23), none⟩])
 (.block 2 (.loop (.seq (.seq (.reg [⟨(some 24), .mv (.t 8), none⟩, ⟨(some 25), .bin .gtr .no (.t 24) (.c (.int .i64 0)), none⟩])
   (.cond (.t 25)
     .skip
     (.exit 2)))
   (.seq (.block 3 (.seq (.seq (.reg [⟨(some 28), .mv (.t 8), none⟩, ⟨(some 29), .bin .and .no (.t 28) (.c (.int .i64 1)), none⟩, ⟨(some 30), .bin .neq .no (.t 29) (.c (.int .i64 0)), none⟩])
    (.cond (.t 30)
      (.reg [⟨(some 31), .mv (.t 6), none⟩, ⟨(some 32), .mv (.t 7), none⟩, ⟨(some 33), .bin .mul .no (.t 31) (.t 32), none⟩, ⟨(some 6), .mv (.t 33), none⟩])
      .skip))
    (.reg [⟨(some 34), .mv (.t 7), none⟩, ⟨(some 35), .mv (.t 7), none⟩, ⟨(some 36), .bin .mul .no (.t 34) (.t 35), none⟩, ⟨(some 7), .mv (.t 36), none⟩])))
   (.reg [⟨(some 26), .mv (.t 8), none⟩, ⟨(some 27), .bin .shr .no (.t 26) (.c (.int .u64 1)), none⟩, ⟨(some 8), .mv (.t 27), none⟩]))))))
 (.seq (.reg [⟨(some 37), .mv (.t 4), none⟩, ⟨(some 38), .mv (.t 6), none⟩, ⟨(some 2), .mv (.t 37), none⟩, ⟨(some 3), .mv (.t 38), none⟩])
 .ret)))))), [.tmp 2, .tmp 3]⟩
theorem c105 : compF Tryz.prog Tryz.f105 = some m105 := by kernel_rfl
/-- (*weirgate/weirgateref09.P).sum -/
def m106 : MFunc := ⟨28, (.seq (.reg [⟨(some 2), .alloc [(.int .i64 0), .nils, .nils, .nils, (.int .i64 0), .nils], none⟩])
 (.seq (.reg [⟨(some 5), .mv (.t 0), none⟩, ⟨(some 6), .call (.c (.fn 109 [])) [(.t 5)], none⟩, ⟨(some 3), .alloc [(.int .i64 0), .nils, .nils, .nils, (.int .i64 0), .nils], none⟩, ⟨none, .store 6 (.t 3) (.t 6), none⟩])
 (.seq (.block 0 (.loop (.seq (.seq (.reg [⟨(some 7), .mv (.t 0), none⟩, ⟨(some 8), .call (.c (.fn 33 [])) [(.t 7), (.c (.str [43]))], none⟩, ⟨(some 9), .mv (.t 8), none⟩, ⟨(some 10), .mv (.t 0), (some (9, false))⟩, ⟨(some 11), .call (.c (.fn 33 [])) [(.t 10), (.c (.str [45]))], (some (9, false))⟩, ⟨(some 12), .pick (.t 9) (.c (.bool true)) (.t 11), none⟩])
   (.cond (.t 12)
     .skip
     (.exit 0)))
   (.block 1 (.seq (.reg [⟨(some 4), .mv (.c (.int .i64 5)), none⟩])
    (.seq (.seq (.reg [⟨(some 13), .mv (.t 0), none⟩, ⟨(some 14), .call (.c (.fn 33 [])) [(.t 13), (.c (.str [43]))], none⟩])
    (.cond (.t 14)
      (.reg [⟨(some 4), .mv (.c (.int .i64 4)), none⟩])
      .skip))
    (.seq (.reg [⟨(some 15), .mv (.t 0), none⟩, ⟨(some 16), .nilc (.t 15), none⟩, ⟨(some 17), .faddr 1 (.t 16), none⟩, ⟨(some 18), .load none (.t 17), none⟩, ⟨(some 19), .bin .add .no (.t 18) (.c (.int .i64 1)), none⟩, ⟨(some 20), .nilc (.t 15), none⟩, ⟨(some 21), .faddr 1 (.t 20), none⟩, ⟨none, .store 1 (.t 21) (.t 19), none⟩])
    (.draw [⟨(some 22), .mv (.t 4), none⟩, ⟨(some 23), .load (some 6) (.t 3), none⟩, ⟨(some 24), .mv (.t 0), none⟩, ⟨(some 25), .call (.c (.fn 109 [])) [(.t 24)], none⟩, ⟨(some 26), .call (.c (.fn 60 [])) [(.t 22), (.t 23), (.t 25)], none⟩, ⟨none, .store 6 (.t 3) (.t 26), none⟩] [0, 0, 0, 4, 15, 31]))))))))
 (.seq (.reg [⟨(some 27), .load (some 6) (.t 3), none⟩, ⟨none, .store 6 (.t 2) (.t 27), none⟩])
 .ret)))), [.cell 2 (some 6)]⟩
theorem c106 : compF Tryz.prog Tryz.f106 = some m106 := by kernel_rfl
/-- slices.Index[[]weirgate/lex.class,weirgate/lex.class] -/
def m107 : MFunc := ⟨19, (.seq (.reg [⟨(some 4), .mv (.c (.int .i64 0)), none⟩])
 (.seq (.seq (.reg [⟨(some 6), .mv (.t 0), none⟩, ⟨(some 7), .len (.t 6), none⟩, ⟨(some 8), .mv (.c (.int .i64 0)), none⟩])
 (.block 0 (.loop (.seq (.reg [⟨(some 9), .bin .lss .no (.t 8) (.t 7), none⟩])
   (.seq (.cond (.t 9)
     .skip
     (.exit 0))
   (.seq (.block 1 (.seq (.reg [⟨(some 10), .mv (.t 8), none⟩, ⟨(some 5), .mv (.t 10), none⟩])
    (.seq (.reg [⟨(some 11), .mv (.t 1), none⟩, ⟨(some 12), .mv (.t 0), none⟩, ⟨(some 13), .mv (.t 5), none⟩, ⟨(some 14), .iaddr 1 (.t 12) (.t 13), none⟩, ⟨(some 15), .load none (.t 14), none⟩, ⟨(some 16), .bin .eql .no (.t 11) (.t 15), none⟩])
    (.cond (.t 16)
      (.seq (.reg [⟨(some 17), .mv (.t 5), none⟩, ⟨(some 4), .mv (.t 17), none⟩])
      .ret)
      .skip))))
   (.reg [⟨(some 18), .bin .add .no (.t 8) (.c (.int .i64 1)), none⟩, ⟨(some 8), .mv (.t 18), none⟩])))))))
 (.seq (.reg [⟨(some 4), .mv (.c (.int .i64 (-1))), none⟩])
 .ret))), [.tmp 4]⟩
theorem c107 : compF Tryz.prog Tryz.f107 = some m107 := by kernel_rfl
/-- strings.Fields -/
def m108 : MFunc := ⟨106, (.seq (.reg [⟨(some 2), .mv (.c .nils), none⟩])
 (.seq (.reg [⟨(some 3), .mv (.c (.int .i64 0)), none⟩])
 (.seq (.reg [⟨(some 4), .mv (.c (.int .i64 1)), none⟩])
 (.seq (.reg [⟨(some 5), .mv (.c (.int .u8 0)), none⟩])
 (.seq (.seq (.reg [⟨(some 6), .mv (.c (.int .i64 0)), none⟩])
 (.block 0 (.loop (.seq (.seq (.reg [⟨(some 13), .mv (.t 6), none⟩, ⟨(some 14), .mv (.t 0), none⟩, ⟨(some 15), .lenS (.t 14), none⟩, ⟨(some 16), .bin .lss .no (.t 13) (.t 15), none⟩])
   (.cond (.t 16)
     .skip
     (.exit 0)))
   (.seq (.block 1 (.seq (.reg [⟨(some 19), .mv (.t 0), none⟩, ⟨(some 20), .mv (.t 6), none⟩, ⟨(some 21), .index (.t 19) (.t 20), none⟩, ⟨(some 7), .mv (.t 21), none⟩])
    (.seq (.reg [⟨(some 22), .mv (.t 5), none⟩, ⟨(some 23), .mv (.t 7), none⟩, ⟨(some 24), .bin .or .no (.t 22) (.t 23), none⟩, ⟨(some 5), .mv (.t 24), none⟩])
    (.seq (.reg [⟨(some 25), .mv (.t 7), none⟩, ⟨(some 26), .iaddrA 256 1 (.g 1) (.t 25), none⟩, ⟨(some 27), .load none (.t 26), none⟩, ⟨(some 28), .convI .i64 (.t 27), none⟩, ⟨(some 8), .mv (.t 28), none⟩])
    (.seq (.reg [⟨(some 29), .mv (.t 3), none⟩, ⟨(some 30), .mv (.t 4), none⟩, ⟨(some 31), .mv (.t 8), none⟩, ⟨(some 32), .un .xor (.t 31), none⟩, ⟨(some 33), .bin .and .no (.t 30) (.t 32), none⟩, ⟨(some 34), .bin .add .no (.t 29) (.t 33), none⟩, ⟨(some 3), .mv (.t 34), none⟩])
    (.reg [⟨(some 35), .mv (.t 8), none⟩, ⟨(some 4), .mv (.t 35), none⟩]))))))
   (.reg [⟨(some 17), .mv (.t 6), none⟩, ⟨(some 18), .bin .add .no (.t 17) (.c (.int .i64 1)), none⟩, ⟨(some 6), .mv (.t 18), none⟩]))))))
 (.seq (.seq (.reg [⟨(some 36), .mv (.t 5), none⟩, ⟨(some 37), .bin .geq .no (.t 36) (.c (.int .u8 128)), none⟩])
 (.cond (.t 37)
   (.seq (.reg [⟨(some 38), .mv (.t 0), none⟩, ⟨(some 39), .call (.c (.fn 110 [])) [(.t 38), (.c (.fn 111 []))], none⟩, ⟨(some 2), .mv (.t 39), none⟩])
   .ret)
   .skip))
 (.seq (.reg [⟨(some 40), .mv (.t 3), none⟩, ⟨(some 41), .mkslice 1 16 [(.str [])] (.t 40) (.t 40), none⟩, ⟨(some 9), .mv (.t 41), none⟩])
 (.seq (.reg [⟨(some 10), .mv (.c (.int .i64 0)), none⟩])
 (.seq (.reg [⟨(some 11), .mv (.c (.int .i64 0)), none⟩])
 (.seq (.reg [⟨(some 12), .mv (.c (.int .i64 0)), none⟩])
 (.seq (.block 2 (.loop (.seq (.seq (.reg [⟨(some 42), .mv (.t 12), none⟩, ⟨(some 43), .mv (.t 0), none⟩, ⟨(some 44), .lenS (.t 43), none⟩, ⟨(some 45), .bin .lss .no (.t 42) (.t 44), none⟩, ⟨(some 46), .mv (.t 45), none⟩, ⟨(some 47), .mv (.t 0), (some (46, true))⟩, ⟨(some 48), .mv (.t 12), (some (46, true))⟩, ⟨(some 49), .index (.t 47) (.t 48), (some (46, true))⟩, ⟨(some 50), .iaddrA 256 1 (.g 1) (.t 49), (some (46, true))⟩, ⟨(some 51), .load none (.t 50), (some (46, true))⟩, ⟨(some 52), .bin .neq .no (.t 51) (.c (.int .u8 0)), (some (46, true))⟩, ⟨(some 53), .pick (.t 46) (.t 52) (.c (.bool false)), none⟩])
   (.cond (.t 53)
     .skip
     (.exit 2)))
   (.block 3 (.reg [⟨(some 54), .mv (.t 12), none⟩, ⟨(some 55), .bin .add .no (.t 54) (.c (.int .i64 1)), none⟩, ⟨(some 12), .mv (.t 55), none⟩])))))
 (.seq (.reg [⟨(some 56), .mv (.t 12), none⟩, ⟨(some 11), .mv (.t 56), none⟩])
 (.seq (.block 4 (.loop (.seq (.seq (.reg [⟨(some 57), .mv (.t 12), none⟩, ⟨(some 58), .mv (.t 0), none⟩, ⟨(some 59), .lenS (.t 58), none⟩, ⟨(some 60), .bin .lss .no (.t 57) (.t 59), none⟩])
   (.cond (.t 60)
     .skip
     (.exit 4)))
   (.block 5 (.seq (.seq (.reg [⟨(some 61), .mv (.t 0), none⟩, ⟨(some 62), .mv (.t 12), none⟩, ⟨(some 63), .index (.t 61) (.t 62), none⟩, ⟨(some 64), .iaddrA 256 1 (.g 1) (.t 63), none⟩, ⟨(some 65), .load none (.t 64), none⟩, ⟨(some 66), .bin .eql .no (.t 65) (.c (.int .u8 0)), none⟩])
    (.cond (.t 66)
      (.seq (.reg [⟨(some 67), .mv (.t 12), none⟩, ⟨(some 68), .bin .add .no (.t 67) (.c (.int .i64 1)), none⟩, ⟨(some 12), .mv (.t 68), none⟩])
      (.exit 5))
      .skip))
    (.seq (.reg [⟨(some 69), .mv (.t 9), none⟩, ⟨(some 70), .mv (.t 10), none⟩, ⟨(some 71), .mv (.t 0), none⟩, ⟨(some 72), .mv (.t 11), none⟩, ⟨(some 73), .mv (.t 12), none⟩, ⟨(some 74), .cutS (.t 71) (some (.t 72)) (some (.t 73)), none⟩, ⟨(some 75), .iaddr 1 (.t 69) (.t 70), none⟩, ⟨none, .store 1 (.t 75) (.t 74), none⟩])
    (.seq (.reg [⟨(some 76), .mv (.t 10), none⟩, ⟨(some 77), .bin .add .no (.t 76) (.c (.int .i64 1)), none⟩, ⟨(some 10), .mv (.t 77), none⟩])
    (.seq (.reg [⟨(some 78), .mv (.t 12), none⟩, ⟨(some 79), .bin .add .no (.t 78) (.c (.int .i64 1)), none⟩, ⟨(some 12), .mv (.t 79), none⟩])
    (.seq (.block 6 (.loop (.seq (.seq (.reg [⟨(some 80), .mv (.t 12), none⟩, ⟨(some 81), .mv (.t 0), none⟩, ⟨(some 82), .lenS (.t 81), none⟩, ⟨(some 83), .bin .lss .no (.t 80) (.t 82), none⟩, ⟨(some 84), .mv (.t 83), none⟩, ⟨(some 85), .mv (.t 0), (some (84, true))⟩, ⟨(some 86), .mv (.t 12), (some (84, true))⟩, ⟨(some 87), .index (.t 85) (.t 86), (some (84, true))⟩, ⟨(some 88), .iaddrA 256 1 (.g 1) (.t 87), (some (84, true))⟩, ⟨(some 89), .load none (.t 88), (some (84, true))⟩, ⟨(some 90), .bin .neq .no (.t 89) (.c (.int .u8 0)), (some (84, true))⟩, ⟨(some 91), .pick (.t 84) (.t 90) (.c (.bool false)), none⟩])
      (.cond (.t 91)
        .skip
        (.exit 6)))
      (.block 7 (.reg [⟨(some 92), .mv (.t 12), none⟩, ⟨(some 93), .bin .add .no (.t 92) (.c (.int .i64 1)), none⟩, ⟨(some 12), .mv (.t 93), none⟩])))))
    (.reg [⟨(some 94), .mv (.t 12), none⟩, ⟨(some 11), .mv (.t 94), none⟩]))))))))))
 (.seq (.seq (.reg [⟨(some 95), .mv (.t 11), none⟩, ⟨(some 96), .mv (.t 0), none⟩, ⟨(some 97), .lenS (.t 96), none⟩, ⟨(some 98), .bin .lss .no (.t 95) (.t 97), none⟩])
 (.cond (.t 98)
   (.reg [⟨(some 99), .mv (.t 9), none⟩, ⟨(some 100), .mv (.t 10), none⟩, ⟨(some 101), .mv (.t 0), none⟩, ⟨(some 102), .mv (.t 11), none⟩, ⟨(some 103), .cutS (.t 101) (some (.t 102)) none, none⟩, ⟨(some 104), .iaddr 1 (.t 99) (.t 100), none⟩, ⟨none, .store 1 (.t 104) (.t 103), none⟩])
   .skip))
 (.seq (.reg [⟨(some 105), .mv (.t 9), none⟩, ⟨(some 2), .mv (.t 105), none⟩])
 .ret))))))))))))))), [.tmp 2]⟩
theorem c108 : compF Tryz.prog Tryz.f108 = some m108 := by kernel_rfl
/-- (*weirgate/weirgateref09.P).product -/
def m109 : MFunc := ⟨34, (.seq (.reg [⟨(some 2), .alloc [(.int .i64 0), .nils, .nils, .nils, (.int .i64 0), .nils], none⟩])
 (.seq (.reg [⟨(some 5), .mv (.t 0), none⟩, ⟨(some 6), .call (.c (.fn 112 [])) [(.t 5)], none⟩, ⟨(some 3), .alloc [(.int .i64 0), .nils, .nils, .nils, (.int .i64 0), .nils], none⟩, ⟨none, .store 6 (.t 3) (.t 6), none⟩])
 (.seq (.block 0 (.loop (.seq (.seq (.reg [⟨(some 7), .mv (.t 0), none⟩, ⟨(some 8), .call (.c (.fn 33 [])) [(.t 7), (.c (.str [42]))], none⟩, ⟨(some 9), .mv (.t 8), none⟩, ⟨(some 10), .mv (.t 0), (some (9, false))⟩, ⟨(some 11), .call (.c (.fn 33 [])) [(.t 10), (.c (.str [47]))], (some (9, false))⟩, ⟨(some 12), .pick (.t 9) (.c (.bool true)) (.t 11), none⟩, ⟨(some 13), .mv (.t 12), none⟩, ⟨(some 14), .mv (.t 0), (some (13, false))⟩, ⟨(some 15), .call (.c (.fn 33 [])) [(.t 14), (.c (.str [37]))], (some (13, false))⟩, ⟨(some 16), .pick (.t 13) (.c (.bool true)) (.t 15), none⟩])
   (.cond (.t 16)
     .skip
     (.exit 0)))
   (.block 1 (.seq (.reg [⟨(some 4), .mv (.c (.int .i64 8)), none⟩])
    (.seq (.seq (.reg [⟨(some 17), .mv (.t 0), none⟩, ⟨(some 18), .call (.c (.fn 33 [])) [(.t 17), (.c (.str [42]))], none⟩])
    (.cond (.t 18)
      (.reg [⟨(some 4), .mv (.c (.int .i64 6)), none⟩])
      (.seq (.reg [⟨(some 19), .mv (.t 0), none⟩, ⟨(some 20), .call (.c (.fn 33 [])) [(.t 19), (.c (.str [47]))], none⟩])
      (.cond (.t 20)
        (.reg [⟨(some 4), .mv (.c (.int .i64 7)), none⟩])
        .skip))))
    (.seq (.reg [⟨(some 21), .mv (.t 0), none⟩, ⟨(some 22), .nilc (.t 21), none⟩, ⟨(some 23), .faddr 1 (.t 22), none⟩, ⟨(some 24), .load none (.t 23), none⟩, ⟨(some 25), .bin .add .no (.t 24) (.c (.int .i64 1)), none⟩, ⟨(some 26), .nilc (.t 21), none⟩, ⟨(some 27), .faddr 1 (.t 26), none⟩, ⟨none, .store 1 (.t 27) (.t 25), none⟩])
    (.draw [⟨(some 28), .mv (.t 4), none⟩, ⟨(some 29), .load (some 6) (.t 3), none⟩, ⟨(some 30), .mv (.t 0), none⟩, ⟨(some 31), .call (.c (.fn 112 [])) [(.t 30)], none⟩, ⟨(some 32), .call (.c (.fn 60 [])) [(.t 28), (.t 29), (.t 31)], none⟩, ⟨none, .store 6 (.t 3) (.t 32), none⟩] [0, 0, 0, 4, 15, 31]))))))))
 (.seq (.reg [⟨(some 33), .load (some 6) (.t 3), none⟩, ⟨none, .store 6 (.t 2) (.t 33), none⟩])
 .ret)))), [.cell 2 (some 6)]⟩
theorem c109 : compF Tryz.prog Tryz.f109 = some m109 := by kernel_rfl
/-- strings.FieldsFunc -/
def m110 : MFunc := ⟨65, (.seq (.reg [⟨(some 4), .mv (.c .nils), none⟩])
 (.seq (.reg [⟨(some 12), .mkslice 2 16 [(.int .i64 0), (.int .i64 0)] (.c (.int .i64 0)) (.c (.int .i64 32)), none⟩, ⟨(some 5), .mv (.t 12), none⟩])
 (.seq (.reg [⟨(some 6), .mv (.c (.int .i64 (-1))), none⟩])
 (.seq (.seq (.reg [⟨(some 13), .mv (.t 0), none⟩, ⟨(some 14), .call (.c .undef) [], none⟩])
 (.block 0 (.loop (.seq (.reg [⟨(some 15), .call (.c .undef) [], none⟩, ⟨(some 16), .extract (.t 15) 0, none⟩])
   (.seq (.cond (.t 16)
     .skip
     (.exit 0))
   (.block 1 (.seq (.reg [⟨(some 17), .extract (.t 15) 1, none⟩, ⟨(some 18), .extract (.t 15) 2, none⟩, ⟨(some 7), .mv (.t 17), none⟩, ⟨(some 8), .mv (.t 18), none⟩])
    (.seq (.reg [⟨(some 19), .mv (.t 1), none⟩, ⟨(some 20), .mv (.t 8), none⟩, ⟨(some 21), .call (.t 19) [(.t 20)], none⟩])
    (.cond (.t 21)
      (.seq (.reg [⟨(some 22), .mv (.t 6), none⟩, ⟨(some 23), .bin .geq .no (.t 22) (.c (.int .i64 0)), none⟩])
      (.cond (.t 23)
        (.seq (.reg [⟨(some 24), .mv (.t 5), none⟩, ⟨(some 25), .mv (.t 6), none⟩, ⟨(some 26), .mv (.t 7), none⟩, ⟨(some 27), .build [(.int .i64 0), (.int .i64 0)] [(0, 1, (.t 25)), (1, 1, (.t 26))], none⟩, ⟨(some 28), .bslice 2 1 [(.int .i64 0), (.int .i64 0)] [(0, 2, (.t 27))], none⟩, ⟨(some 29), .append 2 16 (.t 24) (.t 28), none⟩, ⟨(some 5), .mv (.t 29), none⟩])
        (.reg [⟨(some 30), .mv (.t 6), none⟩, ⟨(some 31), .un .xor (.t 30), none⟩, ⟨(some 6), .mv (.t 31), none⟩]))
        .skip))
      (.seq (.reg [⟨(some 32), .mv (.t 6), none⟩, ⟨(some 33), .bin .lss .no (.t 32) (.c (.int .i64 0)), none⟩])
      (.cond (.t 33)
        (.reg [⟨(some 34), .mv (.t 7), none⟩, ⟨(some 6), .mv (.t 34), none⟩])
        .skip)))))))))))
 (.seq (.seq (.reg [⟨(some 35), .mv (.t 6), none⟩, ⟨(some 36), .bin .geq .no (.t 35) (.c (.int .i64 0)), none⟩])
 (.cond (.t 36)
   (.reg [⟨(some 37), .mv (.t 5), none⟩, ⟨(some 38), .mv (.t 6), none⟩, ⟨(some 39), .mv (.t 0), none⟩, ⟨(some 40), .lenS (.t 39), none⟩, ⟨(some 41), .build [(.int .i64 0), (.int .i64 0)] [(0, 1, (.t 38)), (1, 1, (.t 40))], none⟩, ⟨(some 42), .bslice 2 1 [(.int .i64 0), (.int .i64 0)] [(0, 2, (.t 41))], none⟩, ⟨(some 43), .append 2 16 (.t 37) (.t 42), none⟩, ⟨(some 5), .mv (.t 43), none⟩])
   .skip))
 (.seq (.reg [⟨(some 44), .mv (.t 5), none⟩, ⟨(some 45), .len (.t 44), none⟩, ⟨(some 46), .mkslice 1 16 [(.str [])] (.t 45) (.t 45), none⟩, ⟨(some 9), .mv (.t 46), none⟩])
 (.seq (.seq (.reg [⟨(some 47), .mv (.t 5), none⟩, ⟨(some 48), .len (.t 47), none⟩, ⟨(some 49), .mv (.c (.int .i64 0)), none⟩])
 (.block 2 (.loop (.seq (.reg [⟨(some 50), .bin .lss .no (.t 49) (.t 48), none⟩])
   (.seq (.cond (.t 50)
     .skip
     (.exit 2))
   (.seq (.block 3 (.seq (.reg [⟨(some 51), .mv (.t 49), none⟩, ⟨(some 52), .iaddr 2 (.t 47) (.t 49), none⟩, ⟨(some 53), .load (some 2) (.t 52), none⟩, ⟨(some 11), .alloc [(.int .i64 0), (.int .i64 0)], none⟩, ⟨(some 10), .mv (.t 51), none⟩, ⟨none, .store 2 (.t 11) (.t 53), none⟩])
    (.reg [⟨(some 54), .mv (.t 9), none⟩, ⟨(some 55), .mv (.t 10), none⟩, ⟨(some 56), .mv (.t 0), none⟩, ⟨(some 57), .faddr 0 (.t 11), none⟩, ⟨(some 58), .load none (.t 57), none⟩, ⟨(some 59), .faddr 1 (.t 11), none⟩, ⟨(some 60), .load none (.t 59), none⟩, ⟨(some 61), .cutS (.t 56) (some (.t 58)) (some (.t 60)), none⟩, ⟨(some 62), .iaddr 1 (.t 54) (.t 55), none⟩, ⟨none, .store 1 (.t 62) (.t 61), none⟩])))
   (.reg [⟨(some 63), .bin .add .no (.t 49) (.c (.int .i64 1)), none⟩, ⟨(some 49), .mv (.t 63), none⟩])))))))
 (.seq (.reg [⟨(some 64), .mv (.t 9), none⟩, ⟨(some 4), .mv (.t 64), none⟩])
 .ret)))))))), [.tmp 4]⟩
theorem c110 : compF Tryz.prog Tryz.f110 = some m110 := by kernel_rfl
/-- unicode.IsSpace -/
def m111 : MFunc := ⟨19, (.seq (.reg [⟨(some 2), .mv (.c (.bool false)), none⟩])
 (.seq (.seq (.reg [⟨(some 3), .mv (.t 0), none⟩, ⟨(some 4), .convI .u32 (.t 3), none⟩, ⟨(some 5), .bin .leq .no (.t 4) (.c (.int .u32 255)), none⟩])
 (.cond (.t 5)
   (.seq (.seq (.reg [⟨(some 6), .mv (.t 0), none⟩])
   (.block 0 (.seq (.seq (.reg [⟨(some 8), .bin .eql .no (.t 6) (.c (.int .i32 9)), none⟩, ⟨(some 7), .mv (.t 8), none⟩])
    (.cond (.t 7)
      .skip
      (.seq (.reg [⟨(some 9), .bin .eql .no (.t 6) (.c (.int .i32 10)), none⟩, ⟨(some 7), .mv (.t 9), none⟩])
      (.cond (.t 7)
        .skip
        (.seq (.reg [⟨(some 10), .bin .eql .no (.t 6) (.c (.int .i32 11)), none⟩, ⟨(some 7), .mv (.t 10), none⟩])
        (.cond (.t 7)
          .skip
          (.seq (.reg [⟨(some 11), .bin .eql .no (.t 6) (.c (.int .i32 12)), none⟩, ⟨(some 7), .mv (.t 11), none⟩])
          (.cond (.t 7)
            .skip
            (.seq (.reg [⟨(some 12), .bin .eql .no (.t 6) (.c (.int .i32 13)), none⟩, ⟨(some 7), .mv (.t 12), none⟩])
            (.cond (.t 7)
              .skip
              (.seq (.reg [⟨(some 13), .bin .eql .no (.t 6) (.c (.int .i32 32)), none⟩, ⟨(some 7), .mv (.t 13), none⟩])
              (.cond (.t 7)
                .skip
                (.seq (.reg [⟨(some 14), .bin .eql .no (.t 6) (.c (.int .i32 133)), none⟩, ⟨(some 7), .mv (.t 14), none⟩])
                (.cond (.t 7)
                  .skip
                  (.reg [⟨(some 15), .bin .eql .no (.t 6) (.c (.int .i32 160)), none⟩, ⟨(some 7), .mv (.t 15), none⟩])))))))))))))))
    (.cond (.t 7)
      (.seq (.reg [⟨(some 2), .mv (.c (.bool true)), none⟩])
      .ret)
      .skip))))
   (.seq (.reg [⟨(some 2), .mv (.c (.bool false)), none⟩])
   .ret))
   .skip))
 (.seq (.reg [⟨(some 16), .load none (.g 2), none⟩, ⟨(some 17), .mv (.t 0), none⟩, ⟨(some 18), .call (.c (.fn 113 [])) [(.t 16), (.t 17)], none⟩, ⟨(some 2), .mv (.t 18), none⟩])
 .ret))), [.tmp 2]⟩
theorem c111 : compF Tryz.prog Tryz.f111 = some m111 := by kernel_rfl
/-- (*weirgate/weirgateref09.P).part -/
def m112 : MFunc := ⟨106, (.seq (.reg [⟨(some 2), .alloc [(.int .i64 0), .nils, .nils, .nils, (.int .i64 0), .nils], none⟩])
 (.seq (.reg [⟨(some 4), .mv (.t 0), none⟩, ⟨(some 5), .call (.c (.fn 23 [])) [(.t 4), (.c (.int .i64 17))], none⟩, ⟨(some 3), .alloc [(.int .i64 0), .nils, .nils, .nils, (.int .i64 0), .nils], none⟩, ⟨none, .store 6 (.t 3) (.t 5), none⟩])
 (.seq (.block 0 (.seq (.reg [⟨(some 18), .mv (.t 0), none⟩, ⟨(some 19), .call (.c (.fn 24 [])) [(.t 18)], none⟩, ⟨(some 20), .mv (.t 19), none⟩, ⟨(some 21), .mv (.t 0), (some (20, true))⟩, ⟨(some 22), .call (.c (.fn 25 [])) [(.t 21)], (some (20, true))⟩, ⟨(some 23), .field none 0 (.t 22), (some (20, true))⟩, ⟨(some 24), .bin .eql .no (.t 23) (.c (.int .i64 1)), (some (20, true))⟩, ⟨(some 25), .pick (.t 20) (.t 24) (.c (.bool false)), none⟩, ⟨(some 17), .mv (.t 25), none⟩])
  (.cond (.t 17)
    (.draw [⟨(some 26), .faddr 0 (.t 3), none⟩, ⟨(some 27), .faddr 2 (.t 26), none⟩, ⟨(some 28), .load none (.t 27), none⟩, ⟨(some 29), .mv (.t 0), none⟩, ⟨(some 30), .call (.c (.fn 39 [])) [(.t 29)], none⟩, ⟨(some 31), .bslice 1 1 [(.int .i64 0)] [(0, 1, (.t 30))], none⟩, ⟨(some 32), .append 1 8 (.t 28) (.t 31), none⟩, ⟨(some 33), .faddr 0 (.t 3), none⟩, ⟨(some 34), .faddr 2 (.t 33), none⟩, ⟨none, .store 1 (.t 34) (.t 32), none⟩] [0, 1, 3, 0, 8, 24, 63, 127, 255, 511])
    (.seq (.reg [⟨(some 36), .mv (.t 0), none⟩, ⟨(some 37), .call (.c (.fn 36 [])) [(.t 36), (.c (.str [108, 101, 110]))], none⟩, ⟨(some 35), .mv (.t 37), none⟩])
    (.cond (.t 35)
      (.seq (.reg [⟨(some 38), .faddr 0 (.t 3), none⟩, ⟨(some 39), .faddr 0 (.t 38), none⟩, ⟨none, .store 1 (.t 39) (.c (.int .i64 19)), none⟩])
      (.draw [⟨(some 40), .faddr 0 (.t 3), none⟩, ⟨(some 41), .faddr 1 (.t 40), none⟩, ⟨(some 42), .load none (.t 41), none⟩, ⟨(some 43), .mv (.t 0), none⟩, ⟨(some 44), .call (.c (.fn 37 [])) [(.t 43)], none⟩, ⟨(some 45), .bslice 1 1 [(.str [])] [(0, 1, (.t 44))], none⟩, ⟨(some 46), .append 1 16 (.t 42) (.t 45), none⟩, ⟨(some 47), .faddr 0 (.t 3), none⟩, ⟨(some 48), .faddr 1 (.t 47), none⟩, ⟨none, .store 1 (.t 48) (.t 46), none⟩] [0, 1, 3, 0, 8, 24, 63, 127, 255, 511]))
      (.seq (.reg [⟨(some 50), .mv (.t 0), none⟩, ⟨(some 51), .call (.c (.fn 33 [])) [(.t 50), (.c (.str [45]))], none⟩, ⟨(some 52), .mv (.t 51), none⟩, ⟨(some 53), .mv (.t 0), (some (52, false))⟩, ⟨(some 54), .call (.c (.fn 33 [])) [(.t 53), (.c (.str [33]))], (some (52, false))⟩, ⟨(some 55), .pick (.t 52) (.c (.bool true)) (.t 54), none⟩, ⟨(some 49), .mv (.t 55), none⟩])
      (.cond (.t 49)
        (.seq (.reg [⟨(some 56), .faddr 0 (.t 3), none⟩, ⟨(some 57), .faddr 0 (.t 56), none⟩, ⟨none, .store 1 (.t 57) (.c (.int .i64 21)), none⟩])
        (.seq (.seq (.reg [⟨(some 58), .mv (.t 0), none⟩, ⟨(some 59), .call (.c (.fn 33 [])) [(.t 58), (.c (.str [45]))], none⟩])
        (.cond (.t 59)
          (.reg [⟨(some 60), .faddr 0 (.t 3), none⟩, ⟨(some 61), .faddr 0 (.t 60), none⟩, ⟨none, .store 1 (.t 61) (.c (.int .i64 20)), none⟩])
          .skip))
        (.seq (.reg [⟨(some 62), .mv (.t 0), none⟩, ⟨(some 63), .nilc (.t 62), none⟩, ⟨(some 64), .faddr 1 (.t 63), none⟩, ⟨(some 65), .load none (.t 64), none⟩, ⟨(some 66), .bin .add .no (.t 65) (.c (.int .i64 1)), none⟩, ⟨(some 67), .nilc (.t 62), none⟩, ⟨(some 68), .faddr 1 (.t 67), none⟩, ⟨none, .store 1 (.t 68) (.t 66), none⟩])
        (.seq (.reg [⟨(some 69), .mv (.t 0), none⟩, ⟨(some 70), .call (.c (.fn 55 [])) [(.t 69)], none⟩])
        (.seq (.seq (.reg [⟨(some 71), .mv (.t 0), none⟩, ⟨(some 72), .call (.c (.fn 24 [])) [(.t 71)], none⟩])
        (.cond (.t 72)
          (.draw [⟨(some 73), .faddr 5 (.t 3), none⟩, ⟨(some 74), .load none (.t 73), none⟩, ⟨(some 75), .mv (.t 0), none⟩, ⟨(some 76), .call (.c (.fn 112 [])) [(.t 75)], none⟩, ⟨(some 77), .bslice 6 1 [(.int .i64 0), .nils, .nils, .nils, (.int .i64 0), .nils] [(0, 6, (.t 76))], none⟩, ⟨(some 78), .append 6 112 (.t 74) (.t 77), none⟩, ⟨(some 79), .faddr 5 (.t 3), none⟩, ⟨none, .store 1 (.t 79) (.t 78), none⟩] [0, 1, 0, 4, 12, 31, 63, 127])
          .skip))
        (.reg [⟨(some 80), .mv (.t 0), none⟩, ⟨(some 81), .nilc (.t 80), none⟩, ⟨(some 82), .faddr 2 (.t 81), none⟩, ⟨(some 83), .load none (.t 82), none⟩, ⟨(some 84), .bin .sub .no (.t 83) (.c (.int .i64 1)), none⟩, ⟨(some 85), .nilc (.t 80), none⟩, ⟨(some 86), .faddr 2 (.t 85), none⟩, ⟨none, .store 1 (.t 86) (.t 84), none⟩]))))))
        (.seq (.reg [⟨(some 88), .mv (.t 0), none⟩, ⟨(some 89), .call (.c (.fn 36 [])) [(.t 88), (.c (.str [40]))], none⟩, ⟨(some 87), .mv (.t 89), none⟩])
        (.cond (.t 87)
          (.seq (.reg [⟨(some 90), .mv (.t 0), none⟩, ⟨(some 91), .call (.c (.fn 55 [])) [(.t 90)], none⟩])
          (.seq (.seq (.reg [⟨(some 92), .mv (.t 0), none⟩, ⟨(some 93), .call (.c (.fn 24 [])) [(.t 92)], none⟩])
          (.cond (.t 93)
            (.reg [⟨(some 94), .mv (.t 0), none⟩, ⟨(some 95), .call (.c (.fn 41 [])) [(.t 94)], none⟩, ⟨none, .store 6 (.t 3) (.t 95), none⟩])
            .skip))
          (.seq (.reg [⟨(some 96), .mv (.t 0), none⟩, ⟨(some 97), .nilc (.t 96), none⟩, ⟨(some 98), .faddr 2 (.t 97), none⟩, ⟨(some 99), .load none (.t 98), none⟩, ⟨(some 100), .bin .sub .no (.t 99) (.c (.int .i64 1)), none⟩, ⟨(some 101), .nilc (.t 96), none⟩, ⟨(some 102), .faddr 2 (.t 101), none⟩, ⟨none, .store 1 (.t 102) (.t 100), none⟩])
          (.reg [⟨(some 103), .mv (.t 0), none⟩, ⟨(some 104), .call (.c (.fn 38 [])) [(.t 103), (.c (.str [41]))], none⟩]))))
          (.seq (.reg [⟨(some 6), .faddr 0 (.t 3), none⟩, ⟨(some 7), .faddr 0 (.t 6), none⟩, ⟨none, .store 1 (.t 7) (.c (.int .i64 18)), none⟩])
          (.draw [⟨(some 8), .faddr 0 (.t 3), none⟩, ⟨(some 9), .faddr 1 (.t 8), none⟩, ⟨(some 10), .load none (.t 9), none⟩, ⟨(some 11), .mv (.t 0), none⟩, ⟨(some 12), .call (.c (.fn 37 [])) [(.t 11)], none⟩, ⟨(some 13), .bslice 1 1 [(.str [])] [(0, 1, (.t 12))], none⟩, ⟨(some 14), .append 1 16 (.t 10) (.t 13), none⟩, ⟨(some 15), .faddr 0 (.t 3), none⟩, ⟨(some 16), .faddr 1 (.t 15), none⟩, ⟨none, .store 1 (.t 16) (.t 14), none⟩] [0, 1, 3, 0, 8, 24, 63, 127, 255, 511])))))))))))
 (.seq (.reg [⟨(some 105), .load (some 6) (.t 3), none⟩, ⟨none, .store 6 (.t 2) (.t 105), none⟩])
 .ret)))), [.cell 2 (some 6)]⟩
theorem c112 : compF Tryz.prog Tryz.f112 = some m112 := by kernel_rfl
/-- unicode.isExcludingLatin -/
def m113 : MFunc := ⟨59, (.seq (.reg [⟨(some 4), .mv (.c (.bool false)), none⟩])
 (.seq (.reg [⟨(some 8), .mv (.t 0), none⟩, ⟨(some 9), .nilc (.t 8), none⟩, ⟨(some 10), .faddr 0 (.t 9), none⟩, ⟨(some 11), .load none (.t 10), none⟩, ⟨(some 5), .mv (.t 11), none⟩])
 (.seq (.seq (.reg [⟨(some 12), .mv (.t 0), none⟩, ⟨(some 13), .nilc (.t 12), none⟩, ⟨(some 14), .faddr 2 (.t 13), none⟩, ⟨(some 15), .load none (.t 14), none⟩, ⟨(some 6), .mv (.t 15), none⟩])
 (.seq (.reg [⟨(some 16), .mv (.t 5), none⟩, ⟨(some 17), .len (.t 16), none⟩, ⟨(some 18), .mv (.t 6), none⟩, ⟨(some 19), .bin .gtr .no (.t 17) (.t 18), none⟩, ⟨(some 20), .mv (.t 19), none⟩, ⟨(some 21), .mv (.t 1), (some (20, true))⟩, ⟨(some 22), .convI .u32 (.t 21), (some (20, true))⟩, ⟨(some 23), .mv (.t 5), (some (20, true))⟩, ⟨(some 24), .mv (.t 5), (some (20, true))⟩, ⟨(some 25), .len (.t 24), (some (20, true))⟩, ⟨(some 26), .bin .sub .no (.t 25) (.c (.int .i64 1)), (some (20, true))⟩, ⟨(some 27), .iaddr 3 (.t 23) (.t 26), (some (20, true))⟩, ⟨(some 28), .faddr 1 (.t 27), (some (20, true))⟩, ⟨(some 29), .load none (.t 28), (some (20, true))⟩, ⟨(some 30), .convI .u32 (.t 29), (some (20, true))⟩, ⟨(some 31), .bin .leq .no (.t 22) (.t 30), (some (20, true))⟩, ⟨(some 32), .pick (.t 20) (.t 31) (.c (.bool false)), none⟩])
 (.cond (.t 32)
   (.seq (.reg [⟨(some 33), .mv (.t 5), none⟩, ⟨(some 34), .mv (.t 6), none⟩, ⟨(some 35), .cut 3 (.t 33) (some (.t 34)) none none, none⟩, ⟨(some 36), .mv (.t 1), none⟩, ⟨(some 37), .convI .u16 (.t 36), none⟩, ⟨(some 38), .call (.c (.fn 114 [])) [(.t 35), (.t 37)], none⟩, ⟨(some 4), .mv (.t 38), none⟩])
   .ret)
   .skip)))
 (.seq (.reg [⟨(some 39), .mv (.t 0), none⟩, ⟨(some 40), .nilc (.t 39), none⟩, ⟨(some 41), .faddr 1 (.t 40), none⟩, ⟨(some 42), .load none (.t 41), none⟩, ⟨(some 7), .mv (.t 42), none⟩])
 (.seq (.seq (.reg [⟨(some 43), .mv (.t 7), none⟩, ⟨(some 44), .len (.t 43), none⟩, ⟨(some 45), .bin .gtr .no (.t 44) (.c (.int .i64 0)), none⟩, ⟨(some 46), .mv (.t 45), none⟩, ⟨(some 47), .mv (.t 1), (some (46, true))⟩, ⟨(some 48), .mv (.t 7), (some (46, true))⟩, ⟨(some 49), .iaddr 3 (.t 48) (.c (.int .i64 0)), (some (46, true))⟩, ⟨(some 50), .faddr 0 (.t 49), (some (46, true))⟩, ⟨(some 51), .load none (.t 50), (some (46, true))⟩, ⟨(some 52), .convI .i32 (.t 51), (some (46, true))⟩, ⟨(some 53), .bin .geq .no (.t 47) (.t 52), (some (46, true))⟩, ⟨(some 54), .pick (.t 46) (.t 53) (.c (.bool false)), none⟩])
 (.cond (.t 54)
   (.seq (.reg [⟨(some 55), .mv (.t 7), none⟩, ⟨(some 56), .mv (.t 1), none⟩, ⟨(some 57), .convI .u32 (.t 56), none⟩, ⟨(some 58), .call (.c (.fn 115 [])) [(.t 55), (.t 57)], none⟩, ⟨(some 4), .mv (.t 58), none⟩])
   .ret)
   .skip))
 (.seq (.reg [⟨(some 4), .mv (.c (.bool false)), none⟩])
 .ret)))))), [.tmp 4]⟩
theorem c113 : compF Tryz.prog Tryz.f113 = some m113 := by kernel_rfl
/-- unicode.is16 -/
def m114 : MFunc := ⟨114, (.seq (.reg [⟨(some 4), .mv (.c (.bool false)), none⟩])
 (.seq (.seq (.reg [⟨(some 11), .mv (.t 0), none⟩, ⟨(some 12), .len (.t 11), none⟩, ⟨(some 13), .bin .leq .no (.t 12) (.c (.int .i64 18)), none⟩, ⟨(some 14), .mv (.t 13), none⟩, ⟨(some 15), .mv (.t 1), (some (14, false))⟩, ⟨(some 16), .bin .leq .no (.t 15) (.c (.int .u16 255)), (some (14, false))⟩, ⟨(some 17), .pick (.t 14) (.c (.bool true)) (.t 16), none⟩])
 (.cond (.t 17)
   (.seq (.seq (.reg [⟨(some 18), .mv (.t 0), none⟩, ⟨(some 19), .len (.t 18), none⟩, ⟨(some 20), .mv (.c (.int .i64 0)), none⟩])
   (.block 0 (.loop (.seq (.reg [⟨(some 21), .bin .lss .no (.t 20) (.t 19), none⟩])
     (.seq (.cond (.t 21)
       .skip
       (.exit 0))
     (.seq (.block 1 (.seq (.reg [⟨(some 22), .mv (.t 20), none⟩, ⟨(some 5), .mv (.t 22), none⟩])
      (.seq (.reg [⟨(some 23), .mv (.t 0), none⟩, ⟨(some 24), .mv (.t 5), none⟩, ⟨(some 25), .iaddr 3 (.t 23) (.t 24), none⟩, ⟨(some 6), .mv (.t 25), none⟩])
      (.seq (.seq (.reg [⟨(some 26), .mv (.t 1), none⟩, ⟨(some 27), .mv (.t 6), none⟩, ⟨(some 28), .nilc (.t 27), none⟩, ⟨(some 29), .faddr 0 (.t 28), none⟩, ⟨(some 30), .load none (.t 29), none⟩, ⟨(some 31), .bin .lss .no (.t 26) (.t 30), none⟩])
      (.cond (.t 31)
        (.seq (.reg [⟨(some 4), .mv (.c (.bool false)), none⟩])
        .ret)
        .skip))
      (.seq (.reg [⟨(some 32), .mv (.t 1), none⟩, ⟨(some 33), .mv (.t 6), none⟩, ⟨(some 34), .nilc (.t 33), none⟩, ⟨(some 35), .faddr 1 (.t 34), none⟩, ⟨(some 36), .load none (.t 35), none⟩, ⟨(some 37), .bin .leq .no (.t 32) (.t 36), none⟩])
      (.cond (.t 37)
        (.seq (.draw [⟨(some 38), .mv (.t 6), none⟩, ⟨(some 39), .nilc (.t 38), none⟩, ⟨(some 40), .faddr 2 (.t 39), none⟩, ⟨(some 41), .load none (.t 40), none⟩, ⟨(some 42), .bin .eql .no (.t 41) (.c (.int .u16 1)), none⟩, ⟨(some 43), .mv (.t 42), none⟩, ⟨(some 44), .mv (.t 1), (some (43, false))⟩, ⟨(some 45), .mv (.t 6), (some (43, false))⟩, ⟨(some 46), .nilc (.t 45), (some (43, false))⟩, ⟨(some 47), .faddr 0 (.t 46), (some (43, false))⟩, ⟨(some 48), .load none (.t 47), (some (43, false))⟩, ⟨(some 49), .bin .sub .no (.t 44) (.t 48), (some (43, false))⟩, ⟨(some 50), .mv (.t 6), (some (43, false))⟩, ⟨(some 51), .nilc (.t 50), (some (43, false))⟩, ⟨(some 52), .faddr 2 (.t 51), (some (43, false))⟩, ⟨(some 53), .load none (.t 52), (some (43, false))⟩, ⟨(some 54), .bin .rem .no (.t 49) (.t 53), (some (43, false))⟩, ⟨(some 55), .bin .eql .no (.t 54) (.c (.int .u16 0)), (some (43, false))⟩, ⟨(some 56), .pick (.t 43) (.c (.bool true)) (.t 55), none⟩, ⟨(some 4), .mv (.t 56), none⟩] [0, 1, 3, 7, 15, 31, 63, 63, 191, 447, 959, 2047, 63, 4159, 12351, 28735, 65535, 131071, 262143, 524287])
        .ret)
        .skip))))))
     (.reg [⟨(some 57), .bin .add .no (.t 20) (.c (.int .i64 1)), none⟩, ⟨(some 20), .mv (.t 57), none⟩])))))))
   (.seq (.reg [⟨(some 4), .mv (.c (.bool false)), none⟩])
   .ret))
   .skip))
 (.seq (.reg [⟨(some 7), .mv (.c (.int .i64 0)), none⟩])
 (.seq (.reg [⟨(some 58), .mv (.t 0), none⟩, ⟨(some 59), .len (.t 58), none⟩, ⟨(some 8), .mv (.t 59), none⟩])
 (.seq (.block 2 (.loop (.seq (.seq (.reg [⟨(some 60), .mv (.t 7), none⟩, ⟨(some 61), .mv (.t 8), none⟩, ⟨(some 62), .bin .lss .no (.t 60) (.t 61), none⟩])
   (.cond (.t 62)
     .skip
     (.exit 2)))
   (.block 3 (.seq (.reg [⟨(some 63), .mv (.t 7), none⟩, ⟨(some 64), .mv (.t 8), none⟩, ⟨(some 65), .bin .add .no (.t 63) (.t 64), none⟩, ⟨(some 66), .convI .u64 (.t 65), none⟩, ⟨(some 67), .bin .shr .no (.t 66) (.c (.int .u64 1)), none⟩, ⟨(some 68), .convI .i64 (.t 67), none⟩, ⟨(some 9), .mv (.t 68), none⟩])
    (.seq (.reg [⟨(some 69), .mv (.t 0), none⟩, ⟨(some 70), .mv (.t 9), none⟩, ⟨(some 71), .iaddr 3 (.t 69) (.t 70), none⟩, ⟨(some 10), .mv (.t 71), none⟩])
    (.seq (.seq (.reg [⟨(some 72), .mv (.t 10), none⟩, ⟨(some 73), .nilc (.t 72), none⟩, ⟨(some 74), .faddr 0 (.t 73), none⟩, ⟨(some 75), .load none (.t 74), none⟩, ⟨(some 76), .mv (.t 1), none⟩, ⟨(some 77), .bin .leq .no (.t 75) (.t 76), none⟩, ⟨(some 78), .mv (.t 77), none⟩, ⟨(some 79), .mv (.t 1), (some (78, true))⟩, ⟨(some 80), .mv (.t 10), (some (78, true))⟩, ⟨(some 81), .nilc (.t 80), (some (78, true))⟩, ⟨(some 82), .faddr 1 (.t 81), (some (78, true))⟩, ⟨(some 83), .load none (.t 82), (some (78, true))⟩, ⟨(some 84), .bin .leq .no (.t 79) (.t 83), (some (78, true))⟩, ⟨(some 85), .pick (.t 78) (.t 84) (.c (.bool false)), none⟩])
    (.cond (.t 85)
      (.seq (.draw [⟨(some 86), .mv (.t 10), none⟩, ⟨(some 87), .nilc (.t 86), none⟩, ⟨(some 88), .faddr 2 (.t 87), none⟩, ⟨(some 89), .load none (.t 88), none⟩, ⟨(some 90), .bin .eql .no (.t 89) (.c (.int .u16 1)), none⟩, ⟨(some 91), .mv (.t 90), none⟩, ⟨(some 92), .mv (.t 1), (some (91, false))⟩, ⟨(some 93), .mv (.t 10), (some (91, false))⟩, ⟨(some 94), .nilc (.t 93), (some (91, false))⟩, ⟨(some 95), .faddr 0 (.t 94), (some (91, false))⟩, ⟨(some 96), .load none (.t 95), (some (91, false))⟩, ⟨(some 97), .bin .sub .no (.t 92) (.t 96), (some (91, false))⟩, ⟨(some 98), .mv (.t 10), (some (91, false))⟩, ⟨(some 99), .nilc (.t 98), (some (91, false))⟩, ⟨(some 100), .faddr 2 (.t 99), (some (91, false))⟩, ⟨(some 101), .load none (.t 100), (some (91, false))⟩, ⟨(some 102), .bin .rem .no (.t 97) (.t 101), (some (91, false))⟩, ⟨(some 103), .bin .eql .no (.t 102) (.c (.int .u16 0)), (some (91, false))⟩, ⟨(some 104), .pick (.t 91) (.c (.bool true)) (.t 103), none⟩, ⟨(some 4), .mv (.t 104), none⟩] [0, 1, 3, 7, 15, 31, 63, 63, 191, 447, 959, 2047, 63, 4159, 12351, 28735, 65535, 131071, 262143, 524287])
      .ret)
      .skip))
    (.seq (.reg [⟨(some 105), .mv (.t 1), none⟩, ⟨(some 106), .mv (.t 10), none⟩, ⟨(some 107), .nilc (.t 106), none⟩, ⟨(some 108), .faddr 0 (.t 107), none⟩, ⟨(some 109), .load none (.t 108), none⟩, ⟨(some 110), .bin .lss .no (.t 105) (.t 109), none⟩])
    (.cond (.t 110)
      (.reg [⟨(some 111), .mv (.t 9), none⟩, ⟨(some 8), .mv (.t 111), none⟩])
      (.reg [⟨(some 112), .mv (.t 9), none⟩, ⟨(some 113), .bin .add .no (.t 112) (.c (.int .i64 1)), none⟩, ⟨(some 7), .mv (.t 113), none⟩]))))))))))
 (.seq (.reg [⟨(some 4), .mv (.c (.bool false)), none⟩])
 .ret)))))), [.tmp 4]⟩
theorem c114 : compF Tryz.prog Tryz.f114 = some m114 := by kernel_rfl
/-- unicode.is32 -/
def m115 : MFunc := ⟨99, (.seq (.reg [⟨(some 4), .mv (.c (.bool false)), none⟩])
 (.seq (.seq (.reg [⟨(some 11), .mv (.t 0), none⟩, ⟨(some 12), .len (.t 11), none⟩, ⟨(some 13), .bin .leq .no (.t 12) (.c (.int .i64 18)), none⟩])
 (.cond (.t 13)
   (.seq (.seq (.reg [⟨(some 14), .mv (.t 0), none⟩, ⟨(some 15), .len (.t 14), none⟩, ⟨(some 16), .mv (.c (.int .i64 0)), none⟩])
   (.block 0 (.loop (.seq (.reg [⟨(some 17), .bin .lss .no (.t 16) (.t 15), none⟩])
     (.seq (.cond (.t 17)
       .skip
       (.exit 0))
     (.seq (.block 1 (.seq (.reg [⟨(some 18), .mv (.t 16), none⟩, ⟨(some 5), .mv (.t 18), none⟩])
      (.seq (.reg [⟨(some 19), .mv (.t 0), none⟩, ⟨(some 20), .mv (.t 5), none⟩, ⟨(some 21), .iaddr 3 (.t 19) (.t 20), none⟩, ⟨(some 6), .mv (.t 21), none⟩])
      (.seq (.seq (.reg [⟨(some 22), .mv (.t 1), none⟩, ⟨(some 23), .mv (.t 6), none⟩, ⟨(some 24), .nilc (.t 23), none⟩, ⟨(some 25), .faddr 0 (.t 24), none⟩, ⟨(some 26), .load none (.t 25), none⟩, ⟨(some 27), .bin .lss .no (.t 22) (.t 26), none⟩])
      (.cond (.t 27)
        (.seq (.reg [⟨(some 4), .mv (.c (.bool false)), none⟩])
        .ret)
        .skip))
      (.seq (.reg [⟨(some 28), .mv (.t 1), none⟩, ⟨(some 29), .mv (.t 6), none⟩, ⟨(some 30), .nilc (.t 29), none⟩, ⟨(some 31), .faddr 1 (.t 30), none⟩, ⟨(some 32), .load none (.t 31), none⟩, ⟨(some 33), .bin .leq .no (.t 28) (.t 32), none⟩])
      (.cond (.t 33)
        (.seq (.draw [⟨(some 34), .mv (.t 6), none⟩, ⟨(some 35), .nilc (.t 34), none⟩, ⟨(some 36), .faddr 2 (.t 35), none⟩, ⟨(some 37), .load none (.t 36), none⟩, ⟨(some 38), .bin .eql .no (.t 37) (.c (.int .u32 1)), none⟩, ⟨(some 39), .mv (.t 38), none⟩, ⟨(some 40), .mv (.t 1), (some (39, false))⟩, ⟨(some 41), .mv (.t 6), (some (39, false))⟩, ⟨(some 42), .nilc (.t 41), (some (39, false))⟩, ⟨(some 43), .faddr 0 (.t 42), (some (39, false))⟩, ⟨(some 44), .load none (.t 43), (some (39, false))⟩, ⟨(some 45), .bin .sub .no (.t 40) (.t 44), (some (39, false))⟩, ⟨(some 46), .mv (.t 6), (some (39, false))⟩, ⟨(some 47), .nilc (.t 46), (some (39, false))⟩, ⟨(some 48), .faddr 2 (.t 47), (some (39, false))⟩, ⟨(some 49), .load none (.t 48), (some (39, false))⟩, ⟨(some 50), .bin .rem .no (.t 45) (.t 49), (some (39, false))⟩, ⟨(some 51), .bin .eql .no (.t 50) (.c (.int .u32 0)), (some (39, false))⟩, ⟨(some 52), .pick (.t 39) (.c (.bool true)) (.t 51), none⟩, ⟨(some 4), .mv (.t 52), none⟩] [0, 1, 3, 7, 15, 31, 63, 63, 191, 447, 959, 2047, 63, 4159, 12351, 28735, 65535, 131071, 262143, 524287])
        .ret)
        .skip))))))
     (.reg [⟨(some 53), .bin .add .no (.t 16) (.c (.int .i64 1)), none⟩, ⟨(some 16), .mv (.t 53), none⟩])))))))
   (.seq (.reg [⟨(some 4), .mv (.c (.bool false)), none⟩])
   .ret))
   .skip))
 (.seq (.reg [⟨(some 7), .mv (.c (.int .i64 0)), none⟩])
 (.seq (.reg [⟨(some 54), .mv (.t 0), none⟩, ⟨(some 55), .len (.t 54), none⟩, ⟨(some 8), .mv (.t 55), none⟩])
 (.seq (.block 2 (.loop (.seq (.seq (.reg [⟨(some 56), .mv (.t 7), none⟩, ⟨(some 57), .mv (.t 8), none⟩, ⟨(some 58), .bin .lss .no (.t 56) (.t 57), none⟩])
   (.cond (.t 58)
     .skip
     (.exit 2)))
   (.block 3 (.seq (.reg [⟨(some 59), .mv (.t 7), none⟩, ⟨(some 60), .mv (.t 8), none⟩, ⟨(some 61), .bin .add .no (.t 59) (.t 60), none⟩, ⟨(some 62), .convI .u64 (.t 61), none⟩, ⟨(some 63), .bin .shr .no (.t 62) (.c (.int .u64 1)), none⟩, ⟨(some 64), .convI .i64 (.t 63), none⟩, ⟨(some 9), .mv (.t 64), none⟩])
    (.seq (.reg [⟨(some 65), .mv (.t 0), none⟩, ⟨(some 66), .mv (.t 9), none⟩, ⟨(some 67), .iaddr 3 (.t 65) (.t 66), none⟩, ⟨(some 68), .load (some 3) (.t 67), none⟩, ⟨(some 10), .alloc [(.int .u32 0), (.int .u32 0), (.int .u32 0)], none⟩, ⟨none, .store 3 (.t 10) (.t 68), none⟩])
    (.seq (.seq (.reg [⟨(some 69), .faddr 0 (.t 10), none⟩, ⟨(some 70), .load none (.t 69), none⟩, ⟨(some 71), .mv (.t 1), none⟩, ⟨(some 72), .bin .leq .no (.t 70) (.t 71), none⟩, ⟨(some 73), .mv (.t 72), none⟩, ⟨(some 74), .mv (.t 1), (some (73, true))⟩, ⟨(some 75), .faddr 1 (.t 10), (some (73, true))⟩, ⟨(some 76), .load none (.t 75), (some (73, true))⟩, ⟨(some 77), .bin .leq .no (.t 74) (.t 76), (some (73, true))⟩, ⟨(some 78), .pick (.t 73) (.t 77) (.c (.bool false)), none⟩])
    (.cond (.t 78)
      (.seq (.reg [⟨(some 79), .faddr 2 (.t 10), none⟩, ⟨(some 80), .load none (.t 79), none⟩, ⟨(some 81), .bin .eql .no (.t 80) (.c (.int .u32 1)), none⟩, ⟨(some 82), .mv (.t 81), none⟩, ⟨(some 83), .mv (.t 1), (some (82, false))⟩, ⟨(some 84), .faddr 0 (.t 10), (some (82, false))⟩, ⟨(some 85), .load none (.t 84), (some (82, false))⟩, ⟨(some 86), .bin .sub .no (.t 83) (.t 85), (some (82, false))⟩, ⟨(some 87), .faddr 2 (.t 10), (some (82, false))⟩, ⟨(some 88), .load none (.t 87), (some (82, false))⟩, ⟨(some 89), .bin .rem .no (.t 86) (.t 88), (some (82, false))⟩, ⟨(some 90), .bin .eql .no (.t 89) (.c (.int .u32 0)), (some (82, false))⟩, ⟨(some 91), .pick (.t 82) (.c (.bool true)) (.t 90), none⟩, ⟨(some 4), .mv (.t 91), none⟩])
      .ret)
      .skip))
    (.seq (.reg [⟨(some 92), .mv (.t 1), none⟩, ⟨(some 93), .faddr 0 (.t 10), none⟩, ⟨(some 94), .load none (.t 93), none⟩, ⟨(some 95), .bin .lss .no (.t 92) (.t 94), none⟩])
    (.cond (.t 95)
      (.reg [⟨(some 96), .mv (.t 9), none⟩, ⟨(some 8), .mv (.t 96), none⟩])
      (.reg [⟨(some 97), .mv (.t 9), none⟩, ⟨(some 98), .bin .add .no (.t 97) (.c (.int .i64 1)), none⟩, ⟨(some 7), .mv (.t 98), none⟩]))))))))))
 (.seq (.reg [⟨(some 4), .mv (.c (.bool false)), none⟩])
 .ret)))))), [.tmp 4]⟩
theorem c115 : compF Tryz.prog Tryz.f115 = some m115 := by kernel_rfl
def tab (f : FuncId) : Option MFunc :=
  (bif Nat.blt f 59 then (bif Nat.blt f 30 then (bif Nat.blt f 16 then (bif Nat.blt f 9 then (bif Nat.blt f 6 then (bif Nat.blt f 4 then (bif Nat.beq f 3 then some m3 else none) else (bif Nat.blt f 5 then (bif Nat.beq f 4 then some m4 else none) else (bif Nat.beq f 5 then some m5 else none))) else (bif Nat.blt f 7 then (bif Nat.beq f 6 then some m6 else none) else (bif Nat.blt f 8 then (bif Nat.beq f 7 then some m7 else none) else (bif Nat.beq f 8 then some m8 else none)))) else (bif Nat.blt f 12 then (bif Nat.blt f 10 then (bif Nat.beq f 9 then some m9 else none) else (bif Nat.blt f 11 then (bif Nat.beq f 10 then some m10 else none) else (bif Nat.beq f 11 then some m11 else none))) else (bif Nat.blt f 14 then (bif Nat.blt f 13 then (bif Nat.beq f 12 then some m12 else none) else (bif Nat.beq f 13 then some m13 else none)) else (bif Nat.blt f 15 then (bif Nat.beq f 14 then some m14 else none) else (bif Nat.beq f 15 then some m15 else none))))) else (bif Nat.blt f 23 then (bif Nat.blt f 19 then (bif Nat.blt f 17 then (bif Nat.beq f 16 then some m16 else none) else (bif Nat.blt f 18 then (bif Nat.beq f 17 then some m17 else none) else (bif Nat.beq f 18 then some m18 else none))) else (bif Nat.blt f 21 then (bif Nat.blt f 20 then (bif Nat.beq f 19 then some m19 else none) else (bif Nat.beq f 20 then some m20 else none)) else (bif Nat.blt f 22 then (bif Nat.beq f 21 then some m21 else none) else (bif Nat.beq f 22 then some m22 else none)))) else (bif Nat.blt f 26 then (bif Nat.blt f 24 then (bif Nat.beq f 23 then some m23 else none) else (bif Nat.blt f 25 then (bif Nat.beq f 24 then some m24 else none) else (bif Nat.beq f 25 then some m25 else none))) else (bif Nat.blt f 28 then (bif Nat.blt f 27 then (bif Nat.beq f 26 then some m26 else none) else (bif Nat.beq f 27 then some m27 else none)) else (bif Nat.blt f 29 then (bif Nat.beq f 28 then some m28 else none) else (bif Nat.beq f 29 then some m29 else none)))))) else (bif Nat.blt f 44 then (bif Nat.blt f 37 then (bif Nat.blt f 33 then (bif Nat.blt f 31 then (bif Nat.beq f 30 then some m30 else none) else (bif Nat.blt f 32 then (bif Nat.beq f 31 then some m31 else none) else (bif Nat.beq f 32 then some m32 else none))) else (bif Nat.blt f 35 then (bif Nat.blt f 34 then (bif Nat.beq f 33 then some m33 else none) else (bif Nat.beq f 34 then some m34 else none)) else (bif Nat.blt f 36 then (bif Nat.beq f 35 then some m35 else none) else (bif Nat.beq f 36 then some m36 else none)))) else (bif Nat.blt f 40 then (bif Nat.blt f 38 then (bif Nat.beq f 37 then some m37 else none) else (bif Nat.blt f 39 then (bif Nat.beq f 38 then some m38 else none) else (bif Nat.beq f 39 then some m39 else none))) else (bif Nat.blt f 42 then (bif Nat.blt f 41 then (bif Nat.beq f 40 then some m40 else none) else (bif Nat.beq f 41 then some m41 else none)) else (bif Nat.blt f 43 then (bif Nat.beq f 42 then some m42 else none) else (bif Nat.beq f 43 then some m43 else none))))) else (bif Nat.blt f 52 then (bif Nat.blt f 47 then (bif Nat.blt f 45 then (bif Nat.beq f 44 then some m44 else none) else (bif Nat.blt f 46 then (bif Nat.beq f 45 then some m45 else none) else (bif Nat.beq f 46 then some m46 else none))) else (bif Nat.blt f 49 then (bif Nat.blt f 48 then (bif Nat.beq f 47 then some m47 else none) else (bif Nat.beq f 48 then some m48 else none)) else (bif Nat.blt f 50 then (bif Nat.beq f 49 then some m49 else none) else (bif Nat.beq f 50 then some m50 else none)))) else (bif Nat.blt f 55 then (bif Nat.blt f 53 then (bif Nat.beq f 52 then some m52 else none) else (bif Nat.blt f 54 then (bif Nat.beq f 53 then some m53 else none) else (bif Nat.beq f 54 then some m54 else none))) else (bif Nat.blt f 57 then (bif Nat.blt f 56 then (bif Nat.beq f 55 then some m55 else none) else (bif Nat.beq f 56 then some m56 else none)) else (bif Nat.blt f 58 then (bif Nat.beq f 57 then some m57 else none) else (bif Nat.beq f 58 then some m58 else none))))))) else (bif Nat.blt f 86 then (bif Nat.blt f 72 then (bif Nat.blt f 65 then (bif Nat.blt f 62 then (bif Nat.blt f 60 then (bif Nat.beq f 59 then some m59 else none) else (bif Nat.blt f 61 then (bif Nat.beq f 60 then some m60 else none) else (bif Nat.beq f 61 then some m61 else none))) else (bif Nat.blt f 63 then (bif Nat.beq f 62 then some m62 else none) else (bif Nat.blt f 64 then (bif Nat.beq f 63 then some m63 else none) else (bif Nat.beq f 64 then some m64 else none)))) else (bif Nat.blt f 68 then (bif Nat.blt f 66 then (bif Nat.beq f 65 then some m65 else none) else (bif Nat.blt f 67 then (bif Nat.beq f 66 then some m66 else none) else (bif Nat.beq f 67 then some m67 else none))) else (bif Nat.blt f 70 then (bif Nat.blt f 69 then (bif Nat.beq f 68 then some m68 else none) else (bif Nat.beq f 69 then some m69 else none)) else (bif Nat.blt f 71 then (bif Nat.beq f 70 then some m70 else none) else (bif Nat.beq f 71 then some m71 else none))))) else (bif Nat.blt f 79 then (bif Nat.blt f 75 then (bif Nat.blt f 73 then (bif Nat.beq f 72 then some m72 else none) else (bif Nat.blt f 74 then (bif Nat.beq f 73 then some m73 else none) else (bif Nat.beq f 74 then some m74 else none))) else (bif Nat.blt f 77 then (bif Nat.blt f 76 then (bif Nat.beq f 75 then some m75 else none) else (bif Nat.beq f 76 then some m76 else none)) else (bif Nat.blt f 78 then (bif Nat.beq f 77 then some m77 else none) else (bif Nat.beq f 78 then some m78 else none)))) else (bif Nat.blt f 82 then (bif Nat.blt f 80 then (bif Nat.beq f 79 then some m79 else none) else (bif Nat.blt f 81 then (bif Nat.beq f 80 then some m80 else none) else (bif Nat.beq f 81 then some m81 else none))) else (bif Nat.blt f 84 then (bif Nat.blt f 83 then (bif Nat.beq f 82 then some m82 else none) else (bif Nat.beq f 83 then some m83 else none)) else (bif Nat.blt f 85 then (bif Nat.beq f 84 then some m84 else none) else (bif Nat.beq f 85 then some m85 else none)))))) else (bif Nat.blt f 101 then (bif Nat.blt f 94 then (bif Nat.blt f 89 then (bif Nat.blt f 87 then (bif Nat.beq f 86 then some m86 else none) else (bif Nat.blt f 88 then (bif Nat.beq f 87 then some m87 else none) else (bif Nat.beq f 88 then some m88 else none))) else (bif Nat.blt f 91 then (bif Nat.blt f 90 then (bif Nat.beq f 89 then some m89 else none) else (bif Nat.beq f 90 then some m90 else none)) else (bif Nat.blt f 93 then (bif Nat.beq f 91 then some m91 else none) else (bif Nat.beq f 93 then some m93 else none)))) else (bif Nat.blt f 97 then (bif Nat.blt f 95 then (bif Nat.beq f 94 then some m94 else none) else (bif Nat.blt f 96 then (bif Nat.beq f 95 then some m95 else none) else (bif Nat.beq f 96 then some m96 else none))) else (bif Nat.blt f 99 then (bif Nat.blt f 98 then (bif Nat.beq f 97 then some m97 else none) else (bif Nat.beq f 98 then some m98 else none)) else (bif Nat.blt f 100 then (bif Nat.beq f 99 then some m99 else none) else (bif Nat.beq f 100 then some m100 else none))))) else (bif Nat.blt f 109 then (bif Nat.blt f 105 then (bif Nat.blt f 102 then (bif Nat.beq f 101 then some m101 else none) else (bif Nat.blt f 103 then (bif Nat.beq f 102 then some m102 else none) else (bif Nat.beq f 103 then some m103 else none))) else (bif Nat.blt f 107 then (bif Nat.blt f 106 then (bif Nat.beq f 105 then some m105 else none) else (bif Nat.beq f 106 then some m106 else none)) else (bif Nat.blt f 108 then (bif Nat.beq f 107 then some m107 else none) else (bif Nat.beq f 108 then some m108 else none)))) else (bif Nat.blt f 112 then (bif Nat.blt f 110 then (bif Nat.beq f 109 then some m109 else none) else (bif Nat.blt f 111 then (bif Nat.beq f 110 then some m110 else none) else (bif Nat.beq f 111 then some m111 else none))) else (bif Nat.blt f 114 then (bif Nat.blt f 113 then (bif Nat.beq f 112 then some m112 else none) else (bif Nat.beq f 113 then some m113 else none)) else (bif Nat.blt f 115 then (bif Nat.beq f 114 then some m114 else none) else (bif Nat.beq f 115 then some m115 else none))))))))
theorem tab_ok (f : FuncId) (m : MFunc) (h : tab f = some m) : ∃ fn, Tryz.prog.funcs[f]? = some fn ∧ compF Tryz.prog fn = some m :=
  tab_node h (fun h => tab_node h (fun h => tab_node h (fun h => tab_node h (fun h => tab_node h (fun h => tab_node h (fun h => tab_leaf h Tryz.func3 c3) (fun h => tab_node h (fun h => tab_leaf h Tryz.func4 c4) (fun h => tab_leaf h Tryz.func5 c5))) (fun h => tab_node h (fun h => tab_leaf h Tryz.func6 c6) (fun h => tab_node h (fun h => tab_leaf h Tryz.func7 c7) (fun h => tab_leaf h Tryz.func8 c8)))) (fun h => tab_node h (fun h => tab_node h (fun h => tab_leaf h Tryz.func9 c9) (fun h => tab_node h (fun h => tab_leaf h Tryz.func10 c10) (fun h => tab_leaf h Tryz.func11 c11))) (fun h => tab_node h (fun h => tab_node h (fun h => tab_leaf h Tryz.func12 c12) (fun h => tab_leaf h Tryz.func13 c13)) (fun h => tab_node h (fun h => tab_leaf h Tryz.func14 c14) (fun h => tab_leaf h Tryz.func15 c15))))) (fun h => tab_node h (fun h => tab_node h (fun h => tab_node h (fun h => tab_leaf h Tryz.func16 c16) (fun h => tab_node h (fun h => tab_leaf h Tryz.func17 c17) (fun h => tab_leaf h Tryz.func18 c18))) (fun h => tab_node h (fun h => tab_node h (fun h => tab_leaf h Tryz.func19 c19) (fun h => tab_leaf h Tryz.func20 c20)) (fun h => tab_node h (fun h => tab_leaf h Tryz.func21 c21) (fun h => tab_leaf h Tryz.func22 c22)))) (fun h => tab_node h (fun h => tab_node h (fun h => tab_leaf h Tryz.func23 c23) (fun h => tab_node h (fun h => tab_leaf h Tryz.func24 c24) (fun h => tab_leaf h Tryz.func25 c25))) (fun h => tab_node h (fun h => tab_node h (fun h => tab_leaf h Tryz.func26 c26) (fun h => tab_leaf h Tryz.func27 c27)) (fun h => tab_node h (fun h => tab_leaf h Tryz.func28 c28) (fun h => tab_leaf h Tryz.func29 c29)))))) (fun h => tab_node h (fun h => tab_node h (fun h => tab_node h (fun h => tab_node h (fun h => tab_leaf h Tryz.func30 c30) (fun h => tab_node h (fun h => tab_leaf h Tryz.func31 c31) (fun h => tab_leaf h Tryz.func32 c32))) (fun h => tab_node h (fun h => tab_node h (fun h => tab_leaf h Tryz.func33 c33) (fun h => tab_leaf h Tryz.func34 c34)) (fun h => tab_node h (fun h => tab_leaf h Tryz.func35 c35) (fun h => tab_leaf h Tryz.func36 c36)))) (fun h => tab_node h (fun h => tab_node h (fun h => tab_leaf h Tryz.func37 c37) (fun h => tab_node h (fun h => tab_leaf h Tryz.func38 c38) (fun h => tab_leaf h Tryz.func39 c39))) (fun h => tab_node h (fun h => tab_node h (fun h => tab_leaf h Tryz.func40 c40) (fun h => tab_leaf h Tryz.func41 c41)) (fun h => tab_node h (fun h => tab_leaf h Tryz.func42 c42) (fun h => tab_leaf h Tryz.func43 c43))))) (fun h => tab_node h (fun h => tab_node h (fun h => tab_node h (fun h => tab_leaf h Tryz.func44 c44) (fun h => tab_node h (fun h => tab_leaf h Tryz.func45 c45) (fun h => tab_leaf h Tryz.func46 c46))) (fun h => tab_node h (fun h => tab_node h (fun h => tab_leaf h Tryz.func47 c47) (fun h => tab_leaf h Tryz.func48 c48)) (fun h => tab_node h (fun h => tab_leaf h Tryz.func49 c49) (fun h => tab_leaf h Tryz.func50 c50)))) (fun h => tab_node h (fun h => tab_node h (fun h => tab_leaf h Tryz.func52 c52) (fun h => tab_node h (fun h => tab_leaf h Tryz.func53 c53) (fun h => tab_leaf h Tryz.func54 c54))) (fun h => tab_node h (fun h => tab_node h (fun h => tab_leaf h Tryz.func55 c55) (fun h => tab_leaf h Tryz.func56 c56)) (fun h => tab_node h (fun h => tab_leaf h Tryz.func57 c57) (fun h => tab_leaf h Tryz.func58 c58))))))) (fun h => tab_node h (fun h => tab_node h (fun h => tab_node h (fun h => tab_node h (fun h => tab_node h (fun h => tab_leaf h Tryz.func59 c59) (fun h => tab_node h (fun h => tab_leaf h Tryz.func60 c60) (fun h => tab_leaf h Tryz.func61 c61))) (fun h => tab_node h (fun h => tab_leaf h Tryz.func62 c62) (fun h => tab_node h (fun h => tab_leaf h Tryz.func63 c63) (fun h => tab_leaf h Tryz.func64 c64)))) (fun h => tab_node h (fun h => tab_node h (fun h => tab_leaf h Tryz.func65 c65) (fun h => tab_node h (fun h => tab_leaf h Tryz.func66 c66) (fun h => tab_leaf h Tryz.func67 c67))) (fun h => tab_node h (fun h => tab_node h (fun h => tab_leaf h Tryz.func68 c68) (fun h => tab_leaf h Tryz.func69 c69)) (fun h => tab_node h (fun h => tab_leaf h Tryz.func70 c70) (fun h => tab_leaf h Tryz.func71 c71))))) (fun h => tab_node h (fun h => tab_node h (fun h => tab_node h (fun h => tab_leaf h Tryz.func72 c72) (fun h => tab_node h (fun h => tab_leaf h Tryz.func73 c73) (fun h => tab_leaf h Tryz.func74 c74))) (fun h => tab_node h (fun h => tab_node h (fun h => tab_leaf h Tryz.func75 c75) (fun h => tab_leaf h Tryz.func76 c76)) (fun h => tab_node h (fun h => tab_leaf h Tryz.func77 c77) (fun h => tab_leaf h Tryz.func78 c78)))) (fun h => tab_node h (fun h => tab_node h (fun h => tab_leaf h Tryz.func79 c79) (fun h => tab_node h (fun h => tab_leaf h Tryz.func80 c80) (fun h => tab_leaf h Tryz.func81 c81))) (fun h => tab_node h (fun h => tab_node h (fun h => tab_leaf h Tryz.func82 c82) (fun h => tab_leaf h Tryz.func83 c83)) (fun h => tab_node h (fun h => tab_leaf h Tryz.func84 c84) (fun h => tab_leaf h Tryz.func85 c85)))))) (fun h => tab_node h (fun h => tab_node h (fun h => tab_node h (fun h => tab_node h (fun h => tab_leaf h Tryz.func86 c86) (fun h => tab_node h (fun h => tab_leaf h Tryz.func87 c87) (fun h => tab_leaf h Tryz.func88 c88))) (fun h => tab_node h (fun h => tab_node h (fun h => tab_leaf h Tryz.func89 c89) (fun h => tab_leaf h Tryz.func90 c90)) (fun h => tab_node h (fun h => tab_leaf h Tryz.func91 c91) (fun h => tab_leaf h Tryz.func93 c93)))) (fun h => tab_node h (fun h => tab_node h (fun h => tab_leaf h Tryz.func94 c94) (fun h => tab_node h (fun h => tab_leaf h Tryz.func95 c95) (fun h => tab_leaf h Tryz.func96 c96))) (fun h => tab_node h (fun h => tab_node h (fun h => tab_leaf h Tryz.func97 c97) (fun h => tab_leaf h Tryz.func98 c98)) (fun h => tab_node h (fun h => tab_leaf h Tryz.func99 c99) (fun h => tab_leaf h Tryz.func100 c100))))) (fun h => tab_node h (fun h => tab_node h (fun h => tab_node h (fun h => tab_leaf h Tryz.func101 c101) (fun h => tab_node h (fun h => tab_leaf h Tryz.func102 c102) (fun h => tab_leaf h Tryz.func103 c103))) (fun h => tab_node h (fun h => tab_node h (fun h => tab_leaf h Tryz.func105 c105) (fun h => tab_leaf h Tryz.func106 c106)) (fun h => tab_node h (fun h => tab_leaf h Tryz.func107 c107) (fun h => tab_leaf h Tryz.func108 c108)))) (fun h => tab_node h (fun h => tab_node h (fun h => tab_leaf h Tryz.func109 c109) (fun h => tab_node h (fun h => tab_leaf h Tryz.func110 c110) (fun h => tab_leaf h Tryz.func111 c111))) (fun h => tab_node h (fun h => tab_node h (fun h => tab_leaf h Tryz.func112 c112) (fun h => tab_leaf h Tryz.func113 c113)) (fun h => tab_node h (fun h => tab_leaf h Tryz.func114 c114) (fun h => tab_leaf h Tryz.func115 c115)))))))
end Go.Proofs.YtgknkkdemjjeoaaGreatDoor.Code
