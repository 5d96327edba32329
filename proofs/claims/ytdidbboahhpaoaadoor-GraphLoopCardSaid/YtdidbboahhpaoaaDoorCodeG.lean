/- A part of the proof: CodeG. No condition. -/
import Derived.Test.YtdidbboahhpaoaaDoorProg
import Derived.Test.YtdidbboahhpaoaaDoorMiniC
import Derived.KernelRfl
set_option linter.all false
set_option maxRecDepth 100000
set_option maxRecDepth 100000
set_option maxHeartbeats 0
namespace Go.Proofs.YtdidbboahhpaoaaDoor.Code
open Go.Mini

/-- weirgate/weirgatelaw05.GraphOnce -/
def m3 : MFunc := ⟨89, (.seq (.reg [⟨(some 2), .mv (.c (.bool false)), none⟩])
 (.seq (.seq (.reg [⟨(some 9), .call (.c (.fn 5 [])) [], none⟩, ⟨(some 10), .un .not (.t 9), none⟩, ⟨(some 11), .mv (.t 10), none⟩, ⟨(some 12), .mv (.t 0), (some (11, false))⟩, ⟨(some 13), .len (.t 12), (some (11, false))⟩, ⟨(some 14), .bin .gtr .no (.t 13) (.c (.int .i64 40)), (some (11, false))⟩, ⟨(some 15), .pick (.t 11) (.c (.bool true)) (.t 14), none⟩])
 (.cond (.t 15)
   (.seq (.reg [⟨(some 16), .call (.c (.fn 5 [])) [], none⟩, ⟨(some 2), .mv (.t 16), none⟩])
   .ret)
   .skip))
 (.seq (.reg [⟨(some 17), .call (.c (.fn 6 [])) [], none⟩, ⟨(some 3), .mv (.t 17), none⟩])
 (.seq (.reg [⟨(some 18), .mv (.t 3), none⟩, ⟨(some 19), .call (.c (.fn 7 [])) [(.t 18)], none⟩, ⟨(some 20), .mv (.t 3), none⟩, ⟨(some 21), .call (.c (.fn 7 [])) [(.t 20)], none⟩, ⟨(some 22), .bslice 1 3 [(.int .i64 0)] [(0, 1, (.c (.int .i64 0))), (1, 1, (.t 19)), (2, 1, (.t 21))], none⟩, ⟨(some 4), .mv (.t 22), none⟩])
 (.seq (.seq (.reg [⟨(some 5), .mv (.c (.int .i64 0)), none⟩])
 (.block 0 (.loop (.seq (.seq (.reg [⟨(some 23), .mv (.t 5), none⟩, ⟨(some 24), .mv (.t 0), none⟩, ⟨(some 25), .len (.t 24), none⟩, ⟨(some 26), .bin .lss .no (.t 23) (.t 25), none⟩])
   (.cond (.t 26)
     .skip
     (.exit 0)))
   (.seq (.block 1 (.draw [⟨(some 29), .mv (.t 4), none⟩, ⟨(some 30), .mv (.t 3), none⟩, ⟨(some 31), .mv (.t 4), none⟩, ⟨(some 32), .mv (.t 0), none⟩, ⟨(some 33), .mv (.t 5), none⟩, ⟨(some 34), .iaddr 4 (.t 32) (.t 33), none⟩, ⟨(some 35), .faddr 1 (.t 34), none⟩, ⟨(some 36), .load none (.t 35), none⟩, ⟨(some 37), .minmax true [(.t 36), (.c (.int .i64 0))], none⟩, ⟨(some 38), .call (.c (.fn 9 [])) [(.t 31), (.t 37)], none⟩, ⟨(some 39), .mv (.t 4), none⟩, ⟨(some 40), .mv (.t 0), none⟩, ⟨(some 41), .mv (.t 5), none⟩, ⟨(some 42), .iaddr 4 (.t 40) (.t 41), none⟩, ⟨(some 43), .faddr 2 (.t 42), none⟩, ⟨(some 44), .load none (.t 43), none⟩, ⟨(some 45), .minmax true [(.t 44), (.c (.int .i64 0))], none⟩, ⟨(some 46), .call (.c (.fn 9 [])) [(.t 39), (.t 45)], none⟩, ⟨(some 47), .call (.c (.fn 8 [])) [(.t 30), (.t 38), (.t 46)], none⟩, ⟨(some 48), .bslice 1 1 [(.int .i64 0)] [(0, 1, (.t 47))], none⟩, ⟨(some 49), .append 1 8 (.t 29) (.t 48), none⟩, ⟨(some 4), .mv (.t 49), none⟩] [0, 0, 0, 0, 0, 24, 56, 120, 248, 508, 0, 0, 0, 6144, 14336, 30720, 63488, 131068, 262142, 524286, 1048575, 2097151]))
   (.reg [⟨(some 27), .mv (.t 5), none⟩, ⟨(some 28), .bin .add .no (.t 27) (.c (.int .i64 1)), none⟩, ⟨(some 5), .mv (.t 28), none⟩]))))))
 (.seq (.reg [⟨(some 50), .mv (.t 3), none⟩, ⟨(some 51), .call (.c (.fn 10 [])) [(.t 50)], none⟩, ⟨(some 6), .mv (.t 51), none⟩])
 (.seq (.reg [⟨(some 52), .bslice 1 3 [(.int .i64 0)] [(0, 1, (.c (.int .i64 0))), (1, 1, (.c (.int .i64 2))), (2, 1, (.c (.int .i64 4)))], none⟩, ⟨(some 7), .mv (.t 52), none⟩])
 (.seq (.seq (.reg [⟨(some 8), .mv (.c (.int .i64 0)), none⟩])
 (.block 2 (.loop (.seq (.seq (.reg [⟨(some 53), .mv (.t 8), none⟩, ⟨(some 54), .mv (.t 0), none⟩, ⟨(some 55), .len (.t 54), none⟩, ⟨(some 56), .bin .lss .no (.t 53) (.t 55), none⟩])
   (.cond (.t 56)
     .skip
     (.exit 2)))
   (.seq (.block 3 (.draw [⟨(some 59), .mv (.t 7), none⟩, ⟨(some 60), .mv (.t 3), none⟩, ⟨(some 61), .mv (.t 7), none⟩, ⟨(some 62), .mv (.t 0), none⟩, ⟨(some 63), .mv (.t 8), none⟩, ⟨(some 64), .iaddr 4 (.t 62) (.t 63), none⟩, ⟨(some 65), .faddr 2 (.t 64), none⟩, ⟨(some 66), .load none (.t 65), none⟩, ⟨(some 67), .minmax true [(.t 66), (.c (.int .i64 0))], none⟩, ⟨(some 68), .call (.c (.fn 9 [])) [(.t 61), (.t 67)], none⟩, ⟨(some 69), .mv (.t 7), none⟩, ⟨(some 70), .mv (.t 0), none⟩, ⟨(some 71), .mv (.t 8), none⟩, ⟨(some 72), .iaddr 4 (.t 70) (.t 71), none⟩, ⟨(some 73), .faddr 1 (.t 72), none⟩, ⟨(some 74), .load none (.t 73), none⟩, ⟨(some 75), .minmax true [(.t 74), (.c (.int .i64 0))], none⟩, ⟨(some 76), .call (.c (.fn 9 [])) [(.t 69), (.t 75)], none⟩, ⟨(some 77), .call (.c (.fn 8 [])) [(.t 60), (.t 68), (.t 76)], none⟩, ⟨(some 78), .bslice 1 1 [(.int .i64 0)] [(0, 1, (.t 77))], none⟩, ⟨(some 79), .append 1 8 (.t 59) (.t 78), none⟩, ⟨(some 7), .mv (.t 79), none⟩] [0, 0, 0, 0, 0, 24, 56, 120, 248, 508, 0, 0, 0, 6144, 14336, 30720, 63488, 131068, 262142, 524286, 1048575, 2097151]))
   (.reg [⟨(some 57), .mv (.t 8), none⟩, ⟨(some 58), .bin .add .no (.t 57) (.c (.int .i64 1)), none⟩, ⟨(some 8), .mv (.t 58), none⟩]))))))
 (.seq (.reg [⟨(some 80), .mv (.t 3), none⟩, ⟨(some 81), .call (.c (.fn 10 [])) [(.t 80)], none⟩, ⟨(some 82), .mv (.t 6), none⟩, ⟨(some 83), .bin .eql .no (.t 81) (.t 82), none⟩, ⟨(some 84), .mv (.t 83), none⟩, ⟨(some 85), .mv (.t 4), (some (84, true))⟩, ⟨(some 86), .mv (.t 7), (some (84, true))⟩, ⟨(some 87), .call (.c (.fn 11 [])) [(.t 85), (.t 86)], (some (84, true))⟩, ⟨(some 88), .pick (.t 84) (.t 87) (.c (.bool false)), none⟩, ⟨(some 2), .mv (.t 88), none⟩])
 .ret))))))))), [.tmp 2]⟩
theorem c3 : compF Tryd.prog Tryd.f3 = some m3 := by kernel_rfl
/-- weirgate/weirgatelaw05.GraphLoop -/
def m4 : MFunc := ⟨106, (.seq (.reg [⟨(some 4), .mv (.c (.bool false)), none⟩])
 (.seq (.seq (.reg [⟨(some 13), .call (.c (.fn 5 [])) [], none⟩, ⟨(some 14), .un .not (.t 13), none⟩, ⟨(some 15), .mv (.t 14), none⟩, ⟨(some 16), .mv (.t 0), (some (15, false))⟩, ⟨(some 17), .len (.t 16), (some (15, false))⟩, ⟨(some 18), .bin .gtr .no (.t 17) (.c (.int .i64 20)), (some (15, false))⟩, ⟨(some 19), .pick (.t 15) (.c (.bool true)) (.t 18), none⟩, ⟨(some 20), .mv (.t 19), none⟩, ⟨(some 21), .mv (.t 1), (some (20, false))⟩, ⟨(some 22), .len (.t 21), (some (20, false))⟩, ⟨(some 23), .bin .gtr .no (.t 22) (.c (.int .i64 20)), (some (20, false))⟩, ⟨(some 24), .pick (.t 20) (.c (.bool true)) (.t 23), none⟩])
 (.cond (.t 24)
   (.seq (.reg [⟨(some 25), .call (.c (.fn 5 [])) [], none⟩, ⟨(some 4), .mv (.t 25), none⟩])
   .ret)
   .skip))
 (.seq (.reg [⟨(some 26), .call (.c (.fn 6 [])) [], none⟩, ⟨(some 5), .mv (.t 26), none⟩])
 (.seq (.reg [⟨(some 27), .mv (.t 5), none⟩, ⟨(some 28), .call (.c (.fn 7 [])) [(.t 27)], none⟩, ⟨(some 29), .mv (.t 5), none⟩, ⟨(some 30), .call (.c (.fn 7 [])) [(.t 29)], none⟩, ⟨(some 31), .mv (.t 5), none⟩, ⟨(some 32), .call (.c (.fn 7 [])) [(.t 31)], none⟩, ⟨(some 33), .bslice 1 4 [(.int .i64 0)] [(0, 1, (.c (.int .i64 1))), (1, 1, (.t 28)), (2, 1, (.t 30)), (3, 1, (.t 32))], none⟩, ⟨(some 6), .mv (.t 33), none⟩])
 (.seq (.reg [⟨(some 7), .mv (.c (.int .i64 0)), none⟩, ⟨(some 8), .mv (.c (.int .i64 0)), none⟩])
 (.seq (.seq (.reg [⟨(some 9), .mv (.c (.int .i64 0)), none⟩])
 (.block 0 (.loop (.seq (.seq (.reg [⟨(some 34), .mv (.t 9), none⟩, ⟨(some 35), .mv (.t 0), none⟩, ⟨(some 36), .len (.t 35), none⟩, ⟨(some 37), .bin .lss .no (.t 34) (.t 36), none⟩])
   (.cond (.t 37)
     .skip
     (.exit 0)))
   (.seq (.block 1 (.seq (.reg [⟨(some 40), .mv (.t 5), none⟩, ⟨(some 41), .mv (.t 7), none⟩, ⟨(some 42), .mv (.t 6), none⟩, ⟨(some 43), .mv (.t 0), none⟩, ⟨(some 44), .mv (.t 9), none⟩, ⟨(some 45), .iaddr 1 (.t 43) (.t 44), none⟩, ⟨(some 46), .load none (.t 45), none⟩, ⟨(some 47), .convI .i64 (.t 46), none⟩, ⟨(some 48), .bin .rem .no (.t 47) (.c (.int .i64 4)), none⟩, ⟨(some 49), .iaddr 1 (.t 42) (.t 48), none⟩, ⟨(some 50), .load none (.t 49), none⟩, ⟨(some 51), .call (.c (.fn 12 [])) [(.t 40), (.t 41), (.t 50)], none⟩, ⟨(some 7), .mv (.t 51), none⟩])
    (.reg [⟨(some 52), .mv (.t 5), none⟩, ⟨(some 53), .mv (.t 6), none⟩, ⟨(some 54), .mv (.t 0), none⟩, ⟨(some 55), .mv (.t 0), none⟩, ⟨(some 56), .len (.t 55), none⟩, ⟨(some 57), .bin .sub .no (.t 56) (.c (.int .i64 1)), none⟩, ⟨(some 58), .mv (.t 9), none⟩, ⟨(some 59), .bin .sub .no (.t 57) (.t 58), none⟩, ⟨(some 60), .iaddr 1 (.t 54) (.t 59), none⟩, ⟨(some 61), .load none (.t 60), none⟩, ⟨(some 62), .convI .i64 (.t 61), none⟩, ⟨(some 63), .bin .rem .no (.t 62) (.c (.int .i64 4)), none⟩, ⟨(some 64), .iaddr 1 (.t 53) (.t 63), none⟩, ⟨(some 65), .load none (.t 64), none⟩, ⟨(some 66), .mv (.t 8), none⟩, ⟨(some 67), .call (.c (.fn 12 [])) [(.t 52), (.t 65), (.t 66)], none⟩, ⟨(some 8), .mv (.t 67), none⟩])))
   (.reg [⟨(some 38), .mv (.t 9), none⟩, ⟨(some 39), .bin .add .no (.t 38) (.c (.int .i64 1)), none⟩, ⟨(some 9), .mv (.t 39), none⟩]))))))
 (.seq (.reg [⟨(some 68), .mv (.t 5), none⟩, ⟨(some 69), .mv (.t 1), none⟩, ⟨(some 70), .mv (.t 7), none⟩, ⟨(some 71), .mv (.t 8), none⟩, ⟨(some 72), .bslice 1 2 [(.int .i64 0)] [(0, 1, (.t 70)), (1, 1, (.t 71))], none⟩, ⟨(some 73), .mv (.t 6), none⟩, ⟨(some 74), .append 1 8 (.t 72) (.t 73), none⟩, ⟨(some 75), .call (.c (.fn 13 [])) [(.t 68), (.t 69), (.t 74)], none⟩, ⟨(some 10), .mv (.t 75), none⟩])
 (.seq (.reg [⟨(some 11), .mv (.c (.bool false)), none⟩])
 (.seq (.seq (.reg [⟨(some 12), .mv (.c (.int .i64 0)), none⟩])
 (.block 2 (.loop (.seq (.seq (.reg [⟨(some 76), .mv (.t 12), none⟩, ⟨(some 77), .mv (.t 0), none⟩, ⟨(some 78), .len (.t 77), none⟩, ⟨(some 79), .bin .lss .no (.t 76) (.t 78), none⟩])
   (.cond (.t 79)
     .skip
     (.exit 2)))
   (.seq (.block 3 (.reg [⟨(some 82), .mv (.t 11), none⟩, ⟨(some 83), .mv (.t 10), none⟩, ⟨(some 84), .mv (.t 0), none⟩, ⟨(some 85), .mv (.t 12), none⟩, ⟨(some 86), .iaddr 1 (.t 84) (.t 85), none⟩, ⟨(some 87), .load none (.t 86), none⟩, ⟨(some 88), .convI .i64 (.t 87), none⟩, ⟨(some 89), .bin .rem .no (.t 88) (.c (.int .i64 4)), none⟩, ⟨(some 90), .bin .add .no (.c (.int .i64 2)) (.t 89), none⟩, ⟨(some 91), .iaddr 1 (.t 83) (.t 90), none⟩, ⟨(some 92), .load none (.t 91), none⟩, ⟨(some 93), .bin .neq .bool (.t 82) (.t 92), none⟩, ⟨(some 11), .mv (.t 93), none⟩]))
   (.reg [⟨(some 80), .mv (.t 12), none⟩, ⟨(some 81), .bin .add .no (.t 80) (.c (.int .i64 1)), none⟩, ⟨(some 12), .mv (.t 81), none⟩]))))))
 (.seq (.reg [⟨(some 94), .mv (.t 10), none⟩, ⟨(some 95), .iaddr 1 (.t 94) (.c (.int .i64 0)), none⟩, ⟨(some 96), .load none (.t 95), none⟩, ⟨(some 97), .mv (.t 11), none⟩, ⟨(some 98), .bin .eql .bool (.t 96) (.t 97), none⟩, ⟨(some 99), .mv (.t 98), none⟩, ⟨(some 100), .mv (.t 10), (some (99, true))⟩, ⟨(some 101), .iaddr 1 (.t 100) (.c (.int .i64 1)), (some (99, true))⟩, ⟨(some 102), .load none (.t 101), (some (99, true))⟩, ⟨(some 103), .mv (.t 11), (some (99, true))⟩, ⟨(some 104), .bin .eql .bool (.t 102) (.t 103), (some (99, true))⟩, ⟨(some 105), .pick (.t 99) (.t 104) (.c (.bool false)), none⟩, ⟨(some 4), .mv (.t 105), none⟩])
 .ret)))))))))), [.tmp 4]⟩
theorem c4 : compF Tryd.prog Tryd.f4 = some m4 := by kernel_rfl
/-- weirgate/weirgatelaw05.awake -/
def m5 : MFunc := ⟨30, (.seq (.reg [⟨(some 0), .mv (.c (.bool false)), none⟩])
 (.seq (.reg [⟨(some 3), .call (.c (.fn 6 [])) [], none⟩, ⟨(some 1), .mv (.t 3), none⟩])
 (.seq (.seq (.reg [⟨(some 4), .mv (.t 1), none⟩, ⟨(some 5), .bin .eql .ptr (.t 4) (.c .nilp), none⟩])
 (.cond (.t 5)
   (.seq (.reg [⟨(some 0), .mv (.c (.bool false)), none⟩])
   .ret)
   .skip))
 (.seq (.reg [⟨(some 6), .mv (.t 1), none⟩, ⟨(some 7), .call (.c (.fn 7 [])) [(.t 6)], none⟩, ⟨(some 2), .mv (.t 7), none⟩])
 (.seq (.reg [⟨(some 8), .mv (.t 2), none⟩, ⟨(some 9), .bin .eql .no (.t 8) (.c (.int .i64 2)), none⟩, ⟨(some 10), .mv (.t 9), none⟩, ⟨(some 11), .mv (.t 1), (some (10, true))⟩, ⟨(some 12), .mv (.t 2), (some (10, true))⟩, ⟨(some 13), .call (.c (.fn 8 [])) [(.t 11), (.t 12), (.c (.int .i64 1))], (some (10, true))⟩, ⟨(some 14), .mv (.t 2), (some (10, true))⟩, ⟨(some 15), .bin .eql .no (.t 13) (.t 14), (some (10, true))⟩, ⟨(some 16), .pick (.t 10) (.t 15) (.c (.bool false)), none⟩, ⟨(some 17), .mv (.t 16), none⟩, ⟨(some 18), .mv (.t 1), (some (17, true))⟩, ⟨(some 19), .mv (.t 2), (some (17, true))⟩, ⟨(some 20), .mv (.t 2), (some (17, true))⟩, ⟨(some 21), .call (.c (.fn 14 [])) [(.t 20)], (some (17, true))⟩, ⟨(some 22), .call (.c (.fn 8 [])) [(.t 18), (.t 19), (.t 21)], (some (17, true))⟩, ⟨(some 23), .bin .eql .no (.t 22) (.c (.int .i64 0)), (some (17, true))⟩, ⟨(some 24), .pick (.t 17) (.t 23) (.c (.bool false)), none⟩, ⟨(some 25), .mv (.t 24), none⟩, ⟨(some 26), .mv (.t 1), (some (25, true))⟩, ⟨(some 27), .call (.c (.fn 10 [])) [(.t 26)], (some (25, true))⟩, ⟨(some 28), .bin .eql .no (.t 27) (.c (.int .i64 2)), (some (25, true))⟩, ⟨(some 29), .pick (.t 25) (.t 28) (.c (.bool false)), none⟩, ⟨(some 0), .mv (.t 29), none⟩])
 .ret))))), [.tmp 0]⟩
theorem c5 : compF Tryd.prog Tryd.f5 = some m5 := by kernel_rfl
/-- weirgate/graph.New -/
def m6 : MFunc := ⟨6, (.seq (.reg [⟨(some 0), .mv (.c .nilp), none⟩])
 (.seq (.reg [⟨(some 1), .load (some 2) (.g 0), none⟩, ⟨(some 2), .bslice 2 1 [(.int .i64 0), (.int .i64 0)] [(0, 2, (.t 1))], none⟩, ⟨(some 3), .mkmap, none⟩, ⟨(some 4), .build [.nils, .nilmap, .nils] [(0, 1, (.t 2)), (1, 1, (.t 3))], none⟩, ⟨(some 5), .box 3 (.t 4), none⟩, ⟨(some 0), .mv (.t 5), none⟩])
 .ret)), [.tmp 0]⟩
theorem c6 : compF Tryd.prog Tryd.f6 = some m6 := by kernel_rfl
/-- (*weirgate/graph.Graph).Input -/
def m7 : MFunc := ⟨20, (.seq (.reg [⟨(some 2), .mv (.c (.int .i64 0)), none⟩])
 (.seq (.reg [⟨(some 4), .mv (.t 0), none⟩, ⟨(some 5), .load (some 2) (.g 0), none⟩, ⟨(some 6), .call (.c (.fn 15 [])) [(.t 4), (.t 5)], none⟩, ⟨(some 3), .mv (.t 6), none⟩])
 (.seq (.seq (.reg [⟨(some 7), .mv (.t 3), none⟩, ⟨(some 8), .bin .gtr .no (.t 7) (.c (.int .i64 0)), none⟩])
 (.cond (.t 8)
   (.reg [⟨(some 9), .mv (.t 0), none⟩, ⟨(some 10), .mv (.t 0), none⟩, ⟨(some 11), .nilc (.t 10), none⟩, ⟨(some 12), .faddr 2 (.t 11), none⟩, ⟨(some 13), .load none (.t 12), none⟩, ⟨(some 14), .mv (.t 3), none⟩, ⟨(some 15), .bslice 1 1 [(.int .i64 0)] [(0, 1, (.t 14))], none⟩, ⟨(some 16), .append 1 8 (.t 13) (.t 15), none⟩, ⟨(some 17), .nilc (.t 9), none⟩, ⟨(some 18), .faddr 2 (.t 17), none⟩, ⟨none, .store 1 (.t 18) (.t 16), none⟩])
   .skip))
 (.seq (.reg [⟨(some 19), .mv (.t 3), none⟩, ⟨(some 2), .mv (.t 19), none⟩])
 .ret)))), [.tmp 2]⟩
theorem c7 : compF Tryd.prog Tryd.f7 = some m7 := by kernel_rfl
/-- (*weirgate/graph.Graph).And -/
def m8 : MFunc := ⟨66, (.seq (.reg [⟨(some 6), .mv (.c (.int .i64 0)), none⟩])
 (.seq (.reg [⟨(some 11), .mv (.t 0), none⟩, ⟨(some 12), .mv (.t 1), none⟩, ⟨(some 13), .call (.c (.fn 16 [])) [(.t 11), (.t 12)], none⟩, ⟨(some 14), .mv (.t 0), none⟩, ⟨(some 15), .mv (.t 2), none⟩, ⟨(some 16), .call (.c (.fn 16 [])) [(.t 14), (.t 15)], none⟩, ⟨(some 1), .mv (.t 13), none⟩, ⟨(some 2), .mv (.t 16), none⟩])
 (.seq (.seq (.reg [⟨(some 17), .mv (.t 1), none⟩, ⟨(some 18), .mv (.t 2), none⟩, ⟨(some 19), .bin .gtr .no (.t 17) (.t 18), none⟩])
 (.cond (.t 19)
   (.reg [⟨(some 20), .mv (.t 2), none⟩, ⟨(some 21), .mv (.t 1), none⟩, ⟨(some 1), .mv (.t 20), none⟩, ⟨(some 2), .mv (.t 21), none⟩])
   .skip))
 (.seq (.block 0 (.seq (.reg [⟨(some 23), .mv (.t 1), none⟩, ⟨(some 24), .bin .eql .no (.t 23) (.c (.int .i64 0)), none⟩, ⟨(some 25), .mv (.t 24), none⟩, ⟨(some 26), .mv (.t 1), (some (25, false))⟩, ⟨(some 27), .mv (.t 2), (some (25, false))⟩, ⟨(some 28), .call (.c (.fn 14 [])) [(.t 27)], (some (25, false))⟩, ⟨(some 29), .bin .eql .no (.t 26) (.t 28), (some (25, false))⟩, ⟨(some 30), .pick (.t 25) (.c (.bool true)) (.t 29), none⟩, ⟨(some 22), .mv (.t 30), none⟩])
  (.cond (.t 22)
    (.seq (.reg [⟨(some 6), .mv (.c (.int .i64 0)), none⟩])
    .ret)
    (.seq (.reg [⟨(some 32), .mv (.t 1), none⟩, ⟨(some 33), .bin .eql .no (.t 32) (.c (.int .i64 1)), none⟩, ⟨(some 34), .mv (.t 33), none⟩, ⟨(some 35), .mv (.t 1), (some (34, false))⟩, ⟨(some 36), .mv (.t 2), (some (34, false))⟩, ⟨(some 37), .bin .eql .no (.t 35) (.t 36), (some (34, false))⟩, ⟨(some 38), .pick (.t 34) (.c (.bool true)) (.t 37), none⟩, ⟨(some 31), .mv (.t 38), none⟩])
    (.cond (.t 31)
      (.seq (.reg [⟨(some 39), .mv (.t 2), none⟩, ⟨(some 6), .mv (.t 39), none⟩])
      .ret)
      .skip)))))
 (.seq (.reg [⟨(some 40), .mv (.t 1), none⟩, ⟨(some 41), .mv (.t 2), none⟩, ⟨(some 42), .build [(.int .i64 0), (.int .i64 0)] [(0, 1, (.t 40)), (1, 1, (.t 41))], none⟩, ⟨(some 7), .alloc [(.int .i64 0), (.int .i64 0)], none⟩, ⟨none, .store 2 (.t 7) (.t 42), none⟩])
 (.seq (.seq (.draw [⟨(some 44), .mv (.t 0), none⟩, ⟨(some 45), .nilc (.t 44), none⟩, ⟨(some 46), .faddr 1 (.t 45), none⟩, ⟨(some 47), .load none (.t 46), none⟩, ⟨(some 48), .load (some 2) (.t 7), none⟩, ⟨(some 49), .look [.i, .i] .i64 0 true (.t 47) (.t 48), none⟩, ⟨(some 43), .mv (.t 49), none⟩, ⟨(some 50), .extract (.t 43) 0, none⟩, ⟨(some 51), .extract (.t 43) 1, none⟩, ⟨(some 8), .mv (.t 50), none⟩, ⟨(some 9), .mv (.t 51), none⟩] [0, 1, 3, 7, 0, 31, 63, 127, 127, 255, 1023])
 (.seq (.reg [⟨(some 52), .mv (.t 9), none⟩])
 (.cond (.t 52)
   (.seq (.reg [⟨(some 53), .mv (.t 8), none⟩, ⟨(some 6), .mv (.t 53), none⟩])
   .ret)
   .skip)))
 (.seq (.reg [⟨(some 54), .mv (.t 0), none⟩, ⟨(some 55), .load (some 2) (.t 7), none⟩, ⟨(some 56), .call (.c (.fn 15 [])) [(.t 54), (.t 55)], none⟩, ⟨(some 10), .mv (.t 56), none⟩])
 (.seq (.seq (.reg [⟨(some 57), .mv (.t 10), none⟩, ⟨(some 58), .bin .gtr .no (.t 57) (.c (.int .i64 0)), none⟩])
 (.cond (.t 58)
   (.draw [⟨(some 59), .mv (.t 0), none⟩, ⟨(some 60), .nilc (.t 59), none⟩, ⟨(some 61), .faddr 1 (.t 60), none⟩, ⟨(some 62), .load none (.t 61), none⟩, ⟨(some 63), .load (some 2) (.t 7), none⟩, ⟨(some 64), .mv (.t 10), none⟩, ⟨none, .mput [.i, .i] (.t 62) (.t 63) (.t 64), none⟩] [0, 1, 3, 7, 0, 0, 63])
   .skip))
 (.seq (.reg [⟨(some 65), .mv (.t 10), none⟩, ⟨(some 6), .mv (.t 65), none⟩])
 .ret))))))))), [.tmp 6]⟩
theorem c8 : compF Tryd.prog Tryd.f8 = some m8 := by kernel_rfl
/-- weirgate/weirgatelaw05.edge -/
def m9 : MFunc := ⟨23, (.seq (.reg [⟨(some 4), .mv (.c (.int .i64 0)), none⟩])
 (.seq (.seq (.reg [⟨(some 6), .mv (.t 1), none⟩, ⟨(some 7), .bin .lss .no (.t 6) (.c (.int .i64 0)), none⟩])
 (.cond (.t 7)
   (.seq (.reg [⟨(some 8), .mv (.t 1), none⟩, ⟨(some 4), .mv (.t 8), none⟩])
   .ret)
   .skip))
 (.seq (.reg [⟨(some 9), .mv (.t 0), none⟩, ⟨(some 10), .mv (.t 1), none⟩, ⟨(some 11), .bin .quo .no (.t 10) (.c (.int .i64 2)), none⟩, ⟨(some 12), .mv (.t 0), none⟩, ⟨(some 13), .len (.t 12), none⟩, ⟨(some 14), .bin .rem .no (.t 11) (.t 13), none⟩, ⟨(some 15), .iaddr 1 (.t 9) (.t 14), none⟩, ⟨(some 16), .load none (.t 15), none⟩, ⟨(some 5), .mv (.t 16), none⟩])
 (.seq (.seq (.reg [⟨(some 17), .mv (.t 1), none⟩, ⟨(some 18), .bin .rem .no (.t 17) (.c (.int .i64 2)), none⟩, ⟨(some 19), .bin .eql .no (.t 18) (.c (.int .i64 1)), none⟩])
 (.cond (.t 19)
   (.seq (.reg [⟨(some 20), .mv (.t 5), none⟩, ⟨(some 21), .call (.c (.fn 14 [])) [(.t 20)], none⟩, ⟨(some 4), .mv (.t 21), none⟩])
   .ret)
   .skip))
 (.seq (.reg [⟨(some 22), .mv (.t 5), none⟩, ⟨(some 4), .mv (.t 22), none⟩])
 .ret))))), [.tmp 4]⟩
theorem c9 : compF Tryd.prog Tryd.f9 = some m9 := by kernel_rfl
/-- (*weirgate/graph.Graph).Nodes -/
def m10 : MFunc := ⟨8, (.seq (.reg [⟨(some 2), .mv (.c (.int .i64 0)), none⟩])
 (.seq (.reg [⟨(some 3), .mv (.t 0), none⟩, ⟨(some 4), .nilc (.t 3), none⟩, ⟨(some 5), .faddr 0 (.t 4), none⟩, ⟨(some 6), .load none (.t 5), none⟩, ⟨(some 7), .len (.t 6), none⟩, ⟨(some 2), .mv (.t 7), none⟩])
 .ret)), [.tmp 2]⟩
theorem c10 : compF Tryd.prog Tryd.f10 = some m10 := by kernel_rfl
/-- weirgate/weirgateref01.Ints -/
def m11 : MFunc := ⟨26, (.seq (.reg [⟨(some 4), .mv (.c (.bool false)), none⟩])
 (.seq (.seq (.reg [⟨(some 6), .mv (.t 0), none⟩, ⟨(some 7), .len (.t 6), none⟩, ⟨(some 8), .mv (.t 1), none⟩, ⟨(some 9), .len (.t 8), none⟩, ⟨(some 10), .bin .neq .no (.t 7) (.t 9), none⟩])
 (.cond (.t 10)
   (.seq (.reg [⟨(some 4), .mv (.c (.bool false)), none⟩])
   .ret)
   .skip))
 (.seq (.seq (.reg [⟨(some 5), .mv (.c (.int .i64 0)), none⟩])
 (.block 0 (.loop (.seq (.seq (.reg [⟨(some 11), .mv (.t 5), none⟩, ⟨(some 12), .mv (.t 0), none⟩, ⟨(some 13), .len (.t 12), none⟩, ⟨(some 14), .bin .lss .no (.t 11) (.t 13), none⟩])
   (.cond (.t 14)
     .skip
     (.exit 0)))
   (.seq (.block 1 (.seq (.draw [⟨(some 17), .mv (.t 0), none⟩, ⟨(some 18), .mv (.t 5), none⟩, ⟨(some 19), .iaddr 1 (.t 17) (.t 18), none⟩, ⟨(some 20), .load none (.t 19), none⟩, ⟨(some 21), .mv (.t 1), none⟩, ⟨(some 22), .mv (.t 5), none⟩, ⟨(some 23), .iaddr 1 (.t 21) (.t 22), none⟩, ⟨(some 24), .load none (.t 23), none⟩, ⟨(some 25), .bin .neq .no (.t 20) (.t 24), none⟩] [0, 0, 3, 7, 0, 0, 48, 112, 255])
    (.cond (.t 25)
      (.seq (.reg [⟨(some 4), .mv (.c (.bool false)), none⟩])
      .ret)
      .skip)))
   (.reg [⟨(some 15), .mv (.t 5), none⟩, ⟨(some 16), .bin .add .no (.t 15) (.c (.int .i64 1)), none⟩, ⟨(some 5), .mv (.t 16), none⟩]))))))
 (.seq (.reg [⟨(some 4), .mv (.c (.bool true)), none⟩])
 .ret)))), [.tmp 4]⟩
theorem c11 : compF Tryd.prog Tryd.f11 = some m11 := by kernel_rfl
/-- (*weirgate/graph.Graph).Xor -/
def m12 : MFunc := ⟨25, (.seq (.reg [⟨(some 6), .mv (.c (.int .i64 0)), none⟩])
 (.seq (.reg [⟨(some 7), .mv (.t 0), none⟩, ⟨(some 8), .mv (.t 1), none⟩, ⟨(some 9), .call (.c (.fn 16 [])) [(.t 7), (.t 8)], none⟩, ⟨(some 10), .mv (.t 0), none⟩, ⟨(some 11), .mv (.t 2), none⟩, ⟨(some 12), .call (.c (.fn 16 [])) [(.t 10), (.t 11)], none⟩, ⟨(some 1), .mv (.t 9), none⟩, ⟨(some 2), .mv (.t 12), none⟩])
 (.seq (.reg [⟨(some 13), .mv (.t 0), none⟩, ⟨(some 14), .mv (.t 0), none⟩, ⟨(some 15), .mv (.t 1), none⟩, ⟨(some 16), .mv (.t 2), none⟩, ⟨(some 17), .call (.c (.fn 14 [])) [(.t 16)], none⟩, ⟨(some 18), .call (.c (.fn 8 [])) [(.t 14), (.t 15), (.t 17)], none⟩, ⟨(some 19), .mv (.t 0), none⟩, ⟨(some 20), .mv (.t 1), none⟩, ⟨(some 21), .call (.c (.fn 14 [])) [(.t 20)], none⟩, ⟨(some 22), .mv (.t 2), none⟩, ⟨(some 23), .call (.c (.fn 8 [])) [(.t 19), (.t 21), (.t 22)], none⟩, ⟨(some 24), .call (.c (.fn 17 [])) [(.t 13), (.t 18), (.t 23)], none⟩, ⟨(some 6), .mv (.t 24), none⟩])
 .ret))), [.tmp 6]⟩
theorem c12 : compF Tryd.prog Tryd.f12 = some m12 := by kernel_rfl
/-- (*weirgate/graph.Graph).Eval -/
def m13 : MFunc := ⟨95, (.seq (.reg [⟨(some 6), .mv (.c .nils), none⟩])
 (.seq (.reg [⟨(some 14), .mv (.t 0), none⟩, ⟨(some 15), .nilc (.t 14), none⟩, ⟨(some 16), .faddr 0 (.t 15), none⟩, ⟨(some 17), .load none (.t 16), none⟩, ⟨(some 18), .len (.t 17), none⟩, ⟨(some 19), .mkslice 1 1 [(.bool false)] (.t 18) (.t 18), none⟩, ⟨(some 7), .alloc [.nils], none⟩, ⟨none, .store 1 (.t 7) (.t 19), none⟩])
 (.seq (.reg [⟨(some 8), .mv (.c (.int .i64 0)), none⟩])
 (.seq (.reg [⟨(some 20), .mkfn 18 [(.t 7)], none⟩, ⟨(some 9), .mv (.t 20), none⟩])
 (.seq (.seq (.reg [⟨(some 10), .mv (.c (.int .i64 1)), none⟩])
 (.block 0 (.loop (.seq (.seq (.reg [⟨(some 21), .mv (.t 10), none⟩, ⟨(some 22), .mv (.t 0), none⟩, ⟨(some 23), .nilc (.t 22), none⟩, ⟨(some 24), .faddr 0 (.t 23), none⟩, ⟨(some 25), .load none (.t 24), none⟩, ⟨(some 26), .len (.t 25), none⟩, ⟨(some 27), .bin .lss .no (.t 21) (.t 26), none⟩])
   (.cond (.t 27)
     .skip
     (.exit 0)))
   (.seq (.block 1 (.seq (.seq (.draw [⟨(some 30), .mv (.t 0), none⟩, ⟨(some 31), .nilc (.t 30), none⟩, ⟨(some 32), .faddr 0 (.t 31), none⟩, ⟨(some 33), .load none (.t 32), none⟩, ⟨(some 34), .mv (.t 10), none⟩, ⟨(some 35), .iaddr 2 (.t 33) (.t 34), none⟩, ⟨(some 36), .load (some 2) (.t 35), none⟩, ⟨(some 37), .load (some 2) (.g 0), none⟩, ⟨(some 38), .bin .eql (.flat [.i, .i]) (.t 36) (.t 37), none⟩] [0, 1, 3, 7, 0, 31, 63, 0, 255])
    (.cond (.t 38)
      (.seq (.draw [⟨(some 39), .load none (.t 7), none⟩, ⟨(some 40), .mv (.t 10), none⟩, ⟨(some 41), .mv (.t 8), none⟩, ⟨(some 42), .mv (.t 1), none⟩, ⟨(some 43), .len (.t 42), none⟩, ⟨(some 44), .bin .lss .no (.t 41) (.t 43), none⟩, ⟨(some 45), .mv (.t 44), none⟩, ⟨(some 46), .mv (.t 1), (some (45, true))⟩, ⟨(some 47), .mv (.t 8), (some (45, true))⟩, ⟨(some 48), .iaddr 1 (.t 46) (.t 47), (some (45, true))⟩, ⟨(some 49), .load none (.t 48), (some (45, true))⟩, ⟨(some 50), .pick (.t 45) (.t 49) (.c (.bool false)), none⟩, ⟨(some 51), .iaddr 1 (.t 39) (.t 40), none⟩, ⟨none, .store 1 (.t 51) (.t 50), none⟩] [0, 0, 0, 0, 8, 28, 60, 124, 124, 508, 1020, 2044, 4095, 8191])
      (.seq (.reg [⟨(some 52), .mv (.t 8), none⟩, ⟨(some 53), .bin .add .no (.t 52) (.c (.int .i64 1)), none⟩, ⟨(some 8), .mv (.t 53), none⟩])
      (.exit 1)))
      .skip))
    (.draw [⟨(some 54), .load none (.t 7), none⟩, ⟨(some 55), .mv (.t 10), none⟩, ⟨(some 56), .mv (.t 9), none⟩, ⟨(some 57), .mv (.t 0), none⟩, ⟨(some 58), .nilc (.t 57), none⟩, ⟨(some 59), .faddr 0 (.t 58), none⟩, ⟨(some 60), .load none (.t 59), none⟩, ⟨(some 61), .mv (.t 10), none⟩, ⟨(some 62), .iaddr 2 (.t 60) (.t 61), none⟩, ⟨(some 63), .faddr 0 (.t 62), none⟩, ⟨(some 64), .load none (.t 63), none⟩, ⟨(some 65), .call (.t 56) [(.t 64)], none⟩, ⟨(some 66), .mv (.t 65), none⟩, ⟨(some 67), .mv (.t 9), (some (66, true))⟩, ⟨(some 68), .mv (.t 0), (some (66, true))⟩, ⟨(some 69), .nilc (.t 68), (some (66, true))⟩, ⟨(some 70), .faddr 0 (.t 69), (some (66, true))⟩, ⟨(some 71), .load none (.t 70), (some (66, true))⟩, ⟨(some 72), .mv (.t 10), (some (66, true))⟩, ⟨(some 73), .iaddr 2 (.t 71) (.t 72), (some (66, true))⟩, ⟨(some 74), .faddr 1 (.t 73), (some (66, true))⟩, ⟨(some 75), .load none (.t 74), (some (66, true))⟩, ⟨(some 76), .call (.t 67) [(.t 75)], (some (66, true))⟩, ⟨(some 77), .pick (.t 66) (.t 76) (.c (.bool false)), none⟩, ⟨(some 78), .iaddr 1 (.t 54) (.t 55), none⟩, ⟨none, .store 1 (.t 78) (.t 77), none⟩] [0, 0, 0, 0, 8, 24, 56, 0, 248, 504, 1016, 2044, 4092, 8188, 8188, 24572, 57340, 122876, 8188, 516092, 1040380, 2088956, 4194300, 8388604, 16777215, 33554431])))
   (.reg [⟨(some 28), .mv (.t 10), none⟩, ⟨(some 29), .bin .add .no (.t 28) (.c (.int .i64 1)), none⟩, ⟨(some 10), .mv (.t 29), none⟩]))))))
 (.seq (.reg [⟨(some 11), .mv (.c .nils), none⟩])
 (.seq (.seq (.reg [⟨(some 79), .mv (.t 2), none⟩, ⟨(some 80), .len (.t 79), none⟩, ⟨(some 81), .mv (.c (.int .i64 0)), none⟩])
 (.block 2 (.loop (.seq (.reg [⟨(some 82), .bin .lss .no (.t 81) (.t 80), none⟩])
   (.seq (.cond (.t 82)
     .skip
     (.exit 2))
   (.seq (.block 3 (.seq (.reg [⟨(some 83), .iaddr 1 (.t 79) (.t 81), none⟩, ⟨(some 84), .load none (.t 83), none⟩, ⟨(some 13), .mv (.t 84), none⟩])
    (.reg [⟨(some 85), .mv (.t 11), none⟩, ⟨(some 86), .mv (.t 9), none⟩, ⟨(some 87), .mv (.t 0), none⟩, ⟨(some 88), .mv (.t 13), none⟩, ⟨(some 89), .call (.c (.fn 16 [])) [(.t 87), (.t 88)], none⟩, ⟨(some 90), .call (.t 86) [(.t 89)], none⟩, ⟨(some 91), .bslice 1 1 [(.bool false)] [(0, 1, (.t 90))], none⟩, ⟨(some 92), .append 1 1 (.t 85) (.t 91), none⟩, ⟨(some 11), .mv (.t 92), none⟩])))
   (.reg [⟨(some 93), .bin .add .no (.t 81) (.c (.int .i64 1)), none⟩, ⟨(some 81), .mv (.t 93), none⟩])))))))
 (.seq (.reg [⟨(some 94), .mv (.t 11), none⟩, ⟨(some 6), .mv (.t 94), none⟩])
 .ret)))))))), [.tmp 6]⟩
theorem c13 : compF Tryd.prog Tryd.f13 = some m13 := by kernel_rfl
/-- weirgate/graph.Not -/
def m14 : MFunc := ⟨5, (.seq (.reg [⟨(some 2), .mv (.c (.int .i64 0)), none⟩])
 (.seq (.reg [⟨(some 3), .mv (.t 0), none⟩, ⟨(some 4), .bin .xor .no (.t 3) (.c (.int .i64 1)), none⟩, ⟨(some 2), .mv (.t 4), none⟩])
 .ret)), [.tmp 2]⟩
theorem c14 : compF Tryd.prog Tryd.f14 = some m14 := by kernel_rfl
/-- (*weirgate/graph.Graph).put -/
def m15 : MFunc := ⟨28, (.seq (.reg [⟨(some 3), .box 2 (.t 1), none⟩, ⟨(some 4), .mv (.c (.int .i64 0)), none⟩])
 (.seq (.seq (.reg [⟨(some 5), .mv (.t 0), none⟩, ⟨(some 6), .nilc (.t 5), none⟩, ⟨(some 7), .faddr 0 (.t 6), none⟩, ⟨(some 8), .load none (.t 7), none⟩, ⟨(some 9), .len (.t 8), none⟩, ⟨(some 10), .bin .geq .no (.t 9) (.c (.int .i64 200000)), none⟩])
 (.cond (.t 10)
   (.seq (.reg [⟨(some 4), .mv (.c (.int .i64 0)), none⟩])
   .ret)
   .skip))
 (.seq (.draw [⟨(some 11), .mv (.t 0), none⟩, ⟨(some 12), .mv (.t 0), none⟩, ⟨(some 13), .nilc (.t 12), none⟩, ⟨(some 14), .faddr 0 (.t 13), none⟩, ⟨(some 15), .load none (.t 14), none⟩, ⟨(some 16), .load (some 2) (.t 3), none⟩, ⟨(some 17), .bslice 2 1 [(.int .i64 0), (.int .i64 0)] [(0, 2, (.t 16))], none⟩, ⟨(some 18), .append 2 16 (.t 15) (.t 17), none⟩, ⟨(some 19), .nilc (.t 11), none⟩, ⟨(some 20), .faddr 0 (.t 19), none⟩, ⟨none, .store 1 (.t 20) (.t 18), none⟩] [0, 0, 2, 6, 14, 0, 32, 126, 255, 511, 1023])
 (.seq (.reg [⟨(some 21), .mv (.t 0), none⟩, ⟨(some 22), .nilc (.t 21), none⟩, ⟨(some 23), .faddr 0 (.t 22), none⟩, ⟨(some 24), .load none (.t 23), none⟩, ⟨(some 25), .len (.t 24), none⟩, ⟨(some 26), .bin .sub .no (.t 25) (.c (.int .i64 1)), none⟩, ⟨(some 27), .bin .mul .no (.c (.int .i64 2)) (.t 26), none⟩, ⟨(some 4), .mv (.t 27), none⟩])
 .ret)))), [.tmp 4]⟩
theorem c15 : compF Tryd.prog Tryd.f15 = some m15 := by kernel_rfl
/-- (*weirgate/graph.Graph).edge -/
def m16 : MFunc := ⟨18, (.seq (.reg [⟨(some 4), .mv (.c (.int .i64 0)), none⟩])
 (.seq (.seq (.reg [⟨(some 5), .mv (.t 1), none⟩, ⟨(some 6), .bin .lss .no (.t 5) (.c (.int .i64 0)), none⟩, ⟨(some 7), .mv (.t 6), none⟩, ⟨(some 8), .mv (.t 1), (some (7, false))⟩, ⟨(some 9), .bin .quo .no (.t 8) (.c (.int .i64 2)), (some (7, false))⟩, ⟨(some 10), .mv (.t 0), (some (7, false))⟩, ⟨(some 11), .nilc (.t 10), (some (7, false))⟩, ⟨(some 12), .faddr 0 (.t 11), (some (7, false))⟩, ⟨(some 13), .load none (.t 12), (some (7, false))⟩, ⟨(some 14), .len (.t 13), (some (7, false))⟩, ⟨(some 15), .bin .geq .no (.t 9) (.t 14), (some (7, false))⟩, ⟨(some 16), .pick (.t 7) (.c (.bool true)) (.t 15), none⟩])
 (.cond (.t 16)
   (.seq (.reg [⟨(some 4), .mv (.c (.int .i64 0)), none⟩])
   .ret)
   .skip))
 (.seq (.reg [⟨(some 17), .mv (.t 1), none⟩, ⟨(some 4), .mv (.t 17), none⟩])
 .ret))), [.tmp 4]⟩
theorem c16 : compF Tryd.prog Tryd.f16 = some m16 := by kernel_rfl
/-- (*weirgate/graph.Graph).Or -/
def m17 : MFunc := ⟨18, (.seq (.reg [⟨(some 6), .mv (.c (.int .i64 0)), none⟩])
 (.seq (.reg [⟨(some 7), .mv (.t 0), none⟩, ⟨(some 8), .mv (.t 0), none⟩, ⟨(some 9), .mv (.t 1), none⟩, ⟨(some 10), .call (.c (.fn 16 [])) [(.t 8), (.t 9)], none⟩, ⟨(some 11), .call (.c (.fn 14 [])) [(.t 10)], none⟩, ⟨(some 12), .mv (.t 0), none⟩, ⟨(some 13), .mv (.t 2), none⟩, ⟨(some 14), .call (.c (.fn 16 [])) [(.t 12), (.t 13)], none⟩, ⟨(some 15), .call (.c (.fn 14 [])) [(.t 14)], none⟩, ⟨(some 16), .call (.c (.fn 8 [])) [(.t 7), (.t 11), (.t 15)], none⟩, ⟨(some 17), .call (.c (.fn 14 [])) [(.t 16)], none⟩, ⟨(some 6), .mv (.t 17), none⟩])
 .ret)), [.tmp 6]⟩
theorem c17 : compF Tryd.prog Tryd.f17 = some m17 := by kernel_rfl
/-- (*weirgate/graph.Graph).Eval$1 -/
def m18 : MFunc := ⟨13, (.seq (.reg [⟨(some 3), .mv (.c (.bool false)), none⟩])
 (.seq (.reg [⟨(some 4), .load none (.t 1), none⟩, ⟨(some 5), .mv (.t 0), none⟩, ⟨(some 6), .bin .quo .no (.t 5) (.c (.int .i64 2)), none⟩, ⟨(some 7), .iaddr 1 (.t 4) (.t 6), none⟩, ⟨(some 8), .load none (.t 7), none⟩, ⟨(some 9), .mv (.t 0), none⟩, ⟨(some 10), .bin .rem .no (.t 9) (.c (.int .i64 2)), none⟩, ⟨(some 11), .bin .eql .no (.t 10) (.c (.int .i64 1)), none⟩, ⟨(some 12), .bin .neq .bool (.t 8) (.t 11), none⟩, ⟨(some 3), .mv (.t 12), none⟩])
 .ret)), [.tmp 3]⟩
theorem c18 : compF Tryd.prog Tryd.f18 = some m18 := by kernel_rfl
def tab (f : FuncId) : Option MFunc :=
  (bif Nat.blt f 11 then (bif Nat.blt f 7 then (bif Nat.blt f 5 then (bif Nat.blt f 4 then (bif Nat.beq f 3 then some m3 else none) else (bif Nat.beq f 4 then some m4 else none)) else (bif Nat.blt f 6 then (bif Nat.beq f 5 then some m5 else none) else (bif Nat.beq f 6 then some m6 else none))) else (bif Nat.blt f 9 then (bif Nat.blt f 8 then (bif Nat.beq f 7 then some m7 else none) else (bif Nat.beq f 8 then some m8 else none)) else (bif Nat.blt f 10 then (bif Nat.beq f 9 then some m9 else none) else (bif Nat.beq f 10 then some m10 else none)))) else (bif Nat.blt f 15 then (bif Nat.blt f 13 then (bif Nat.blt f 12 then (bif Nat.beq f 11 then some m11 else none) else (bif Nat.beq f 12 then some m12 else none)) else (bif Nat.blt f 14 then (bif Nat.beq f 13 then some m13 else none) else (bif Nat.beq f 14 then some m14 else none))) else (bif Nat.blt f 17 then (bif Nat.blt f 16 then (bif Nat.beq f 15 then some m15 else none) else (bif Nat.beq f 16 then some m16 else none)) else (bif Nat.blt f 18 then (bif Nat.beq f 17 then some m17 else none) else (bif Nat.beq f 18 then some m18 else none)))))
theorem tab_ok (f : FuncId) (m : MFunc) (h : tab f = some m) : ∃ fn, Tryd.prog.funcs[f]? = some fn ∧ compF Tryd.prog fn = some m :=
  tab_node h (fun h => tab_node h (fun h => tab_node h (fun h => tab_node h (fun h => tab_leaf h Tryd.func3 c3) (fun h => tab_leaf h Tryd.func4 c4)) (fun h => tab_node h (fun h => tab_leaf h Tryd.func5 c5) (fun h => tab_leaf h Tryd.func6 c6))) (fun h => tab_node h (fun h => tab_node h (fun h => tab_leaf h Tryd.func7 c7) (fun h => tab_leaf h Tryd.func8 c8)) (fun h => tab_node h (fun h => tab_leaf h Tryd.func9 c9) (fun h => tab_leaf h Tryd.func10 c10)))) (fun h => tab_node h (fun h => tab_node h (fun h => tab_node h (fun h => tab_leaf h Tryd.func11 c11) (fun h => tab_leaf h Tryd.func12 c12)) (fun h => tab_node h (fun h => tab_leaf h Tryd.func13 c13) (fun h => tab_leaf h Tryd.func14 c14))) (fun h => tab_node h (fun h => tab_node h (fun h => tab_leaf h Tryd.func15 c15) (fun h => tab_leaf h Tryd.func16 c16)) (fun h => tab_node h (fun h => tab_leaf h Tryd.func17 c17) (fun h => tab_leaf h Tryd.func18 c18))))
end Go.Proofs.YtdidbboahhpaoaaDoor.Code
