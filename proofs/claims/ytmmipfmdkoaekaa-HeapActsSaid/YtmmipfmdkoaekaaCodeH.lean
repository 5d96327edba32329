/- A part of the proof: CodeH. No condition. -/
import Derived.Test.YtmmipfmdkoaekaaProg
import Derived.Test.YtmmipfmdkoaekaaMiniC
import Derived.KernelRfl
set_option linter.all false
set_option maxRecDepth 100000
set_option maxRecDepth 100000
set_option maxHeartbeats 0
namespace Go.Proofs.Ytmmipfmdkoaekaa.Code
open Go.Mini

/-- weirgate/weirgatelaw02.HeapMost -/
def m3 : MFunc := ⟨82, (.seq (.reg [⟨(some 4), .mv (.c (.bool false)), none⟩])
 (.seq (.seq (.reg [⟨(some 11), .call (.c (.fn 8 [])) [], none⟩, ⟨(some 12), .un .not (.t 11), none⟩, ⟨(some 13), .mv (.t 12), none⟩, ⟨(some 14), .mv (.t 0), (some (13, false))⟩, ⟨(some 15), .len (.t 14), (some (13, false))⟩, ⟨(some 16), .bin .gtr .no (.t 15) (.c (.int .i64 40)), (some (13, false))⟩, ⟨(some 17), .pick (.t 13) (.c (.bool true)) (.t 16), none⟩, ⟨(some 18), .mv (.t 17), none⟩, ⟨(some 19), .mv (.t 0), (some (18, false))⟩, ⟨(some 20), .len (.t 19), (some (18, false))⟩, ⟨(some 21), .bin .eql .no (.t 20) (.c (.int .i64 0)), (some (18, false))⟩, ⟨(some 22), .pick (.t 18) (.c (.bool true)) (.t 21), none⟩])
 (.cond (.t 22)
   (.seq (.reg [⟨(some 23), .call (.c (.fn 8 [])) [], none⟩, ⟨(some 4), .mv (.t 23), none⟩])
   .ret)
   .skip))
 (.seq (.reg [⟨(some 25), .mv (.t 0), none⟩, ⟨(some 26), .len (.t 25), none⟩, ⟨(some 27), .call (.c (.fn 9 [])) [(.t 26)], none⟩, ⟨(some 24), .mv (.t 27), none⟩, ⟨(some 28), .extract (.t 24) 0, none⟩, ⟨(some 29), .extract (.t 24) 1, none⟩, ⟨(some 5), .mv (.t 28), none⟩, ⟨(some 6), .mv (.t 29), none⟩])
 (.seq (.seq (.reg [⟨(some 30), .mv (.t 5), none⟩, ⟨(some 31), .bin .eql .ptr (.t 30) (.c .nilp), none⟩])
 (.cond (.t 31)
   (.seq (.reg [⟨(some 4), .mv (.c (.bool false)), none⟩])
   .ret)
   .skip))
 (.seq (.seq (.reg [⟨(some 7), .mv (.c (.int .i64 0)), none⟩])
 (.block 0 (.loop (.seq (.seq (.reg [⟨(some 32), .mv (.t 7), none⟩, ⟨(some 33), .mv (.t 0), none⟩, ⟨(some 34), .len (.t 33), none⟩, ⟨(some 35), .bin .lss .no (.t 32) (.t 34), none⟩])
   (.cond (.t 35)
     .skip
     (.exit 0)))
   (.seq (.block 1 (.reg [⟨(some 38), .mv (.t 5), none⟩, ⟨(some 39), .mv (.t 7), none⟩, ⟨(some 40), .bin .add .no (.t 39) (.c (.int .i64 1)), none⟩, ⟨(some 41), .mv (.t 0), none⟩, ⟨(some 42), .mv (.t 7), none⟩, ⟨(some 43), .iaddr 1 (.t 41) (.t 42), none⟩, ⟨(some 44), .load none (.t 43), none⟩, ⟨(some 45), .minmax true [(.t 44), (.c (.int .i64 0))], none⟩, ⟨(some 46), .minmax false [(.t 45), (.c (.int .i64 1125899906842624))], none⟩, ⟨(some 47), .call (.c (.fn 10 [])) [(.t 38), (.t 40), (.t 46)], none⟩]))
   (.reg [⟨(some 36), .mv (.t 7), none⟩, ⟨(some 37), .bin .add .no (.t 36) (.c (.int .i64 1)), none⟩, ⟨(some 7), .mv (.t 37), none⟩]))))))
 (.seq (.reg [⟨(some 48), .mv (.t 1), none⟩, ⟨(some 49), .convI .i64 (.t 48), none⟩, ⟨(some 50), .mv (.t 0), none⟩, ⟨(some 51), .len (.t 50), none⟩, ⟨(some 52), .bin .rem .no (.t 49) (.t 51), none⟩, ⟨(some 53), .bin .add .no (.c (.int .i64 1)) (.t 52), none⟩, ⟨(some 8), .mv (.t 53), none⟩])
 (.seq (.reg [⟨(some 54), .mv (.t 5), none⟩, ⟨(some 55), .mv (.t 8), none⟩, ⟨(some 56), .call (.c (.fn 10 [])) [(.t 54), (.t 55), (.c (.int .i64 36028797018963968))], none⟩])
 (.seq (.reg [⟨(some 58), .mv (.t 5), none⟩, ⟨(some 59), .call (.c (.fn 11 [])) [(.t 58)], none⟩, ⟨(some 57), .mv (.t 59), none⟩, ⟨(some 60), .extract (.t 57) 0, none⟩, ⟨(some 61), .extract (.t 57) 1, none⟩, ⟨(some 9), .mv (.t 60), none⟩, ⟨(some 10), .mv (.t 61), none⟩])
 (.seq (.reg [⟨(some 62), .mv (.t 10), none⟩, ⟨(some 63), .mv (.t 62), none⟩, ⟨(some 64), .mv (.t 9), (some (63, true))⟩, ⟨(some 65), .mv (.t 8), (some (63, true))⟩, ⟨(some 66), .bin .eql .no (.t 64) (.t 65), (some (63, true))⟩, ⟨(some 67), .pick (.t 63) (.t 66) (.c (.bool false)), none⟩, ⟨(some 68), .mv (.t 67), none⟩, ⟨(some 69), .mv (.t 5), (some (68, true))⟩, ⟨(some 70), .mv (.t 8), (some (68, true))⟩, ⟨(some 71), .call (.c (.fn 12 [])) [(.t 69), (.t 70)], (some (68, true))⟩, ⟨(some 72), .un .not (.t 71), (some (68, true))⟩, ⟨(some 73), .pick (.t 68) (.t 72) (.c (.bool false)), none⟩, ⟨(some 74), .mv (.t 73), none⟩, ⟨(some 75), .mv (.t 5), (some (74, true))⟩, ⟨(some 76), .call (.c (.fn 13 [])) [(.t 75)], (some (74, true))⟩, ⟨(some 77), .mv (.t 0), (some (74, true))⟩, ⟨(some 78), .len (.t 77), (some (74, true))⟩, ⟨(some 79), .bin .sub .no (.t 78) (.c (.int .i64 1)), (some (74, true))⟩, ⟨(some 80), .bin .eql .no (.t 76) (.t 79), (some (74, true))⟩, ⟨(some 81), .pick (.t 74) (.t 80) (.c (.bool false)), none⟩, ⟨(some 4), .mv (.t 81), none⟩])
 .ret))))))))), [.tmp 4]⟩
theorem c3 : compF Try.prog Try.f3 = some m3 := by kernel_rfl
/-- weirgate/weirgatelaw02.HeapSorts -/
def m4 : MFunc := ⟨114, (.seq (.reg [⟨(some 2), .mv (.c (.bool false)), none⟩])
 (.seq (.seq (.reg [⟨(some 12), .call (.c (.fn 8 [])) [], none⟩, ⟨(some 13), .un .not (.t 12), none⟩, ⟨(some 14), .mv (.t 13), none⟩, ⟨(some 15), .mv (.t 0), (some (14, false))⟩, ⟨(some 16), .len (.t 15), (some (14, false))⟩, ⟨(some 17), .bin .gtr .no (.t 16) (.c (.int .i64 60)), (some (14, false))⟩, ⟨(some 18), .pick (.t 14) (.c (.bool true)) (.t 17), none⟩])
 (.cond (.t 18)
   (.seq (.reg [⟨(some 19), .call (.c (.fn 8 [])) [], none⟩, ⟨(some 2), .mv (.t 19), none⟩])
   .ret)
   .skip))
 (.seq (.reg [⟨(some 21), .mv (.t 0), none⟩, ⟨(some 22), .len (.t 21), none⟩, ⟨(some 23), .call (.c (.fn 9 [])) [(.t 22)], none⟩, ⟨(some 20), .mv (.t 23), none⟩, ⟨(some 24), .extract (.t 20) 0, none⟩, ⟨(some 25), .extract (.t 20) 1, none⟩, ⟨(some 3), .mv (.t 24), none⟩, ⟨(some 4), .mv (.t 25), none⟩])
 (.seq (.seq (.reg [⟨(some 26), .mv (.t 3), none⟩, ⟨(some 27), .bin .eql .ptr (.t 26) (.c .nilp), none⟩])
 (.cond (.t 27)
   (.seq (.reg [⟨(some 2), .mv (.c (.bool false)), none⟩])
   .ret)
   .skip))
 (.seq (.seq (.reg [⟨(some 5), .mv (.c (.int .i64 0)), none⟩])
 (.block 0 (.loop (.seq (.seq (.reg [⟨(some 28), .mv (.t 5), none⟩, ⟨(some 29), .mv (.t 0), none⟩, ⟨(some 30), .len (.t 29), none⟩, ⟨(some 31), .bin .lss .no (.t 28) (.t 30), none⟩])
   (.cond (.t 31)
     .skip
     (.exit 0)))
   (.seq (.block 1 (.seq (.draw [⟨(some 34), .mv (.t 3), none⟩, ⟨(some 35), .mv (.t 5), none⟩, ⟨(some 36), .bin .add .no (.t 35) (.c (.int .i64 1)), none⟩, ⟨(some 37), .mv (.t 0), none⟩, ⟨(some 38), .mv (.t 5), none⟩, ⟨(some 39), .iaddr 1 (.t 37) (.t 38), none⟩, ⟨(some 40), .load none (.t 39), none⟩, ⟨(some 41), .call (.c (.fn 10 [])) [(.t 34), (.t 36), (.t 40)], none⟩, ⟨(some 42), .mv (.t 0), none⟩, ⟨(some 43), .mv (.t 5), none⟩, ⟨(some 44), .iaddr 1 (.t 42) (.t 43), none⟩, ⟨(some 45), .load none (.t 44), none⟩, ⟨(some 46), .bin .geq .no (.t 45) (.c (.int .i64 0)), none⟩, ⟨(some 47), .bin .neq .bool (.t 41) (.t 46), none⟩] [0, 0, 2, 0, 0, 24, 56, 127, 0, 0, 768, 1792, 3840, 8191])
    (.cond (.t 47)
      (.seq (.reg [⟨(some 2), .mv (.c (.bool false)), none⟩])
      .ret)
      .skip)))
   (.reg [⟨(some 32), .mv (.t 5), none⟩, ⟨(some 33), .bin .add .no (.t 32) (.c (.int .i64 1)), none⟩, ⟨(some 5), .mv (.t 33), none⟩]))))))
 (.seq (.reg [⟨(some 6), .mv (.c (.int .i64 0)), none⟩])
 (.seq (.seq (.reg [⟨(some 7), .mv (.c (.int .i64 0)), none⟩])
 (.block 2 (.loop (.seq (.seq (.reg [⟨(some 48), .mv (.t 7), none⟩, ⟨(some 49), .mv (.t 0), none⟩, ⟨(some 50), .len (.t 49), none⟩, ⟨(some 51), .bin .lss .no (.t 48) (.t 50), none⟩])
   (.cond (.t 51)
     .skip
     (.exit 2)))
   (.seq (.block 3 (.seq (.reg [⟨(some 55), .mv (.t 3), none⟩, ⟨(some 56), .call (.c (.fn 11 [])) [(.t 55)], none⟩, ⟨(some 54), .mv (.t 56), none⟩, ⟨(some 57), .extract (.t 54) 0, none⟩, ⟨(some 58), .extract (.t 54) 1, none⟩, ⟨(some 8), .mv (.t 57), none⟩, ⟨(some 9), .mv (.t 58), none⟩])
    (.seq (.seq (.reg [⟨(some 59), .mv (.t 9), none⟩, ⟨(some 60), .un .not (.t 59), none⟩, ⟨(some 61), .mv (.t 60), none⟩, ⟨(some 62), .mv (.t 8), (some (61, false))⟩, ⟨(some 63), .bin .lss .no (.t 62) (.c (.int .i64 1)), (some (61, false))⟩, ⟨(some 64), .pick (.t 61) (.c (.bool true)) (.t 63), none⟩, ⟨(some 65), .mv (.t 64), none⟩, ⟨(some 66), .mv (.t 8), (some (65, false))⟩, ⟨(some 67), .mv (.t 0), (some (65, false))⟩, ⟨(some 68), .len (.t 67), (some (65, false))⟩, ⟨(some 69), .bin .gtr .no (.t 66) (.t 68), (some (65, false))⟩, ⟨(some 70), .pick (.t 65) (.c (.bool true)) (.t 69), none⟩, ⟨(some 71), .mv (.t 70), none⟩, ⟨(some 72), .mv (.t 3), (some (71, false))⟩, ⟨(some 73), .mv (.t 8), (some (71, false))⟩, ⟨(some 74), .call (.c (.fn 12 [])) [(.t 72), (.t 73)], (some (71, false))⟩, ⟨(some 75), .pick (.t 71) (.c (.bool true)) (.t 74), none⟩])
    (.cond (.t 75)
      (.seq (.reg [⟨(some 2), .mv (.c (.bool false)), none⟩])
      .ret)
      .skip))
    (.seq (.seq (.reg [⟨(some 76), .mv (.t 6), none⟩, ⟨(some 77), .bin .gtr .no (.t 76) (.c (.int .i64 0)), none⟩, ⟨(some 78), .mv (.t 77), none⟩, ⟨(some 79), .mv (.t 3), (some (78, true))⟩, ⟨(some 80), .mv (.t 6), (some (78, true))⟩, ⟨(some 81), .call (.c (.fn 14 [])) [(.t 79), (.t 80)], (some (78, true))⟩, ⟨(some 82), .mv (.t 3), (some (78, true))⟩, ⟨(some 83), .mv (.t 8), (some (78, true))⟩, ⟨(some 84), .call (.c (.fn 14 [])) [(.t 82), (.t 83)], (some (78, true))⟩, ⟨(some 85), .bin .lss .no (.t 81) (.t 84), (some (78, true))⟩, ⟨(some 86), .mv (.t 85), (some (78, true))⟩, ⟨(some 87), .mv (.t 3), (some (86, false))⟩, ⟨(some 88), .mv (.t 6), (some (86, false))⟩, ⟨(some 89), .call (.c (.fn 14 [])) [(.t 87), (.t 88)], (some (86, false))⟩, ⟨(some 90), .mv (.t 3), (some (86, false))⟩, ⟨(some 91), .mv (.t 8), (some (86, false))⟩, ⟨(some 92), .call (.c (.fn 14 [])) [(.t 90), (.t 91)], (some (86, false))⟩, ⟨(some 93), .bin .eql .no (.t 89) (.t 92), (some (86, false))⟩, ⟨(some 94), .mv (.t 93), (some (86, false))⟩, ⟨(some 95), .mv (.t 6), (some (94, true))⟩, ⟨(some 96), .mv (.t 8), (some (94, true))⟩, ⟨(some 97), .bin .gtr .no (.t 95) (.t 96), (some (94, true))⟩, ⟨(some 98), .pick (.t 94) (.t 97) (.c (.bool false)), (some (86, false))⟩, ⟨(some 99), .pick (.t 86) (.c (.bool true)) (.t 98), (some (78, true))⟩, ⟨(some 100), .pick (.t 78) (.t 99) (.c (.bool false)), none⟩])
    (.cond (.t 100)
      (.seq (.reg [⟨(some 2), .mv (.c (.bool false)), none⟩])
      .ret)
      .skip))
    (.reg [⟨(some 101), .mv (.t 8), none⟩, ⟨(some 6), .mv (.t 101), none⟩])))))
   (.reg [⟨(some 52), .mv (.t 7), none⟩, ⟨(some 53), .bin .add .no (.t 52) (.c (.int .i64 1)), none⟩, ⟨(some 7), .mv (.t 53), none⟩]))))))
 (.seq (.reg [⟨(some 103), .mv (.t 3), none⟩, ⟨(some 104), .call (.c (.fn 11 [])) [(.t 103)], none⟩, ⟨(some 102), .mv (.t 104), none⟩, ⟨(some 105), .extract (.t 102) 0, none⟩, ⟨(some 106), .extract (.t 102) 1, none⟩, ⟨(some 10), .mv (.t 105), none⟩, ⟨(some 11), .mv (.t 106), none⟩])
 (.seq (.reg [⟨(some 107), .mv (.t 11), none⟩, ⟨(some 108), .un .not (.t 107), none⟩, ⟨(some 109), .mv (.t 108), none⟩, ⟨(some 110), .mv (.t 3), (some (109, true))⟩, ⟨(some 111), .call (.c (.fn 13 [])) [(.t 110)], (some (109, true))⟩, ⟨(some 112), .bin .eql .no (.t 111) (.c (.int .i64 0)), (some (109, true))⟩, ⟨(some 113), .pick (.t 109) (.t 112) (.c (.bool false)), none⟩, ⟨(some 2), .mv (.t 113), none⟩])
 .ret))))))))), [.tmp 2]⟩
theorem c4 : compF Try.prog Try.f4 = some m4 := by kernel_rfl
/-- weirgate/weirgatelaw02.HeapBack -/
def m5 : MFunc := ⟨123, (.seq (.reg [⟨(some 4), .mv (.c (.bool false)), none⟩])
 (.seq (.seq (.reg [⟨(some 16), .call (.c (.fn 8 [])) [], none⟩, ⟨(some 17), .un .not (.t 16), none⟩, ⟨(some 18), .mv (.t 17), none⟩, ⟨(some 19), .mv (.t 0), (some (18, false))⟩, ⟨(some 20), .len (.t 19), (some (18, false))⟩, ⟨(some 21), .bin .gtr .no (.t 20) (.c (.int .i64 40)), (some (18, false))⟩, ⟨(some 22), .pick (.t 18) (.c (.bool true)) (.t 21), none⟩, ⟨(some 23), .mv (.t 22), none⟩, ⟨(some 24), .mv (.t 0), (some (23, false))⟩, ⟨(some 25), .len (.t 24), (some (23, false))⟩, ⟨(some 26), .bin .eql .no (.t 25) (.c (.int .i64 0)), (some (23, false))⟩, ⟨(some 27), .pick (.t 23) (.c (.bool true)) (.t 26), none⟩])
 (.cond (.t 27)
   (.seq (.reg [⟨(some 28), .call (.c (.fn 8 [])) [], none⟩, ⟨(some 4), .mv (.t 28), none⟩])
   .ret)
   .skip))
 (.seq (.reg [⟨(some 30), .mv (.t 0), none⟩, ⟨(some 31), .len (.t 30), none⟩, ⟨(some 32), .call (.c (.fn 9 [])) [(.t 31)], none⟩, ⟨(some 29), .mv (.t 32), none⟩, ⟨(some 33), .extract (.t 29) 0, none⟩, ⟨(some 34), .extract (.t 29) 1, none⟩, ⟨(some 5), .mv (.t 33), none⟩, ⟨(some 6), .mv (.t 34), none⟩])
 (.seq (.seq (.reg [⟨(some 35), .mv (.t 5), none⟩, ⟨(some 36), .bin .eql .ptr (.t 35) (.c .nilp), none⟩])
 (.cond (.t 36)
   (.seq (.reg [⟨(some 4), .mv (.c (.bool false)), none⟩])
   .ret)
   .skip))
 (.seq (.seq (.reg [⟨(some 7), .mv (.c (.int .i64 0)), none⟩])
 (.block 0 (.loop (.seq (.seq (.reg [⟨(some 37), .mv (.t 7), none⟩, ⟨(some 38), .mv (.t 0), none⟩, ⟨(some 39), .len (.t 38), none⟩, ⟨(some 40), .bin .lss .no (.t 37) (.t 39), none⟩])
   (.cond (.t 40)
     .skip
     (.exit 0)))
   (.seq (.block 1 (.reg [⟨(some 43), .mv (.t 5), none⟩, ⟨(some 44), .mv (.t 7), none⟩, ⟨(some 45), .bin .add .no (.t 44) (.c (.int .i64 1)), none⟩, ⟨(some 46), .mv (.t 0), none⟩, ⟨(some 47), .mv (.t 7), none⟩, ⟨(some 48), .iaddr 1 (.t 46) (.t 47), none⟩, ⟨(some 49), .load none (.t 48), none⟩, ⟨(some 50), .call (.c (.fn 10 [])) [(.t 43), (.t 45), (.t 49)], none⟩]))
   (.reg [⟨(some 41), .mv (.t 7), none⟩, ⟨(some 42), .bin .add .no (.t 41) (.c (.int .i64 1)), none⟩, ⟨(some 7), .mv (.t 42), none⟩]))))))
 (.seq (.reg [⟨(some 8), .mv (.c .nils), none⟩])
 (.seq (.seq (.reg [⟨(some 9), .mv (.c (.int .i64 0)), none⟩])
 (.block 2 (.loop (.seq (.seq (.reg [⟨(some 51), .mv (.t 9), none⟩, ⟨(some 52), .mv (.t 1), none⟩, ⟨(some 53), .convI .i64 (.t 52), none⟩, ⟨(some 54), .mv (.t 0), none⟩, ⟨(some 55), .len (.t 54), none⟩, ⟨(some 56), .bin .rem .no (.t 53) (.t 55), none⟩, ⟨(some 57), .bin .leq .no (.t 51) (.t 56), none⟩])
   (.cond (.t 57)
     .skip
     (.exit 2)))
   (.seq (.block 3 (.seq (.reg [⟨(some 61), .mv (.t 5), none⟩, ⟨(some 62), .call (.c (.fn 11 [])) [(.t 61)], none⟩, ⟨(some 60), .mv (.t 62), none⟩, ⟨(some 63), .extract (.t 60) 0, none⟩, ⟨(some 64), .extract (.t 60) 1, none⟩, ⟨(some 10), .mv (.t 63), none⟩, ⟨(some 11), .mv (.t 64), none⟩])
    (.seq (.seq (.reg [⟨(some 65), .mv (.t 11), none⟩, ⟨(some 66), .un .not (.t 65), none⟩, ⟨(some 67), .mv (.t 66), none⟩, ⟨(some 68), .mv (.t 5), (some (67, false))⟩, ⟨(some 69), .mv (.t 10), (some (67, false))⟩, ⟨(some 70), .call (.c (.fn 12 [])) [(.t 68), (.t 69)], (some (67, false))⟩, ⟨(some 71), .pick (.t 67) (.c (.bool true)) (.t 70), none⟩])
    (.cond (.t 71)
      (.seq (.reg [⟨(some 4), .mv (.c (.bool false)), none⟩])
      .ret)
      .skip))
    (.reg [⟨(some 72), .mv (.t 8), none⟩, ⟨(some 73), .mv (.t 10), none⟩, ⟨(some 74), .bslice 1 1 [(.int .i64 0)] [(0, 1, (.t 73))], none⟩, ⟨(some 75), .append 1 8 (.t 72) (.t 74), none⟩, ⟨(some 8), .mv (.t 75), none⟩]))))
   (.reg [⟨(some 58), .mv (.t 9), none⟩, ⟨(some 59), .bin .add .no (.t 58) (.c (.int .i64 1)), none⟩, ⟨(some 9), .mv (.t 59), none⟩]))))))
 (.seq (.seq (.reg [⟨(some 76), .mv (.t 8), none⟩, ⟨(some 77), .len (.t 76), none⟩, ⟨(some 78), .bin .sub .no (.t 77) (.c (.int .i64 1)), none⟩, ⟨(some 12), .mv (.t 78), none⟩])
 (.block 4 (.loop (.seq (.seq (.reg [⟨(some 79), .mv (.t 12), none⟩, ⟨(some 80), .bin .geq .no (.t 79) (.c (.int .i64 0)), none⟩])
   (.cond (.t 80)
     .skip
     (.exit 4)))
   (.seq (.block 5 (.seq (.reg [⟨(some 83), .mv (.t 5), none⟩, ⟨(some 84), .mv (.t 8), none⟩, ⟨(some 85), .mv (.t 12), none⟩, ⟨(some 86), .iaddr 1 (.t 84) (.t 85), none⟩, ⟨(some 87), .load none (.t 86), none⟩, ⟨(some 88), .call (.c (.fn 15 [])) [(.t 83), (.t 87)], none⟩, ⟨(some 89), .un .not (.t 88), none⟩, ⟨(some 90), .mv (.t 89), none⟩, ⟨(some 91), .mv (.t 5), (some (90, false))⟩, ⟨(some 92), .mv (.t 8), (some (90, false))⟩, ⟨(some 93), .mv (.t 12), (some (90, false))⟩, ⟨(some 94), .iaddr 1 (.t 92) (.t 93), (some (90, false))⟩, ⟨(some 95), .load none (.t 94), (some (90, false))⟩, ⟨(some 96), .call (.c (.fn 15 [])) [(.t 91), (.t 95)], (some (90, false))⟩, ⟨(some 97), .pick (.t 90) (.c (.bool true)) (.t 96), none⟩])
    (.cond (.t 97)
      (.seq (.reg [⟨(some 4), .mv (.c (.bool false)), none⟩])
      .ret)
      .skip)))
   (.reg [⟨(some 81), .mv (.t 12), none⟩, ⟨(some 82), .bin .sub .no (.t 81) (.c (.int .i64 1)), none⟩, ⟨(some 12), .mv (.t 82), none⟩]))))))
 (.seq (.seq (.reg [⟨(some 13), .mv (.c (.int .i64 0)), none⟩])
 (.block 6 (.loop (.seq (.seq (.reg [⟨(some 98), .mv (.t 13), none⟩, ⟨(some 99), .mv (.t 8), none⟩, ⟨(some 100), .len (.t 99), none⟩, ⟨(some 101), .bin .lss .no (.t 98) (.t 100), none⟩])
   (.cond (.t 101)
     .skip
     (.exit 6)))
   (.seq (.block 7 (.seq (.reg [⟨(some 105), .mv (.t 5), none⟩, ⟨(some 106), .call (.c (.fn 11 [])) [(.t 105)], none⟩, ⟨(some 104), .mv (.t 106), none⟩, ⟨(some 107), .extract (.t 104) 0, none⟩, ⟨(some 108), .extract (.t 104) 1, none⟩, ⟨(some 14), .mv (.t 107), none⟩, ⟨(some 15), .mv (.t 108), none⟩])
    (.seq (.reg [⟨(some 109), .mv (.t 14), none⟩, ⟨(some 110), .mv (.t 8), none⟩, ⟨(some 111), .mv (.t 13), none⟩, ⟨(some 112), .iaddr 1 (.t 110) (.t 111), none⟩, ⟨(some 113), .load none (.t 112), none⟩, ⟨(some 114), .bin .neq .no (.t 109) (.t 113), none⟩])
    (.cond (.t 114)
      (.seq (.reg [⟨(some 4), .mv (.c (.bool false)), none⟩])
      .ret)
      .skip))))
   (.reg [⟨(some 102), .mv (.t 13), none⟩, ⟨(some 103), .bin .add .no (.t 102) (.c (.int .i64 1)), none⟩, ⟨(some 13), .mv (.t 103), none⟩]))))))
 (.seq (.reg [⟨(some 115), .mv (.t 5), none⟩, ⟨(some 116), .call (.c (.fn 13 [])) [(.t 115)], none⟩, ⟨(some 117), .mv (.t 0), none⟩, ⟨(some 118), .len (.t 117), none⟩, ⟨(some 119), .mv (.t 8), none⟩, ⟨(some 120), .len (.t 119), none⟩, ⟨(some 121), .bin .sub .no (.t 118) (.t 120), none⟩, ⟨(some 122), .bin .eql .no (.t 116) (.t 121), none⟩, ⟨(some 4), .mv (.t 122), none⟩])
 .ret)))))))))), [.tmp 4]⟩
theorem c5 : compF Try.prog Try.f5 = some m5 := by kernel_rfl
/-- weirgate/weirgatelaw02.HeapHalves -/
def m6 : MFunc := ⟨83, (.seq (.reg [⟨(some 4), .mv (.c (.bool false)), none⟩])
 (.seq (.seq (.reg [⟨(some 12), .call (.c (.fn 8 [])) [], none⟩, ⟨(some 13), .un .not (.t 12), none⟩, ⟨(some 14), .mv (.t 13), none⟩, ⟨(some 15), .mv (.t 0), (some (14, false))⟩, ⟨(some 16), .len (.t 15), (some (14, false))⟩, ⟨(some 17), .bin .gtr .no (.t 16) (.c (.int .i64 40)), (some (14, false))⟩, ⟨(some 18), .pick (.t 14) (.c (.bool true)) (.t 17), none⟩])
 (.cond (.t 18)
   (.seq (.reg [⟨(some 19), .call (.c (.fn 8 [])) [], none⟩, ⟨(some 4), .mv (.t 19), none⟩])
   .ret)
   .skip))
 (.seq (.reg [⟨(some 21), .mv (.t 0), none⟩, ⟨(some 22), .len (.t 21), none⟩, ⟨(some 23), .call (.c (.fn 9 [])) [(.t 22)], none⟩, ⟨(some 20), .mv (.t 23), none⟩, ⟨(some 24), .extract (.t 20) 0, none⟩, ⟨(some 25), .extract (.t 20) 1, none⟩, ⟨(some 5), .mv (.t 24), none⟩, ⟨(some 6), .mv (.t 25), none⟩])
 (.seq (.seq (.reg [⟨(some 26), .mv (.t 5), none⟩, ⟨(some 27), .bin .eql .ptr (.t 26) (.c .nilp), none⟩])
 (.cond (.t 27)
   (.seq (.reg [⟨(some 4), .mv (.c (.bool false)), none⟩])
   .ret)
   .skip))
 (.seq (.seq (.reg [⟨(some 7), .mv (.c (.int .i64 0)), none⟩])
 (.block 0 (.loop (.seq (.seq (.reg [⟨(some 28), .mv (.t 7), none⟩, ⟨(some 29), .mv (.t 0), none⟩, ⟨(some 30), .len (.t 29), none⟩, ⟨(some 31), .bin .lss .no (.t 28) (.t 30), none⟩])
   (.cond (.t 31)
     .skip
     (.exit 0)))
   (.seq (.block 1 (.reg [⟨(some 34), .mv (.t 5), none⟩, ⟨(some 35), .mv (.t 7), none⟩, ⟨(some 36), .bin .add .no (.t 35) (.c (.int .i64 1)), none⟩, ⟨(some 37), .mv (.t 0), none⟩, ⟨(some 38), .mv (.t 7), none⟩, ⟨(some 39), .iaddr 1 (.t 37) (.t 38), none⟩, ⟨(some 40), .load none (.t 39), none⟩, ⟨(some 41), .call (.c (.fn 10 [])) [(.t 34), (.t 36), (.t 40)], none⟩]))
   (.reg [⟨(some 32), .mv (.t 7), none⟩, ⟨(some 33), .bin .add .no (.t 32) (.c (.int .i64 1)), none⟩, ⟨(some 7), .mv (.t 33), none⟩]))))))
 (.seq (.seq (.reg [⟨(some 8), .mv (.c (.int .i64 0)), none⟩])
 (.block 2 (.loop (.seq (.seq (.reg [⟨(some 42), .mv (.t 8), none⟩, ⟨(some 43), .mv (.t 1), none⟩, ⟨(some 44), .convI .i64 (.t 43), none⟩, ⟨(some 45), .bin .rem .no (.t 44) (.c (.int .i64 70)), none⟩, ⟨(some 46), .bin .lss .no (.t 42) (.t 45), none⟩])
   (.cond (.t 46)
     .skip
     (.exit 2)))
   (.seq (.block 3 (.reg [⟨(some 49), .mv (.t 5), none⟩, ⟨(some 50), .call (.c (.fn 16 [])) [(.t 49)], none⟩]))
   (.reg [⟨(some 47), .mv (.t 8), none⟩, ⟨(some 48), .bin .add .no (.t 47) (.c (.int .i64 1)), none⟩, ⟨(some 8), .mv (.t 48), none⟩]))))))
 (.seq (.seq (.reg [⟨(some 9), .mv (.c (.int .i64 0)), none⟩])
 (.block 4 (.loop (.seq (.seq (.reg [⟨(some 51), .mv (.t 9), none⟩, ⟨(some 52), .mv (.t 0), none⟩, ⟨(some 53), .len (.t 52), none⟩, ⟨(some 54), .bin .lss .no (.t 51) (.t 53), none⟩])
   (.cond (.t 54)
     .skip
     (.exit 4)))
   (.seq (.block 5 (.seq (.reg [⟨(some 57), .mv (.t 0), none⟩, ⟨(some 58), .mv (.t 9), none⟩, ⟨(some 59), .iaddr 1 (.t 57) (.t 58), none⟩, ⟨(some 60), .load none (.t 59), none⟩, ⟨(some 61), .minmax true [(.t 60), (.c (.int .i64 0))], none⟩, ⟨(some 62), .minmax false [(.t 61), (.c (.int .i64 1152921504606846976))], none⟩, ⟨(some 10), .mv (.t 62), none⟩])
    (.seq (.seq (.reg [⟨(some 11), .mv (.c (.int .i64 0)), none⟩])
    (.block 6 (.loop (.seq (.seq (.reg [⟨(some 63), .mv (.t 11), none⟩, ⟨(some 64), .mv (.t 1), none⟩, ⟨(some 65), .convI .i64 (.t 64), none⟩, ⟨(some 66), .bin .rem .no (.t 65) (.c (.int .i64 70)), none⟩, ⟨(some 67), .bin .lss .no (.t 63) (.t 66), none⟩])
      (.cond (.t 67)
        .skip
        (.exit 6)))
      (.seq (.block 7 (.reg [⟨(some 70), .mv (.t 10), none⟩, ⟨(some 71), .bin .quo .no (.t 70) (.c (.int .i64 2)), none⟩, ⟨(some 10), .mv (.t 71), none⟩]))
      (.reg [⟨(some 68), .mv (.t 11), none⟩, ⟨(some 69), .bin .add .no (.t 68) (.c (.int .i64 1)), none⟩, ⟨(some 11), .mv (.t 69), none⟩]))))))
    (.seq (.reg [⟨(some 72), .mv (.t 5), none⟩, ⟨(some 73), .mv (.t 9), none⟩, ⟨(some 74), .bin .add .no (.t 73) (.c (.int .i64 1)), none⟩, ⟨(some 75), .call (.c (.fn 14 [])) [(.t 72), (.t 74)], none⟩, ⟨(some 76), .mv (.t 10), none⟩, ⟨(some 77), .bin .neq .no (.t 75) (.t 76), none⟩])
    (.cond (.t 77)
      (.seq (.reg [⟨(some 4), .mv (.c (.bool false)), none⟩])
      .ret)
      .skip)))))
   (.reg [⟨(some 55), .mv (.t 9), none⟩, ⟨(some 56), .bin .add .no (.t 55) (.c (.int .i64 1)), none⟩, ⟨(some 9), .mv (.t 56), none⟩]))))))
 (.seq (.reg [⟨(some 78), .mv (.t 5), none⟩, ⟨(some 79), .call (.c (.fn 13 [])) [(.t 78)], none⟩, ⟨(some 80), .mv (.t 0), none⟩, ⟨(some 81), .len (.t 80), none⟩, ⟨(some 82), .bin .eql .no (.t 79) (.t 81), none⟩, ⟨(some 4), .mv (.t 82), none⟩])
 .ret)))))))), [.tmp 4]⟩
theorem c6 : compF Try.prog Try.f6 = some m6 := by kernel_rfl
/-- weirgate/weirgatelaw02.HeapActs -/
def m7 : MFunc := ⟨169, (.seq (.reg [⟨(some 4), .mv (.c (.bool false)), none⟩])
 (.seq (.seq (.reg [⟨(some 17), .call (.c (.fn 8 [])) [], none⟩, ⟨(some 18), .un .not (.t 17), none⟩, ⟨(some 19), .mv (.t 18), none⟩, ⟨(some 20), .mv (.t 1), (some (19, false))⟩, ⟨(some 21), .len (.t 20), (some (19, false))⟩, ⟨(some 22), .bin .gtr .no (.t 21) (.c (.int .i64 80)), (some (19, false))⟩, ⟨(some 23), .pick (.t 19) (.c (.bool true)) (.t 22), none⟩, ⟨(some 24), .mv (.t 23), none⟩, ⟨(some 25), .mv (.t 0), (some (24, false))⟩, ⟨(some 26), .bin .gtr .no (.t 25) (.c (.int .i64 60)), (some (24, false))⟩, ⟨(some 27), .mv (.t 26), (some (24, false))⟩, ⟨(some 28), .mv (.t 0), (some (27, true))⟩, ⟨(some 29), .bin .leq .no (.t 28) (.c (.int .i64 100000)), (some (27, true))⟩, ⟨(some 30), .pick (.t 27) (.t 29) (.c (.bool false)), (some (24, false))⟩, ⟨(some 31), .pick (.t 24) (.c (.bool true)) (.t 30), none⟩])
 (.cond (.t 31)
   (.seq (.reg [⟨(some 32), .call (.c (.fn 8 [])) [], none⟩, ⟨(some 4), .mv (.t 32), none⟩])
   .ret)
   .skip))
 (.seq (.reg [⟨(some 34), .mv (.t 0), none⟩, ⟨(some 35), .call (.c (.fn 9 [])) [(.t 34)], none⟩, ⟨(some 33), .mv (.t 35), none⟩, ⟨(some 36), .extract (.t 33) 0, none⟩, ⟨(some 37), .extract (.t 33) 1, none⟩, ⟨(some 5), .mv (.t 36), none⟩, ⟨(some 6), .mv (.t 37), none⟩])
 (.seq (.seq (.reg [⟨(some 38), .mv (.t 0), none⟩, ⟨(some 39), .bin .lss .no (.t 38) (.c (.int .i64 0)), none⟩, ⟨(some 40), .mv (.t 39), none⟩, ⟨(some 41), .mv (.t 0), (some (40, false))⟩, ⟨(some 42), .bin .gtr .no (.t 41) (.c (.int .i64 100000)), (some (40, false))⟩, ⟨(some 43), .pick (.t 40) (.c (.bool true)) (.t 42), none⟩])
 (.cond (.t 43)
   (.seq (.reg [⟨(some 44), .mv (.t 5), none⟩, ⟨(some 45), .bin .eql .ptr (.t 44) (.c .nilp), none⟩, ⟨(some 46), .mv (.t 45), none⟩, ⟨(some 47), .mv (.t 6), (some (46, true))⟩, ⟨(some 48), .bin .eql .no (.t 47) (.c (.int .i64 2)), (some (46, true))⟩, ⟨(some 49), .pick (.t 46) (.t 48) (.c (.bool false)), none⟩, ⟨(some 4), .mv (.t 49), none⟩])
   .ret)
   .skip))
 (.seq (.seq (.reg [⟨(some 50), .mv (.t 5), none⟩, ⟨(some 51), .bin .eql .ptr (.t 50) (.c .nilp), none⟩, ⟨(some 52), .mv (.t 51), none⟩, ⟨(some 53), .mv (.t 6), (some (52, false))⟩, ⟨(some 54), .bin .neq .no (.t 53) (.c (.int .i64 0)), (some (52, false))⟩, ⟨(some 55), .pick (.t 52) (.c (.bool true)) (.t 54), none⟩])
 (.cond (.t 55)
   (.seq (.reg [⟨(some 4), .mv (.c (.bool false)), none⟩])
   .ret)
   .skip))
 (.seq (.reg [⟨(some 56), .mv (.t 0), none⟩, ⟨(some 57), .call (.c (.fn 17 [])) [(.t 56)], none⟩, ⟨(some 7), .mv (.t 57), none⟩])
 (.seq (.seq (.reg [⟨(some 8), .mv (.c (.int .i64 0)), none⟩])
 (.block 0 (.loop (.seq (.seq (.reg [⟨(some 58), .mv (.t 8), none⟩, ⟨(some 59), .mv (.t 1), none⟩, ⟨(some 60), .len (.t 59), none⟩, ⟨(some 61), .bin .lss .no (.t 58) (.t 60), none⟩])
   (.cond (.t 61)
     .skip
     (.exit 0)))
   (.seq (.block 1 (.seq (.reg [⟨(some 64), .mv (.t 1), none⟩, ⟨(some 65), .mv (.t 8), none⟩, ⟨(some 66), .iaddr 3 (.t 64) (.t 65), none⟩, ⟨(some 67), .load (some 3) (.t 66), none⟩, ⟨(some 9), .alloc [(.int .i64 0), (.int .i64 0), (.int .i64 0)], none⟩, ⟨none, .store 3 (.t 9) (.t 67), none⟩])
    (.seq (.reg [⟨(some 10), .mv (.c (.bool true)), none⟩])
    (.seq (.seq (.reg [⟨(some 68), .faddr 0 (.t 9), none⟩, ⟨(some 69), .load none (.t 68), none⟩])
    (.block 2 (.seq (.reg [⟨(some 71), .bin .eql .no (.t 69) (.c (.int .i64 0)), none⟩, ⟨(some 70), .mv (.t 71), none⟩])
     (.cond (.t 70)
       (.draw [⟨(some 72), .mv (.t 5), none⟩, ⟨(some 73), .faddr 1 (.t 9), none⟩, ⟨(some 74), .load none (.t 73), none⟩, ⟨(some 75), .call (.c (.fn 15 [])) [(.t 72), (.t 74)], none⟩, ⟨(some 76), .mv (.t 7), none⟩, ⟨(some 77), .faddr 1 (.t 9), none⟩, ⟨(some 78), .load none (.t 77), none⟩, ⟨(some 79), .call (.c (.fn 18 [])) [(.t 76), (.t 78)], none⟩, ⟨(some 80), .bin .eql .bool (.t 75) (.t 79), none⟩, ⟨(some 10), .mv (.t 80), none⟩] [0, 0, 2, 7, 0, 0, 32, 127, 255, 511])
       (.seq (.reg [⟨(some 82), .bin .eql .no (.t 69) (.c (.int .i64 1)), none⟩, ⟨(some 81), .mv (.t 82), none⟩])
       (.cond (.t 81)
         (.seq (.reg [⟨(some 84), .mv (.t 5), none⟩, ⟨(some 85), .call (.c (.fn 11 [])) [(.t 84)], none⟩, ⟨(some 83), .mv (.t 85), none⟩, ⟨(some 86), .extract (.t 83) 0, none⟩, ⟨(some 87), .extract (.t 83) 1, none⟩, ⟨(some 11), .mv (.t 86), none⟩, ⟨(some 12), .mv (.t 87), none⟩])
         (.seq (.reg [⟨(some 89), .mv (.t 7), none⟩, ⟨(some 90), .call (.c (.fn 19 [])) [(.t 89)], none⟩, ⟨(some 88), .mv (.t 90), none⟩, ⟨(some 91), .extract (.t 88) 0, none⟩, ⟨(some 92), .extract (.t 88) 1, none⟩, ⟨(some 13), .mv (.t 91), none⟩, ⟨(some 14), .mv (.t 92), none⟩])
         (.reg [⟨(some 93), .mv (.t 11), none⟩, ⟨(some 94), .mv (.t 13), none⟩, ⟨(some 95), .bin .eql .no (.t 93) (.t 94), none⟩, ⟨(some 96), .mv (.t 95), none⟩, ⟨(some 97), .mv (.t 12), (some (96, true))⟩, ⟨(some 98), .mv (.t 14), (some (96, true))⟩, ⟨(some 99), .bin .eql .bool (.t 97) (.t 98), (some (96, true))⟩, ⟨(some 100), .pick (.t 96) (.t 99) (.c (.bool false)), none⟩, ⟨(some 10), .mv (.t 100), none⟩])))
         (.seq (.reg [⟨(some 102), .bin .eql .no (.t 69) (.c (.int .i64 2)), none⟩, ⟨(some 101), .mv (.t 102), none⟩])
         (.cond (.t 101)
           (.draw [⟨(some 103), .mv (.t 5), none⟩, ⟨(some 104), .faddr 1 (.t 9), none⟩, ⟨(some 105), .load none (.t 104), none⟩, ⟨(some 106), .faddr 2 (.t 9), none⟩, ⟨(some 107), .load none (.t 106), none⟩, ⟨(some 108), .call (.c (.fn 10 [])) [(.t 103), (.t 105), (.t 107)], none⟩, ⟨(some 109), .mv (.t 7), none⟩, ⟨(some 110), .faddr 1 (.t 9), none⟩, ⟨(some 111), .load none (.t 110), none⟩, ⟨(some 112), .faddr 2 (.t 9), none⟩, ⟨(some 113), .load none (.t 112), none⟩, ⟨(some 114), .call (.c (.fn 20 [])) [(.t 109), (.t 111), (.t 113)], none⟩, ⟨(some 115), .bin .eql .bool (.t 108) (.t 114), none⟩, ⟨(some 10), .mv (.t 115), none⟩] [0, 0, 2, 0, 8, 31, 0, 0, 128, 0, 512, 2047, 4095, 8191])
           (.seq (.reg [⟨(some 117), .bin .eql .no (.t 69) (.c (.int .i64 3)), none⟩, ⟨(some 116), .mv (.t 117), none⟩])
           (.cond (.t 116)
             (.seq (.reg [⟨(some 118), .mv (.t 5), none⟩, ⟨(some 119), .call (.c (.fn 16 [])) [(.t 118)], none⟩])
             (.reg [⟨(some 120), .mv (.t 7), none⟩, ⟨(some 121), .call (.c (.fn 21 [])) [(.t 120)], none⟩]))
             .skip))))))))))
    (.seq (.seq (.reg [⟨(some 122), .mv (.t 10), none⟩, ⟨(some 123), .un .not (.t 122), none⟩, ⟨(some 124), .mv (.t 123), none⟩, ⟨(some 125), .mv (.t 5), (some (124, false))⟩, ⟨(some 126), .call (.c (.fn 13 [])) [(.t 125)], (some (124, false))⟩, ⟨(some 127), .mv (.t 7), (some (124, false))⟩, ⟨(some 128), .call (.c (.fn 22 [])) [(.t 127)], (some (124, false))⟩, ⟨(some 129), .bin .neq .no (.t 126) (.t 128), (some (124, false))⟩, ⟨(some 130), .pick (.t 124) (.c (.bool true)) (.t 129), none⟩])
    (.cond (.t 130)
      (.seq (.reg [⟨(some 4), .mv (.c (.bool false)), none⟩])
      .ret)
      .skip))
    (.seq (.reg [⟨(some 15), .mv (.c (.int .i64 0)), none⟩])
    (.block 3 (.loop (.seq (.seq (.reg [⟨(some 131), .mv (.t 15), none⟩, ⟨(some 132), .mv (.t 0), none⟩, ⟨(some 133), .bin .add .no (.t 132) (.c (.int .i64 1)), none⟩, ⟨(some 134), .bin .leq .no (.t 131) (.t 133), none⟩])
      (.cond (.t 134)
        .skip
        (.exit 3)))
      (.seq (.block 4 (.seq (.reg [⟨(some 137), .mv (.t 15), none⟩, ⟨(some 138), .bin .geq .no (.t 137) (.c (.int .i64 1)), none⟩, ⟨(some 139), .mv (.t 138), none⟩, ⟨(some 140), .mv (.t 15), (some (139, true))⟩, ⟨(some 141), .mv (.t 0), (some (139, true))⟩, ⟨(some 142), .bin .leq .no (.t 140) (.t 141), (some (139, true))⟩, ⟨(some 143), .pick (.t 139) (.t 142) (.c (.bool false)), none⟩, ⟨(some 16), .mv (.t 143), none⟩])
       (.seq (.reg [⟨(some 144), .mv (.t 5), none⟩, ⟨(some 145), .mv (.t 15), none⟩, ⟨(some 146), .call (.c (.fn 12 [])) [(.t 144), (.t 145)], none⟩, ⟨(some 147), .mv (.t 16), none⟩, ⟨(some 148), .mv (.t 147), none⟩, ⟨(some 149), .mv (.t 7), (some (148, true))⟩, ⟨(some 150), .nilc (.t 149), (some (148, true))⟩, ⟨(some 151), .faddr 0 (.t 150), (some (148, true))⟩, ⟨(some 152), .load none (.t 151), (some (148, true))⟩, ⟨(some 153), .mv (.t 15), (some (148, true))⟩, ⟨(some 154), .minmax true [(.t 153), (.c (.int .i64 1))], (some (148, true))⟩, ⟨(some 155), .bin .sub .no (.t 154) (.c (.int .i64 1)), (some (148, true))⟩, ⟨(some 156), .iaddr 1 (.t 152) (.t 155), (some (148, true))⟩, ⟨(some 157), .load none (.t 156), (some (148, true))⟩, ⟨(some 158), .pick (.t 148) (.t 157) (.c (.bool false)), none⟩, ⟨(some 159), .bin .neq .bool (.t 146) (.t 158), none⟩, ⟨(some 160), .mv (.t 159), none⟩, ⟨(some 161), .mv (.t 5), (some (160, false))⟩, ⟨(some 162), .mv (.t 15), (some (160, false))⟩, ⟨(some 163), .call (.c (.fn 14 [])) [(.t 161), (.t 162)], (some (160, false))⟩, ⟨(some 164), .mv (.t 7), (some (160, false))⟩, ⟨(some 165), .mv (.t 15), (some (160, false))⟩, ⟨(some 166), .call (.c (.fn 23 [])) [(.t 164), (.t 165)], (some (160, false))⟩, ⟨(some 167), .bin .neq .no (.t 163) (.t 166), (some (160, false))⟩, ⟨(some 168), .pick (.t 160) (.c (.bool true)) (.t 167), none⟩])
       (.cond (.t 168)
         (.seq (.reg [⟨(some 4), .mv (.c (.bool false)), none⟩])
         .ret)
         .skip))))
      (.reg [⟨(some 135), .mv (.t 15), none⟩, ⟨(some 136), .bin .add .no (.t 135) (.c (.int .i64 1)), none⟩, ⟨(some 15), .mv (.t 136), none⟩])))))))))))
   (.reg [⟨(some 62), .mv (.t 8), none⟩, ⟨(some 63), .bin .add .no (.t 62) (.c (.int .i64 1)), none⟩, ⟨(some 8), .mv (.t 63), none⟩]))))))
 (.seq (.reg [⟨(some 4), .mv (.c (.bool true)), none⟩])
 .ret)))))))), [.tmp 4]⟩
theorem c7 : compF Try.prog Try.f7 = some m7 := by kernel_rfl
/-- weirgate/weirgatelaw02.awake -/
def m8 : MFunc := ⟨54, (.seq (.reg [⟨(some 0), .mv (.c (.bool false)), none⟩])
 (.seq (.reg [⟨(some 10), .call (.c (.fn 9 [])) [(.c (.int .i64 3))], none⟩, ⟨(some 9), .mv (.t 10), none⟩, ⟨(some 11), .extract (.t 9) 0, none⟩, ⟨(some 12), .extract (.t 9) 1, none⟩, ⟨(some 1), .mv (.t 11), none⟩, ⟨(some 2), .mv (.t 12), none⟩])
 (.seq (.seq (.reg [⟨(some 13), .mv (.t 1), none⟩, ⟨(some 14), .bin .eql .ptr (.t 13) (.c .nilp), none⟩, ⟨(some 15), .mv (.t 14), none⟩, ⟨(some 16), .mv (.t 2), (some (15, false))⟩, ⟨(some 17), .bin .neq .no (.t 16) (.c (.int .i64 0)), (some (15, false))⟩, ⟨(some 18), .pick (.t 15) (.c (.bool true)) (.t 17), none⟩, ⟨(some 19), .mv (.t 18), none⟩, ⟨(some 20), .mv (.t 1), (some (19, false))⟩, ⟨(some 21), .call (.c (.fn 10 [])) [(.t 20), (.c (.int .i64 2)), (.c (.int .i64 5))], (some (19, false))⟩, ⟨(some 22), .un .not (.t 21), (some (19, false))⟩, ⟨(some 23), .pick (.t 19) (.c (.bool true)) (.t 22), none⟩])
 (.cond (.t 23)
   (.seq (.reg [⟨(some 0), .mv (.c (.bool false)), none⟩])
   .ret)
   .skip))
 (.seq (.reg [⟨(some 25), .mv (.t 1), none⟩, ⟨(some 26), .call (.c (.fn 11 [])) [(.t 25)], none⟩, ⟨(some 24), .mv (.t 26), none⟩, ⟨(some 27), .extract (.t 24) 0, none⟩, ⟨(some 28), .extract (.t 24) 1, none⟩, ⟨(some 3), .mv (.t 27), none⟩, ⟨(some 4), .mv (.t 28), none⟩])
 (.seq (.reg [⟨(some 30), .mv (.t 1), none⟩, ⟨(some 31), .call (.c (.fn 11 [])) [(.t 30)], none⟩, ⟨(some 29), .mv (.t 31), none⟩, ⟨(some 32), .extract (.t 29) 0, none⟩, ⟨(some 33), .extract (.t 29) 1, none⟩, ⟨(some 5), .mv (.t 32), none⟩, ⟨(some 6), .mv (.t 33), none⟩])
 (.seq (.reg [⟨(some 35), .mv (.t 1), none⟩, ⟨(some 36), .call (.c (.fn 11 [])) [(.t 35)], none⟩, ⟨(some 34), .mv (.t 36), none⟩, ⟨(some 37), .extract (.t 34) 0, none⟩, ⟨(some 38), .extract (.t 34) 1, none⟩, ⟨(some 7), .mv (.t 37), none⟩, ⟨(some 8), .mv (.t 38), none⟩])
 (.seq (.reg [⟨(some 39), .mv (.t 3), none⟩, ⟨(some 40), .bin .eql .no (.t 39) (.c (.int .i64 2)), none⟩, ⟨(some 41), .mv (.t 40), none⟩, ⟨(some 42), .mv (.t 5), (some (41, true))⟩, ⟨(some 43), .bin .eql .no (.t 42) (.c (.int .i64 1)), (some (41, true))⟩, ⟨(some 44), .pick (.t 41) (.t 43) (.c (.bool false)), none⟩, ⟨(some 45), .mv (.t 44), none⟩, ⟨(some 46), .mv (.t 7), (some (45, true))⟩, ⟨(some 47), .bin .eql .no (.t 46) (.c (.int .i64 3)), (some (45, true))⟩, ⟨(some 48), .pick (.t 45) (.t 47) (.c (.bool false)), none⟩, ⟨(some 49), .mv (.t 48), none⟩, ⟨(some 50), .mv (.t 1), (some (49, true))⟩, ⟨(some 51), .call (.c (.fn 13 [])) [(.t 50)], (some (49, true))⟩, ⟨(some 52), .bin .eql .no (.t 51) (.c (.int .i64 0)), (some (49, true))⟩, ⟨(some 53), .pick (.t 49) (.t 52) (.c (.bool false)), none⟩, ⟨(some 0), .mv (.t 53), none⟩])
 .ret))))))), [.tmp 0]⟩
theorem c8 : compF Try.prog Try.f8 = some m8 := by kernel_rfl
/-- weirgate/heap.New -/
def m9 : MFunc := ⟨47, (.seq (.reg [⟨(some 2), .mv (.c .nilp), none⟩, ⟨(some 3), .mv (.c (.int .i64 0)), none⟩])
 (.seq (.seq (.reg [⟨(some 6), .mv (.t 0), none⟩, ⟨(some 7), .bin .lss .no (.t 6) (.c (.int .i64 0)), none⟩, ⟨(some 8), .mv (.t 7), none⟩, ⟨(some 9), .mv (.t 0), (some (8, false))⟩, ⟨(some 10), .bin .gtr .no (.t 9) (.c (.int .i64 100000)), (some (8, false))⟩, ⟨(some 11), .pick (.t 8) (.c (.bool true)) (.t 10), none⟩])
 (.cond (.t 11)
   (.seq (.reg [⟨(some 2), .mv (.c .nilp), none⟩, ⟨(some 3), .mv (.c (.int .i64 2)), none⟩])
   .ret)
   .skip))
 (.seq (.draw [⟨(some 12), .mv (.t 0), none⟩, ⟨(some 13), .bin .add .no (.t 12) (.c (.int .i64 1)), none⟩, ⟨(some 14), .mkslice 1 8 [(.int .i64 0)] (.t 13) (.t 13), none⟩, ⟨(some 15), .mv (.t 0), none⟩, ⟨(some 16), .bin .add .no (.t 15) (.c (.int .i64 1)), none⟩, ⟨(some 17), .mkslice 1 8 [(.int .i64 0)] (.t 16) (.t 16), none⟩, ⟨(some 18), .build [.nils, .nils, .nils] [(1, 1, (.t 14)), (2, 1, (.t 17))], none⟩, ⟨(some 19), .box 3 (.t 18), none⟩, ⟨(some 4), .mv (.t 19), none⟩] [0, 1, 3, 0, 8, 24, 63, 127, 255])
 (.seq (.seq (.reg [⟨(some 5), .mv (.c (.int .i64 1)), none⟩])
 (.block 0 (.loop (.seq (.seq (.reg [⟨(some 20), .mv (.t 5), none⟩, ⟨(some 21), .mv (.t 0), none⟩, ⟨(some 22), .bin .leq .no (.t 20) (.t 21), none⟩])
   (.cond (.t 22)
     .skip
     (.exit 0)))
   (.seq (.block 1 (.seq (.draw [⟨(some 25), .mv (.t 4), none⟩, ⟨(some 26), .nilc (.t 25), none⟩, ⟨(some 27), .faddr 1 (.t 26), none⟩, ⟨(some 28), .load none (.t 27), none⟩, ⟨(some 29), .mv (.t 5), none⟩, ⟨(some 30), .mv (.t 4), none⟩, ⟨(some 31), .nilc (.t 30), none⟩, ⟨(some 32), .faddr 0 (.t 31), none⟩, ⟨(some 33), .load none (.t 32), none⟩, ⟨(some 34), .len (.t 33), none⟩, ⟨(some 35), .iaddr 1 (.t 28) (.t 29), none⟩, ⟨none, .store 1 (.t 35) (.t 34), none⟩] [0, 1, 3, 7, 0, 0, 32, 96, 224, 480, 1023, 2047])
    (.reg [⟨(some 36), .mv (.t 4), none⟩, ⟨(some 37), .mv (.t 4), none⟩, ⟨(some 38), .nilc (.t 37), none⟩, ⟨(some 39), .faddr 0 (.t 38), none⟩, ⟨(some 40), .load none (.t 39), none⟩, ⟨(some 41), .mv (.t 5), none⟩, ⟨(some 42), .bslice 1 1 [(.int .i64 0)] [(0, 1, (.t 41))], none⟩, ⟨(some 43), .append 1 8 (.t 40) (.t 42), none⟩, ⟨(some 44), .nilc (.t 36), none⟩, ⟨(some 45), .faddr 0 (.t 44), none⟩, ⟨none, .store 1 (.t 45) (.t 43), none⟩])))
   (.reg [⟨(some 23), .mv (.t 5), none⟩, ⟨(some 24), .bin .add .no (.t 23) (.c (.int .i64 1)), none⟩, ⟨(some 5), .mv (.t 24), none⟩]))))))
 (.seq (.reg [⟨(some 46), .mv (.t 4), none⟩, ⟨(some 2), .mv (.t 46), none⟩, ⟨(some 3), .mv (.c (.int .i64 0)), none⟩])
 .ret))))), [.tmp 2, .tmp 3]⟩
theorem c9 : compF Try.prog Try.f9 = some m9 := by kernel_rfl
/-- (*weirgate/heap.Heap).Bump -/
def m10 : MFunc := ⟨51, (.seq (.reg [⟨(some 6), .mv (.c (.bool false)), none⟩])
 (.seq (.seq (.reg [⟨(some 7), .mv (.t 0), none⟩, ⟨(some 8), .mv (.t 1), none⟩, ⟨(some 9), .call (.c (.fn 24 [])) [(.t 7), (.t 8)], none⟩, ⟨(some 10), .un .not (.t 9), none⟩, ⟨(some 11), .mv (.t 10), none⟩, ⟨(some 12), .mv (.t 2), (some (11, false))⟩, ⟨(some 13), .bin .lss .no (.t 12) (.c (.int .i64 0)), (some (11, false))⟩, ⟨(some 14), .pick (.t 11) (.c (.bool true)) (.t 13), none⟩])
 (.cond (.t 14)
   (.seq (.reg [⟨(some 6), .mv (.c (.bool false)), none⟩])
   .ret)
   .skip))
 (.seq (.draw [⟨(some 15), .mv (.t 0), none⟩, ⟨(some 16), .nilc (.t 15), none⟩, ⟨(some 17), .faddr 2 (.t 16), none⟩, ⟨(some 18), .load none (.t 17), none⟩, ⟨(some 19), .mv (.t 1), none⟩, ⟨(some 20), .iaddr 1 (.t 18) (.t 19), none⟩, ⟨(some 21), .load none (.t 20), none⟩, ⟨(some 22), .mv (.t 2), none⟩, ⟨(some 23), .mv (.t 0), none⟩, ⟨(some 24), .nilc (.t 23), none⟩, ⟨(some 25), .faddr 2 (.t 24), none⟩, ⟨(some 26), .load none (.t 25), none⟩, ⟨(some 27), .mv (.t 1), none⟩, ⟨(some 28), .iaddr 1 (.t 26) (.t 27), none⟩, ⟨(some 29), .load none (.t 28), none⟩, ⟨(some 30), .bin .sub .no (.c (.int .i64 1152921504606846976)) (.t 29), none⟩, ⟨(some 31), .minmax false [(.t 22), (.t 30)], none⟩, ⟨(some 32), .bin .add .no (.t 21) (.t 31), none⟩, ⟨(some 33), .iaddr 1 (.t 18) (.t 19), none⟩, ⟨none, .store 1 (.t 33) (.t 32), none⟩] [0, 1, 3, 7, 0, 31, 63, 0, 0, 256, 768, 1792, 0, 7936, 16128, 32512, 65408, 131071, 262143, 524287])
 (.seq (.seq (.reg [⟨(some 34), .mv (.t 0), none⟩, ⟨(some 35), .nilc (.t 34), none⟩, ⟨(some 36), .faddr 1 (.t 35), none⟩, ⟨(some 37), .load none (.t 36), none⟩, ⟨(some 38), .mv (.t 1), none⟩, ⟨(some 39), .iaddr 1 (.t 37) (.t 38), none⟩, ⟨(some 40), .load none (.t 39), none⟩, ⟨(some 41), .bin .neq .no (.t 40) (.c (.int .i64 (-1))), none⟩])
 (.cond (.t 41)
   (.reg [⟨(some 42), .mv (.t 0), none⟩, ⟨(some 43), .mv (.t 0), none⟩, ⟨(some 44), .nilc (.t 43), none⟩, ⟨(some 45), .faddr 1 (.t 44), none⟩, ⟨(some 46), .load none (.t 45), none⟩, ⟨(some 47), .mv (.t 1), none⟩, ⟨(some 48), .iaddr 1 (.t 46) (.t 47), none⟩, ⟨(some 49), .load none (.t 48), none⟩, ⟨(some 50), .call (.c (.fn 25 [])) [(.t 42), (.t 49)], none⟩])
   .skip))
 (.seq (.reg [⟨(some 6), .mv (.c (.bool true)), none⟩])
 .ret))))), [.tmp 6]⟩
theorem c10 : compF Try.prog Try.f10 = some m10 := by kernel_rfl
/-- (*weirgate/heap.Heap).Next -/
def m11 : MFunc := ⟨65, (.seq (.reg [⟨(some 2), .mv (.c (.int .i64 0)), none⟩, ⟨(some 3), .mv (.c (.bool false)), none⟩])
 (.seq (.seq (.reg [⟨(some 6), .mv (.t 0), none⟩, ⟨(some 7), .nilc (.t 6), none⟩, ⟨(some 8), .faddr 0 (.t 7), none⟩, ⟨(some 9), .load none (.t 8), none⟩, ⟨(some 10), .len (.t 9), none⟩, ⟨(some 11), .bin .eql .no (.t 10) (.c (.int .i64 0)), none⟩])
 (.cond (.t 11)
   (.seq (.reg [⟨(some 2), .mv (.c (.int .i64 0)), none⟩, ⟨(some 3), .mv (.c (.bool false)), none⟩])
   .ret)
   .skip))
 (.seq (.draw [⟨(some 12), .mv (.t 0), none⟩, ⟨(some 13), .nilc (.t 12), none⟩, ⟨(some 14), .faddr 0 (.t 13), none⟩, ⟨(some 15), .load none (.t 14), none⟩, ⟨(some 16), .iaddr 1 (.t 15) (.c (.int .i64 0)), none⟩, ⟨(some 17), .load none (.t 16), none⟩, ⟨(some 18), .mv (.t 0), none⟩, ⟨(some 19), .nilc (.t 18), none⟩, ⟨(some 20), .faddr 0 (.t 19), none⟩, ⟨(some 21), .load none (.t 20), none⟩, ⟨(some 22), .mv (.t 0), none⟩, ⟨(some 23), .nilc (.t 22), none⟩, ⟨(some 24), .faddr 0 (.t 23), none⟩, ⟨(some 25), .load none (.t 24), none⟩, ⟨(some 26), .len (.t 25), none⟩, ⟨(some 27), .bin .sub .no (.t 26) (.c (.int .i64 1)), none⟩, ⟨(some 28), .iaddr 1 (.t 21) (.t 27), none⟩, ⟨(some 29), .load none (.t 28), none⟩, ⟨(some 4), .mv (.t 17), none⟩, ⟨(some 5), .mv (.t 29), none⟩] [0, 1, 3, 7, 15, 31, 0, 64, 192, 448, 0, 1024, 3072, 7168, 15360, 31744, 65472, 131008, 63, 524287])
 (.seq (.draw [⟨(some 30), .mv (.t 0), none⟩, ⟨(some 31), .mv (.t 0), none⟩, ⟨(some 32), .nilc (.t 31), none⟩, ⟨(some 33), .faddr 0 (.t 32), none⟩, ⟨(some 34), .load none (.t 33), none⟩, ⟨(some 35), .mv (.t 0), none⟩, ⟨(some 36), .nilc (.t 35), none⟩, ⟨(some 37), .faddr 0 (.t 36), none⟩, ⟨(some 38), .load none (.t 37), none⟩, ⟨(some 39), .len (.t 38), none⟩, ⟨(some 40), .bin .sub .no (.t 39) (.c (.int .i64 1)), none⟩, ⟨(some 41), .cut 1 (.t 34) none (some (.t 40)) none, none⟩, ⟨(some 42), .nilc (.t 30), none⟩, ⟨(some 43), .faddr 0 (.t 42), none⟩, ⟨none, .store 1 (.t 43) (.t 41), none⟩] [0, 0, 2, 6, 14, 0, 32, 96, 224, 480, 992, 2046, 4095, 8191, 16383])
 (.seq (.reg [⟨(some 44), .mv (.t 0), none⟩, ⟨(some 45), .nilc (.t 44), none⟩, ⟨(some 46), .faddr 1 (.t 45), none⟩, ⟨(some 47), .load none (.t 46), none⟩, ⟨(some 48), .mv (.t 4), none⟩, ⟨(some 49), .iaddr 1 (.t 47) (.t 48), none⟩, ⟨none, .store 1 (.t 49) (.c (.int .i64 (-1))), none⟩])
 (.seq (.seq (.reg [⟨(some 50), .mv (.t 0), none⟩, ⟨(some 51), .nilc (.t 50), none⟩, ⟨(some 52), .faddr 0 (.t 51), none⟩, ⟨(some 53), .load none (.t 52), none⟩, ⟨(some 54), .len (.t 53), none⟩, ⟨(some 55), .bin .gtr .no (.t 54) (.c (.int .i64 0)), none⟩])
 (.cond (.t 55)
   (.seq (.reg [⟨(some 56), .mv (.t 0), none⟩, ⟨(some 57), .nilc (.t 56), none⟩, ⟨(some 58), .faddr 0 (.t 57), none⟩, ⟨(some 59), .load none (.t 58), none⟩, ⟨(some 60), .mv (.t 5), none⟩, ⟨(some 61), .iaddr 1 (.t 59) (.c (.int .i64 0)), none⟩, ⟨none, .store 1 (.t 61) (.t 60), none⟩])
   (.reg [⟨(some 62), .mv (.t 0), none⟩, ⟨(some 63), .call (.c (.fn 26 [])) [(.t 62), (.c (.int .i64 0))], none⟩]))
   .skip))
 (.seq (.reg [⟨(some 64), .mv (.t 4), none⟩, ⟨(some 2), .mv (.t 64), none⟩, ⟨(some 3), .mv (.c (.bool true)), none⟩])
 .ret))))))), [.tmp 2, .tmp 3]⟩
theorem c11 : compF Try.prog Try.f11 = some m11 := by kernel_rfl
/-- (*weirgate/heap.Heap).Has -/
def m12 : MFunc := ⟨18, (.seq (.reg [⟨(some 4), .mv (.c (.bool false)), none⟩])
 (.seq (.reg [⟨(some 5), .mv (.t 0), none⟩, ⟨(some 6), .mv (.t 1), none⟩, ⟨(some 7), .call (.c (.fn 24 [])) [(.t 5), (.t 6)], none⟩, ⟨(some 8), .mv (.t 7), none⟩, ⟨(some 9), .mv (.t 0), (some (8, true))⟩, ⟨(some 10), .nilc (.t 9), (some (8, true))⟩, ⟨(some 11), .faddr 1 (.t 10), (some (8, true))⟩, ⟨(some 12), .load none (.t 11), (some (8, true))⟩, ⟨(some 13), .mv (.t 1), (some (8, true))⟩, ⟨(some 14), .iaddr 1 (.t 12) (.t 13), (some (8, true))⟩, ⟨(some 15), .load none (.t 14), (some (8, true))⟩, ⟨(some 16), .bin .neq .no (.t 15) (.c (.int .i64 (-1))), (some (8, true))⟩, ⟨(some 17), .pick (.t 8) (.t 16) (.c (.bool false)), none⟩, ⟨(some 4), .mv (.t 17), none⟩])
 .ret)), [.tmp 4]⟩
theorem c12 : compF Try.prog Try.f12 = some m12 := by kernel_rfl
/-- (*weirgate/heap.Heap).Len -/
def m13 : MFunc := ⟨8, (.seq (.reg [⟨(some 2), .mv (.c (.int .i64 0)), none⟩])
 (.seq (.reg [⟨(some 3), .mv (.t 0), none⟩, ⟨(some 4), .nilc (.t 3), none⟩, ⟨(some 5), .faddr 0 (.t 4), none⟩, ⟨(some 6), .load none (.t 5), none⟩, ⟨(some 7), .len (.t 6), none⟩, ⟨(some 2), .mv (.t 7), none⟩])
 .ret)), [.tmp 2]⟩
theorem c13 : compF Try.prog Try.f13 = some m13 := by kernel_rfl
/-- (*weirgate/heap.Heap).Activity -/
def m14 : MFunc := ⟨16, (.seq (.reg [⟨(some 4), .mv (.c (.int .i64 0)), none⟩])
 (.seq (.seq (.reg [⟨(some 5), .mv (.t 0), none⟩, ⟨(some 6), .mv (.t 1), none⟩, ⟨(some 7), .call (.c (.fn 24 [])) [(.t 5), (.t 6)], none⟩, ⟨(some 8), .un .not (.t 7), none⟩])
 (.cond (.t 8)
   (.seq (.reg [⟨(some 4), .mv (.c (.int .i64 0)), none⟩])
   .ret)
   .skip))
 (.seq (.reg [⟨(some 9), .mv (.t 0), none⟩, ⟨(some 10), .nilc (.t 9), none⟩, ⟨(some 11), .faddr 2 (.t 10), none⟩, ⟨(some 12), .load none (.t 11), none⟩, ⟨(some 13), .mv (.t 1), none⟩, ⟨(some 14), .iaddr 1 (.t 12) (.t 13), none⟩, ⟨(some 15), .load none (.t 14), none⟩, ⟨(some 4), .mv (.t 15), none⟩])
 .ret))), [.tmp 4]⟩
theorem c14 : compF Try.prog Try.f14 = some m14 := by kernel_rfl
/-- (*weirgate/heap.Heap).Put -/
def m15 : MFunc := ⟨37, (.seq (.reg [⟨(some 4), .mv (.c (.bool false)), none⟩])
 (.seq (.seq (.reg [⟨(some 5), .mv (.t 0), none⟩, ⟨(some 6), .mv (.t 1), none⟩, ⟨(some 7), .call (.c (.fn 24 [])) [(.t 5), (.t 6)], none⟩, ⟨(some 8), .un .not (.t 7), none⟩, ⟨(some 9), .mv (.t 8), none⟩, ⟨(some 10), .mv (.t 0), (some (9, false))⟩, ⟨(some 11), .nilc (.t 10), (some (9, false))⟩, ⟨(some 12), .faddr 1 (.t 11), (some (9, false))⟩, ⟨(some 13), .load none (.t 12), (some (9, false))⟩, ⟨(some 14), .mv (.t 1), (some (9, false))⟩, ⟨(some 15), .iaddr 1 (.t 13) (.t 14), (some (9, false))⟩, ⟨(some 16), .load none (.t 15), (some (9, false))⟩, ⟨(some 17), .bin .neq .no (.t 16) (.c (.int .i64 (-1))), (some (9, false))⟩, ⟨(some 18), .pick (.t 9) (.c (.bool true)) (.t 17), none⟩])
 (.cond (.t 18)
   (.seq (.reg [⟨(some 4), .mv (.c (.bool false)), none⟩])
   .ret)
   .skip))
 (.seq (.reg [⟨(some 19), .mv (.t 0), none⟩, ⟨(some 20), .mv (.t 0), none⟩, ⟨(some 21), .nilc (.t 20), none⟩, ⟨(some 22), .faddr 0 (.t 21), none⟩, ⟨(some 23), .load none (.t 22), none⟩, ⟨(some 24), .mv (.t 1), none⟩, ⟨(some 25), .bslice 1 1 [(.int .i64 0)] [(0, 1, (.t 24))], none⟩, ⟨(some 26), .append 1 8 (.t 23) (.t 25), none⟩, ⟨(some 27), .nilc (.t 19), none⟩, ⟨(some 28), .faddr 0 (.t 27), none⟩, ⟨none, .store 1 (.t 28) (.t 26), none⟩])
 (.seq (.reg [⟨(some 29), .mv (.t 0), none⟩, ⟨(some 30), .mv (.t 0), none⟩, ⟨(some 31), .nilc (.t 30), none⟩, ⟨(some 32), .faddr 0 (.t 31), none⟩, ⟨(some 33), .load none (.t 32), none⟩, ⟨(some 34), .len (.t 33), none⟩, ⟨(some 35), .bin .sub .no (.t 34) (.c (.int .i64 1)), none⟩, ⟨(some 36), .call (.c (.fn 25 [])) [(.t 29), (.t 35)], none⟩])
 (.seq (.reg [⟨(some 4), .mv (.c (.bool true)), none⟩])
 .ret))))), [.tmp 4]⟩
theorem c15 : compF Try.prog Try.f15 = some m15 := by kernel_rfl
/-- (*weirgate/heap.Heap).Halve -/
def m16 : MFunc := ⟨36, (.seq (.seq (.reg [⟨(some 4), .mv (.t 0), none⟩, ⟨(some 5), .nilc (.t 4), none⟩, ⟨(some 6), .faddr 2 (.t 5), none⟩, ⟨(some 7), .load none (.t 6), none⟩, ⟨(some 8), .len (.t 7), none⟩, ⟨(some 9), .mv (.c (.int .i64 0)), none⟩])
 (.block 0 (.loop (.seq (.reg [⟨(some 10), .bin .lss .no (.t 9) (.t 8), none⟩])
   (.seq (.cond (.t 10)
     .skip
     (.exit 0))
   (.seq (.block 1 (.seq (.reg [⟨(some 11), .mv (.t 9), none⟩, ⟨(some 2), .mv (.t 11), none⟩])
    (.reg [⟨(some 12), .mv (.t 0), none⟩, ⟨(some 13), .nilc (.t 12), none⟩, ⟨(some 14), .faddr 2 (.t 13), none⟩, ⟨(some 15), .load none (.t 14), none⟩, ⟨(some 16), .mv (.t 2), none⟩, ⟨(some 17), .iaddr 1 (.t 15) (.t 16), none⟩, ⟨(some 18), .load none (.t 17), none⟩, ⟨(some 19), .bin .quo .no (.t 18) (.c (.int .i64 2)), none⟩, ⟨(some 20), .iaddr 1 (.t 15) (.t 16), none⟩, ⟨none, .store 1 (.t 20) (.t 19), none⟩])))
   (.reg [⟨(some 21), .bin .add .no (.t 9) (.c (.int .i64 1)), none⟩, ⟨(some 9), .mv (.t 21), none⟩])))))))
 (.seq (.reg [⟨(some 22), .mv (.t 0), none⟩, ⟨(some 23), .nilc (.t 22), none⟩, ⟨(some 24), .faddr 0 (.t 23), none⟩, ⟨(some 25), .load none (.t 24), none⟩, ⟨(some 26), .len (.t 25), none⟩, ⟨(some 27), .bin .quo .no (.t 26) (.c (.int .i64 2)), none⟩, ⟨(some 28), .bin .sub .no (.t 27) (.c (.int .i64 1)), none⟩, ⟨(some 3), .mv (.t 28), none⟩])
 (.block 2 (.loop (.seq (.seq (.reg [⟨(some 29), .mv (.t 3), none⟩, ⟨(some 30), .bin .geq .no (.t 29) (.c (.int .i64 0)), none⟩])
   (.cond (.t 30)
     .skip
     (.exit 2)))
   (.seq (.block 3 (.reg [⟨(some 33), .mv (.t 0), none⟩, ⟨(some 34), .mv (.t 3), none⟩, ⟨(some 35), .call (.c (.fn 26 [])) [(.t 33), (.t 34)], none⟩]))
   (.reg [⟨(some 31), .mv (.t 3), none⟩, ⟨(some 32), .bin .sub .no (.t 31) (.c (.int .i64 1)), none⟩, ⟨(some 3), .mv (.t 32), none⟩]))))))), []⟩
theorem c16 : compF Try.prog Try.f16 = some m16 := by kernel_rfl
/-- weirgate/weirgateref02.New -/
def m17 : MFunc := ⟨31, (.seq (.reg [⟨(some 2), .mv (.c .nilp), none⟩])
 (.seq (.reg [⟨(some 5), .build [.nils, .nils] [], none⟩, ⟨(some 6), .box 2 (.t 5), none⟩, ⟨(some 3), .mv (.t 6), none⟩])
 (.seq (.seq (.reg [⟨(some 4), .mv (.c (.int .i64 0)), none⟩])
 (.block 0 (.loop (.seq (.seq (.reg [⟨(some 7), .mv (.t 4), none⟩, ⟨(some 8), .mv (.t 0), none⟩, ⟨(some 9), .bin .lss .no (.t 7) (.t 8), none⟩])
   (.cond (.t 9)
     .skip
     (.exit 0)))
   (.seq (.block 1 (.seq (.reg [⟨(some 12), .mv (.t 3), none⟩, ⟨(some 13), .mv (.t 3), none⟩, ⟨(some 14), .nilc (.t 13), none⟩, ⟨(some 15), .faddr 0 (.t 14), none⟩, ⟨(some 16), .load none (.t 15), none⟩, ⟨(some 17), .bslice 1 1 [(.bool false)] [(0, 1, (.c (.bool true)))], none⟩, ⟨(some 18), .append 1 1 (.t 16) (.t 17), none⟩, ⟨(some 19), .nilc (.t 12), none⟩, ⟨(some 20), .faddr 0 (.t 19), none⟩, ⟨none, .store 1 (.t 20) (.t 18), none⟩])
    (.reg [⟨(some 21), .mv (.t 3), none⟩, ⟨(some 22), .mv (.t 3), none⟩, ⟨(some 23), .nilc (.t 22), none⟩, ⟨(some 24), .faddr 1 (.t 23), none⟩, ⟨(some 25), .load none (.t 24), none⟩, ⟨(some 26), .bslice 1 1 [(.int .i64 0)] [(0, 1, (.c (.int .i64 0)))], none⟩, ⟨(some 27), .append 1 8 (.t 25) (.t 26), none⟩, ⟨(some 28), .nilc (.t 21), none⟩, ⟨(some 29), .faddr 1 (.t 28), none⟩, ⟨none, .store 1 (.t 29) (.t 27), none⟩])))
   (.reg [⟨(some 10), .mv (.t 4), none⟩, ⟨(some 11), .bin .add .no (.t 10) (.c (.int .i64 1)), none⟩, ⟨(some 4), .mv (.t 11), none⟩]))))))
 (.seq (.reg [⟨(some 30), .mv (.t 3), none⟩, ⟨(some 2), .mv (.t 30), none⟩])
 .ret)))), [.tmp 2]⟩
theorem c17 : compF Try.prog Try.f17 = some m17 := by kernel_rfl
/-- (*weirgate/weirgateref02.Heap).Put -/
def m18 : MFunc := ⟨26, (.seq (.reg [⟨(some 4), .mv (.c (.bool false)), none⟩])
 (.seq (.seq (.reg [⟨(some 5), .mv (.t 0), none⟩, ⟨(some 6), .mv (.t 1), none⟩, ⟨(some 7), .call (.c (.fn 27 [])) [(.t 5), (.t 6)], none⟩, ⟨(some 8), .un .not (.t 7), none⟩, ⟨(some 9), .mv (.t 8), none⟩, ⟨(some 10), .mv (.t 0), (some (9, false))⟩, ⟨(some 11), .nilc (.t 10), (some (9, false))⟩, ⟨(some 12), .faddr 0 (.t 11), (some (9, false))⟩, ⟨(some 13), .load none (.t 12), (some (9, false))⟩, ⟨(some 14), .mv (.t 1), (some (9, false))⟩, ⟨(some 15), .bin .sub .no (.t 14) (.c (.int .i64 1)), (some (9, false))⟩, ⟨(some 16), .iaddr 1 (.t 13) (.t 15), (some (9, false))⟩, ⟨(some 17), .load none (.t 16), (some (9, false))⟩, ⟨(some 18), .pick (.t 9) (.c (.bool true)) (.t 17), none⟩])
 (.cond (.t 18)
   (.seq (.reg [⟨(some 4), .mv (.c (.bool false)), none⟩])
   .ret)
   .skip))
 (.seq (.reg [⟨(some 19), .mv (.t 0), none⟩, ⟨(some 20), .nilc (.t 19), none⟩, ⟨(some 21), .faddr 0 (.t 20), none⟩, ⟨(some 22), .load none (.t 21), none⟩, ⟨(some 23), .mv (.t 1), none⟩, ⟨(some 24), .bin .sub .no (.t 23) (.c (.int .i64 1)), none⟩, ⟨(some 25), .iaddr 1 (.t 22) (.t 24), none⟩, ⟨none, .store 1 (.t 25) (.c (.bool true)), none⟩])
 (.seq (.reg [⟨(some 4), .mv (.c (.bool true)), none⟩])
 .ret)))), [.tmp 4]⟩
theorem c18 : compF Try.prog Try.f18 = some m18 := by kernel_rfl
/-- (*weirgate/weirgateref02.Heap).Next -/
def m19 : MFunc := ⟨54, (.seq (.reg [⟨(some 2), .mv (.c (.int .i64 0)), none⟩, ⟨(some 3), .mv (.c (.bool false)), none⟩])
 (.seq (.reg [⟨(some 4), .mv (.c (.int .i64 (-1))), none⟩])
 (.seq (.seq (.reg [⟨(some 5), .mv (.c (.int .i64 0)), none⟩])
 (.block 0 (.loop (.seq (.seq (.reg [⟨(some 6), .mv (.t 5), none⟩, ⟨(some 7), .mv (.t 0), none⟩, ⟨(some 8), .nilc (.t 7), none⟩, ⟨(some 9), .faddr 0 (.t 8), none⟩, ⟨(some 10), .load none (.t 9), none⟩, ⟨(some 11), .len (.t 10), none⟩, ⟨(some 12), .bin .lss .no (.t 6) (.t 11), none⟩])
   (.cond (.t 12)
     .skip
     (.exit 0)))
   (.seq (.block 1 (.seq (.draw [⟨(some 15), .mv (.t 0), none⟩, ⟨(some 16), .nilc (.t 15), none⟩, ⟨(some 17), .faddr 0 (.t 16), none⟩, ⟨(some 18), .load none (.t 17), none⟩, ⟨(some 19), .mv (.t 5), none⟩, ⟨(some 20), .iaddr 1 (.t 18) (.t 19), none⟩, ⟨(some 21), .load none (.t 20), none⟩, ⟨(some 22), .mv (.t 21), none⟩, ⟨(some 23), .mv (.t 4), (some (22, true))⟩, ⟨(some 24), .bin .lss .no (.t 23) (.c (.int .i64 0)), (some (22, true))⟩, ⟨(some 25), .mv (.t 24), (some (22, true))⟩, ⟨(some 26), .mv (.t 0), (some (25, false))⟩, ⟨(some 27), .nilc (.t 26), (some (25, false))⟩, ⟨(some 28), .faddr 1 (.t 27), (some (25, false))⟩, ⟨(some 29), .load none (.t 28), (some (25, false))⟩, ⟨(some 30), .mv (.t 5), (some (25, false))⟩, ⟨(some 31), .iaddr 1 (.t 29) (.t 30), (some (25, false))⟩, ⟨(some 32), .load none (.t 31), (some (25, false))⟩, ⟨(some 33), .mv (.t 0), (some (25, false))⟩, ⟨(some 34), .nilc (.t 33), (some (25, false))⟩, ⟨(some 35), .faddr 1 (.t 34), (some (25, false))⟩, ⟨(some 36), .load none (.t 35), (some (25, false))⟩, ⟨(some 37), .mv (.t 4), (some (25, false))⟩, ⟨(some 38), .iaddr 1 (.t 36) (.t 37), (some (25, false))⟩, ⟨(some 39), .load none (.t 38), (some (25, false))⟩, ⟨(some 40), .bin .gtr .no (.t 32) (.t 39), (some (25, false))⟩, ⟨(some 41), .pick (.t 25) (.c (.bool true)) (.t 40), (some (22, true))⟩, ⟨(some 42), .pick (.t 22) (.t 41) (.c (.bool false)), none⟩] [0, 1, 3, 7, 0, 31, 63, 127, 255, 511, 1023, 2047, 4095, 8191, 16383, 2047, 65535, 131071, 2047, 264191, 788479, 1837055, 2047, 8128511, 16517119, 33554431, 67108863, 134217727])
    (.cond (.t 42)
      (.reg [⟨(some 43), .mv (.t 5), none⟩, ⟨(some 4), .mv (.t 43), none⟩])
      .skip)))
   (.reg [⟨(some 13), .mv (.t 5), none⟩, ⟨(some 14), .bin .add .no (.t 13) (.c (.int .i64 1)), none⟩, ⟨(some 5), .mv (.t 14), none⟩]))))))
 (.seq (.seq (.reg [⟨(some 44), .mv (.t 4), none⟩, ⟨(some 45), .bin .lss .no (.t 44) (.c (.int .i64 0)), none⟩])
 (.cond (.t 45)
   (.seq (.reg [⟨(some 2), .mv (.c (.int .i64 0)), none⟩, ⟨(some 3), .mv (.c (.bool false)), none⟩])
   .ret)
   .skip))
 (.seq (.reg [⟨(some 46), .mv (.t 0), none⟩, ⟨(some 47), .nilc (.t 46), none⟩, ⟨(some 48), .faddr 0 (.t 47), none⟩, ⟨(some 49), .load none (.t 48), none⟩, ⟨(some 50), .mv (.t 4), none⟩, ⟨(some 51), .iaddr 1 (.t 49) (.t 50), none⟩, ⟨none, .store 1 (.t 51) (.c (.bool false)), none⟩])
 (.seq (.reg [⟨(some 52), .mv (.t 4), none⟩, ⟨(some 53), .bin .add .no (.t 52) (.c (.int .i64 1)), none⟩, ⟨(some 2), .mv (.t 53), none⟩, ⟨(some 3), .mv (.c (.bool true)), none⟩])
 .ret)))))), [.tmp 2, .tmp 3]⟩
theorem c19 : compF Try.prog Try.f19 = some m19 := by kernel_rfl
/-- (*weirgate/weirgateref02.Heap).Bump -/
def m20 : MFunc := ⟨50, (.seq (.reg [⟨(some 6), .mv (.c (.bool false)), none⟩])
 (.seq (.seq (.reg [⟨(some 7), .mv (.t 0), none⟩, ⟨(some 8), .mv (.t 1), none⟩, ⟨(some 9), .call (.c (.fn 27 [])) [(.t 7), (.t 8)], none⟩, ⟨(some 10), .un .not (.t 9), none⟩, ⟨(some 11), .mv (.t 10), none⟩, ⟨(some 12), .mv (.t 2), (some (11, false))⟩, ⟨(some 13), .bin .lss .no (.t 12) (.c (.int .i64 0)), (some (11, false))⟩, ⟨(some 14), .pick (.t 11) (.c (.bool true)) (.t 13), none⟩])
 (.cond (.t 14)
   (.seq (.reg [⟨(some 6), .mv (.c (.bool false)), none⟩])
   .ret)
   .skip))
 (.seq (.seq (.reg [⟨(some 15), .mv (.t 2), none⟩, ⟨(some 16), .mv (.t 0), none⟩, ⟨(some 17), .nilc (.t 16), none⟩, ⟨(some 18), .faddr 1 (.t 17), none⟩, ⟨(some 19), .load none (.t 18), none⟩, ⟨(some 20), .mv (.t 1), none⟩, ⟨(some 21), .bin .sub .no (.t 20) (.c (.int .i64 1)), none⟩, ⟨(some 22), .iaddr 1 (.t 19) (.t 21), none⟩, ⟨(some 23), .load none (.t 22), none⟩, ⟨(some 24), .bin .sub .no (.c (.int .i64 1152921504606846976)) (.t 23), none⟩, ⟨(some 25), .bin .gtr .no (.t 15) (.t 24), none⟩])
 (.cond (.t 25)
   (.reg [⟨(some 26), .mv (.t 0), none⟩, ⟨(some 27), .nilc (.t 26), none⟩, ⟨(some 28), .faddr 1 (.t 27), none⟩, ⟨(some 29), .load none (.t 28), none⟩, ⟨(some 30), .mv (.t 1), none⟩, ⟨(some 31), .bin .sub .no (.t 30) (.c (.int .i64 1)), none⟩, ⟨(some 32), .iaddr 1 (.t 29) (.t 31), none⟩, ⟨none, .store 1 (.t 32) (.c (.int .i64 1152921504606846976)), none⟩])
   (.draw [⟨(some 33), .mv (.t 0), none⟩, ⟨(some 34), .nilc (.t 33), none⟩, ⟨(some 35), .faddr 1 (.t 34), none⟩, ⟨(some 36), .load none (.t 35), none⟩, ⟨(some 37), .mv (.t 1), none⟩, ⟨(some 38), .bin .sub .no (.t 37) (.c (.int .i64 1)), none⟩, ⟨(some 39), .mv (.t 0), none⟩, ⟨(some 40), .nilc (.t 39), none⟩, ⟨(some 41), .faddr 1 (.t 40), none⟩, ⟨(some 42), .load none (.t 41), none⟩, ⟨(some 43), .mv (.t 1), none⟩, ⟨(some 44), .bin .sub .no (.t 43) (.c (.int .i64 1)), none⟩, ⟨(some 45), .iaddr 1 (.t 42) (.t 44), none⟩, ⟨(some 46), .load none (.t 45), none⟩, ⟨(some 47), .mv (.t 2), none⟩, ⟨(some 48), .bin .add .no (.t 46) (.t 47), none⟩, ⟨(some 49), .iaddr 1 (.t 36) (.t 38), none⟩, ⟨none, .store 1 (.t 49) (.t 48), none⟩] [0, 1, 3, 7, 0, 16, 0, 64, 192, 448, 0, 1024, 4032, 8128, 0, 32704, 65535, 131071])))
 (.seq (.reg [⟨(some 6), .mv (.c (.bool true)), none⟩])
 .ret)))), [.tmp 6]⟩
theorem c20 : compF Try.prog Try.f20 = some m20 := by kernel_rfl
/-- (*weirgate/weirgateref02.Heap).Halve -/
def m21 : MFunc := ⟨26, (.seq (.reg [⟨(some 2), .mv (.c (.int .i64 0)), none⟩])
 (.block 0 (.loop (.seq (.seq (.reg [⟨(some 3), .mv (.t 2), none⟩, ⟨(some 4), .mv (.t 0), none⟩, ⟨(some 5), .nilc (.t 4), none⟩, ⟨(some 6), .faddr 1 (.t 5), none⟩, ⟨(some 7), .load none (.t 6), none⟩, ⟨(some 8), .len (.t 7), none⟩, ⟨(some 9), .bin .lss .no (.t 3) (.t 8), none⟩])
   (.cond (.t 9)
     .skip
     (.exit 0)))
   (.seq (.block 1 (.draw [⟨(some 12), .mv (.t 0), none⟩, ⟨(some 13), .nilc (.t 12), none⟩, ⟨(some 14), .faddr 1 (.t 13), none⟩, ⟨(some 15), .load none (.t 14), none⟩, ⟨(some 16), .mv (.t 2), none⟩, ⟨(some 17), .mv (.t 0), none⟩, ⟨(some 18), .nilc (.t 17), none⟩, ⟨(some 19), .faddr 1 (.t 18), none⟩, ⟨(some 20), .load none (.t 19), none⟩, ⟨(some 21), .mv (.t 2), none⟩, ⟨(some 22), .iaddr 1 (.t 20) (.t 21), none⟩, ⟨(some 23), .load none (.t 22), none⟩, ⟨(some 24), .bin .quo .no (.t 23) (.c (.int .i64 2)), none⟩, ⟨(some 25), .iaddr 1 (.t 15) (.t 16), none⟩, ⟨none, .store 1 (.t 25) (.t 24), none⟩] [0, 1, 3, 7, 0, 0, 32, 96, 224, 0, 992, 2016, 4064, 8191, 16383]))
   (.reg [⟨(some 10), .mv (.t 2), none⟩, ⟨(some 11), .bin .add .no (.t 10) (.c (.int .i64 1)), none⟩, ⟨(some 2), .mv (.t 11), none⟩])))))), []⟩
theorem c21 : compF Try.prog Try.f21 = some m21 := by kernel_rfl
/-- (*weirgate/weirgateref02.Heap).Len -/
def m22 : MFunc := ⟨24, (.seq (.reg [⟨(some 2), .mv (.c (.int .i64 0)), none⟩])
 (.seq (.reg [⟨(some 3), .mv (.c (.int .i64 0)), none⟩])
 (.seq (.seq (.reg [⟨(some 4), .mv (.c (.int .i64 0)), none⟩])
 (.block 0 (.loop (.seq (.seq (.reg [⟨(some 5), .mv (.t 4), none⟩, ⟨(some 6), .mv (.t 0), none⟩, ⟨(some 7), .nilc (.t 6), none⟩, ⟨(some 8), .faddr 0 (.t 7), none⟩, ⟨(some 9), .load none (.t 8), none⟩, ⟨(some 10), .len (.t 9), none⟩, ⟨(some 11), .bin .lss .no (.t 5) (.t 10), none⟩])
   (.cond (.t 11)
     .skip
     (.exit 0)))
   (.seq (.block 1 (.seq (.reg [⟨(some 14), .mv (.t 0), none⟩, ⟨(some 15), .nilc (.t 14), none⟩, ⟨(some 16), .faddr 0 (.t 15), none⟩, ⟨(some 17), .load none (.t 16), none⟩, ⟨(some 18), .mv (.t 4), none⟩, ⟨(some 19), .iaddr 1 (.t 17) (.t 18), none⟩, ⟨(some 20), .load none (.t 19), none⟩])
    (.cond (.t 20)
      (.reg [⟨(some 21), .mv (.t 3), none⟩, ⟨(some 22), .bin .add .no (.t 21) (.c (.int .i64 1)), none⟩, ⟨(some 3), .mv (.t 22), none⟩])
      .skip)))
   (.reg [⟨(some 12), .mv (.t 4), none⟩, ⟨(some 13), .bin .add .no (.t 12) (.c (.int .i64 1)), none⟩, ⟨(some 4), .mv (.t 13), none⟩]))))))
 (.seq (.reg [⟨(some 23), .mv (.t 3), none⟩, ⟨(some 2), .mv (.t 23), none⟩])
 .ret)))), [.tmp 2]⟩
theorem c22 : compF Try.prog Try.f22 = some m22 := by kernel_rfl
/-- weirgate/weirgatelaw02.act -/
def m23 : MFunc := ⟨24, (.seq (.reg [⟨(some 4), .mv (.c (.int .i64 0)), none⟩])
 (.seq (.seq (.reg [⟨(some 5), .mv (.t 1), none⟩, ⟨(some 6), .bin .lss .no (.t 5) (.c (.int .i64 1)), none⟩, ⟨(some 7), .mv (.t 6), none⟩, ⟨(some 8), .mv (.t 1), (some (7, false))⟩, ⟨(some 9), .mv (.t 0), (some (7, false))⟩, ⟨(some 10), .nilc (.t 9), (some (7, false))⟩, ⟨(some 11), .faddr 1 (.t 10), (some (7, false))⟩, ⟨(some 12), .load none (.t 11), (some (7, false))⟩, ⟨(some 13), .len (.t 12), (some (7, false))⟩, ⟨(some 14), .bin .gtr .no (.t 8) (.t 13), (some (7, false))⟩, ⟨(some 15), .pick (.t 7) (.c (.bool true)) (.t 14), none⟩])
 (.cond (.t 15)
   (.seq (.reg [⟨(some 4), .mv (.c (.int .i64 0)), none⟩])
   .ret)
   .skip))
 (.seq (.reg [⟨(some 16), .mv (.t 0), none⟩, ⟨(some 17), .nilc (.t 16), none⟩, ⟨(some 18), .faddr 1 (.t 17), none⟩, ⟨(some 19), .load none (.t 18), none⟩, ⟨(some 20), .mv (.t 1), none⟩, ⟨(some 21), .bin .sub .no (.t 20) (.c (.int .i64 1)), none⟩, ⟨(some 22), .iaddr 1 (.t 19) (.t 21), none⟩, ⟨(some 23), .load none (.t 22), none⟩, ⟨(some 4), .mv (.t 23), none⟩])
 .ret))), [.tmp 4]⟩
theorem c23 : compF Try.prog Try.f23 = some m23 := by kernel_rfl
/-- (*weirgate/heap.Heap).in -/
def m24 : MFunc := ⟨16, (.seq (.reg [⟨(some 4), .mv (.c (.bool false)), none⟩])
 (.seq (.reg [⟨(some 5), .mv (.t 1), none⟩, ⟨(some 6), .bin .gtr .no (.t 5) (.c (.int .i64 0)), none⟩, ⟨(some 7), .mv (.t 6), none⟩, ⟨(some 8), .mv (.t 1), (some (7, true))⟩, ⟨(some 9), .mv (.t 0), (some (7, true))⟩, ⟨(some 10), .nilc (.t 9), (some (7, true))⟩, ⟨(some 11), .faddr 1 (.t 10), (some (7, true))⟩, ⟨(some 12), .load none (.t 11), (some (7, true))⟩, ⟨(some 13), .len (.t 12), (some (7, true))⟩, ⟨(some 14), .bin .lss .no (.t 8) (.t 13), (some (7, true))⟩, ⟨(some 15), .pick (.t 7) (.t 14) (.c (.bool false)), none⟩, ⟨(some 4), .mv (.t 15), none⟩])
 .ret)), [.tmp 4]⟩
theorem c24 : compF Try.prog Try.f24 = some m24 := by kernel_rfl
/-- (*weirgate/heap.Heap).up -/
def m25 : MFunc := ⟨47, (.seq (.reg [⟨(some 5), .mv (.t 0), none⟩, ⟨(some 6), .nilc (.t 5), none⟩, ⟨(some 7), .faddr 0 (.t 6), none⟩, ⟨(some 8), .load none (.t 7), none⟩, ⟨(some 9), .mv (.t 1), none⟩, ⟨(some 10), .iaddr 1 (.t 8) (.t 9), none⟩, ⟨(some 11), .load none (.t 10), none⟩, ⟨(some 4), .mv (.t 11), none⟩])
 (.seq (.block 0 (.loop (.seq (.seq (.reg [⟨(some 12), .mv (.t 1), none⟩, ⟨(some 13), .bin .gtr .no (.t 12) (.c (.int .i64 0)), none⟩, ⟨(some 14), .mv (.t 13), none⟩, ⟨(some 15), .mv (.t 0), (some (14, true))⟩, ⟨(some 16), .mv (.t 4), (some (14, true))⟩, ⟨(some 17), .mv (.t 0), (some (14, true))⟩, ⟨(some 18), .nilc (.t 17), (some (14, true))⟩, ⟨(some 19), .faddr 0 (.t 18), (some (14, true))⟩, ⟨(some 20), .load none (.t 19), (some (14, true))⟩, ⟨(some 21), .mv (.t 1), (some (14, true))⟩, ⟨(some 22), .bin .sub .no (.t 21) (.c (.int .i64 1)), (some (14, true))⟩, ⟨(some 23), .bin .quo .no (.t 22) (.c (.int .i64 2)), (some (14, true))⟩, ⟨(some 24), .iaddr 1 (.t 20) (.t 23), (some (14, true))⟩, ⟨(some 25), .load none (.t 24), (some (14, true))⟩, ⟨(some 26), .call (.c (.fn 28 [])) [(.t 15), (.t 16), (.t 25)], (some (14, true))⟩, ⟨(some 27), .pick (.t 14) (.t 26) (.c (.bool false)), none⟩])
   (.cond (.t 27)
     .skip
     (.exit 0)))
   (.block 1 (.seq (.reg [⟨(some 28), .mv (.t 0), none⟩, ⟨(some 29), .mv (.t 0), none⟩, ⟨(some 30), .nilc (.t 29), none⟩, ⟨(some 31), .faddr 0 (.t 30), none⟩, ⟨(some 32), .load none (.t 31), none⟩, ⟨(some 33), .mv (.t 1), none⟩, ⟨(some 34), .bin .sub .no (.t 33) (.c (.int .i64 1)), none⟩, ⟨(some 35), .bin .quo .no (.t 34) (.c (.int .i64 2)), none⟩, ⟨(some 36), .iaddr 1 (.t 32) (.t 35), none⟩, ⟨(some 37), .load none (.t 36), none⟩, ⟨(some 38), .mv (.t 1), none⟩, ⟨(some 39), .call (.c (.fn 29 [])) [(.t 28), (.t 37), (.t 38)], none⟩])
    (.reg [⟨(some 40), .mv (.t 1), none⟩, ⟨(some 41), .bin .sub .no (.t 40) (.c (.int .i64 1)), none⟩, ⟨(some 42), .bin .quo .no (.t 41) (.c (.int .i64 2)), none⟩, ⟨(some 1), .mv (.t 42), none⟩]))))))
 (.reg [⟨(some 43), .mv (.t 0), none⟩, ⟨(some 44), .mv (.t 4), none⟩, ⟨(some 45), .mv (.t 1), none⟩, ⟨(some 46), .call (.c (.fn 29 [])) [(.t 43), (.t 44), (.t 45)], none⟩]))), []⟩
theorem c25 : compF Try.prog Try.f25 = some m25 := by kernel_rfl
/-- (*weirgate/heap.Heap).down -/
def m26 : MFunc := ⟨78, (.seq (.reg [⟨(some 6), .mv (.t 0), none⟩, ⟨(some 7), .nilc (.t 6), none⟩, ⟨(some 8), .faddr 0 (.t 7), none⟩, ⟨(some 9), .load none (.t 8), none⟩, ⟨(some 10), .mv (.t 1), none⟩, ⟨(some 11), .iaddr 1 (.t 9) (.t 10), none⟩, ⟨(some 12), .load none (.t 11), none⟩, ⟨(some 4), .mv (.t 12), none⟩])
 (.seq (.block 0 (.loop (.block 1 (.seq (.reg [⟨(some 13), .mv (.t 1), none⟩, ⟨(some 14), .bin .mul .no (.c (.int .i64 2)) (.t 13), none⟩, ⟨(some 15), .bin .add .no (.t 14) (.c (.int .i64 1)), none⟩, ⟨(some 5), .mv (.t 15), none⟩])
    (.seq (.seq (.reg [⟨(some 16), .mv (.t 5), none⟩, ⟨(some 17), .mv (.t 0), none⟩, ⟨(some 18), .nilc (.t 17), none⟩, ⟨(some 19), .faddr 0 (.t 18), none⟩, ⟨(some 20), .load none (.t 19), none⟩, ⟨(some 21), .len (.t 20), none⟩, ⟨(some 22), .bin .geq .no (.t 16) (.t 21), none⟩])
    (.cond (.t 22)
      (.exit 0)
      .skip))
    (.seq (.seq (.draw [⟨(some 23), .mv (.t 5), none⟩, ⟨(some 24), .bin .add .no (.t 23) (.c (.int .i64 1)), none⟩, ⟨(some 25), .mv (.t 0), none⟩, ⟨(some 26), .nilc (.t 25), none⟩, ⟨(some 27), .faddr 0 (.t 26), none⟩, ⟨(some 28), .load none (.t 27), none⟩, ⟨(some 29), .len (.t 28), none⟩, ⟨(some 30), .bin .lss .no (.t 24) (.t 29), none⟩, ⟨(some 31), .mv (.t 30), none⟩, ⟨(some 32), .mv (.t 0), (some (31, true))⟩, ⟨(some 33), .mv (.t 0), (some (31, true))⟩, ⟨(some 34), .nilc (.t 33), (some (31, true))⟩, ⟨(some 35), .faddr 0 (.t 34), (some (31, true))⟩, ⟨(some 36), .load none (.t 35), (some (31, true))⟩, ⟨(some 37), .mv (.t 5), (some (31, true))⟩, ⟨(some 38), .bin .add .no (.t 37) (.c (.int .i64 1)), (some (31, true))⟩, ⟨(some 39), .iaddr 1 (.t 36) (.t 38), (some (31, true))⟩, ⟨(some 40), .load none (.t 39), (some (31, true))⟩, ⟨(some 41), .mv (.t 0), (some (31, true))⟩, ⟨(some 42), .nilc (.t 41), (some (31, true))⟩, ⟨(some 43), .faddr 0 (.t 42), (some (31, true))⟩, ⟨(some 44), .load none (.t 43), (some (31, true))⟩, ⟨(some 45), .mv (.t 5), (some (31, true))⟩, ⟨(some 46), .iaddr 1 (.t 44) (.t 45), (some (31, true))⟩, ⟨(some 47), .load none (.t 46), (some (31, true))⟩, ⟨(some 48), .call (.c (.fn 28 [])) [(.t 32), (.t 40), (.t 47)], (some (31, true))⟩, ⟨(some 49), .pick (.t 31) (.t 48) (.c (.bool false)), none⟩] [0, 1, 0, 4, 12, 28, 60, 127, 255, 511, 511, 1535, 3583, 7679, 511, 16895, 65023, 130559, 511, 262655, 786943, 1835519, 511, 8126975, 16515583, 33554431, 67108863])
    (.cond (.t 49)
      (.reg [⟨(some 50), .mv (.t 5), none⟩, ⟨(some 51), .bin .add .no (.t 50) (.c (.int .i64 1)), none⟩, ⟨(some 5), .mv (.t 51), none⟩])
      .skip))
    (.seq (.seq (.reg [⟨(some 52), .mv (.t 0), none⟩, ⟨(some 53), .mv (.t 0), none⟩, ⟨(some 54), .nilc (.t 53), none⟩, ⟨(some 55), .faddr 0 (.t 54), none⟩, ⟨(some 56), .load none (.t 55), none⟩, ⟨(some 57), .mv (.t 5), none⟩, ⟨(some 58), .iaddr 1 (.t 56) (.t 57), none⟩, ⟨(some 59), .load none (.t 58), none⟩, ⟨(some 60), .mv (.t 4), none⟩, ⟨(some 61), .call (.c (.fn 28 [])) [(.t 52), (.t 59), (.t 60)], none⟩, ⟨(some 62), .un .not (.t 61), none⟩])
    (.cond (.t 62)
      (.exit 0)
      .skip))
    (.seq (.reg [⟨(some 63), .mv (.t 0), none⟩, ⟨(some 64), .mv (.t 0), none⟩, ⟨(some 65), .nilc (.t 64), none⟩, ⟨(some 66), .faddr 0 (.t 65), none⟩, ⟨(some 67), .load none (.t 66), none⟩, ⟨(some 68), .mv (.t 5), none⟩, ⟨(some 69), .iaddr 1 (.t 67) (.t 68), none⟩, ⟨(some 70), .load none (.t 69), none⟩, ⟨(some 71), .mv (.t 1), none⟩, ⟨(some 72), .call (.c (.fn 29 [])) [(.t 63), (.t 70), (.t 71)], none⟩])
    (.reg [⟨(some 73), .mv (.t 5), none⟩, ⟨(some 1), .mv (.t 73), none⟩])))))))))
 (.reg [⟨(some 74), .mv (.t 0), none⟩, ⟨(some 75), .mv (.t 4), none⟩, ⟨(some 76), .mv (.t 1), none⟩, ⟨(some 77), .call (.c (.fn 29 [])) [(.t 74), (.t 75), (.t 76)], none⟩]))), []⟩
theorem c26 : compF Try.prog Try.f26 = some m26 := by kernel_rfl
/-- (*weirgate/weirgateref02.Heap).is -/
def m27 : MFunc := ⟨16, (.seq (.reg [⟨(some 4), .mv (.c (.bool false)), none⟩])
 (.seq (.reg [⟨(some 5), .mv (.t 1), none⟩, ⟨(some 6), .bin .geq .no (.t 5) (.c (.int .i64 1)), none⟩, ⟨(some 7), .mv (.t 6), none⟩, ⟨(some 8), .mv (.t 1), (some (7, true))⟩, ⟨(some 9), .mv (.t 0), (some (7, true))⟩, ⟨(some 10), .nilc (.t 9), (some (7, true))⟩, ⟨(some 11), .faddr 0 (.t 10), (some (7, true))⟩, ⟨(some 12), .load none (.t 11), (some (7, true))⟩, ⟨(some 13), .len (.t 12), (some (7, true))⟩, ⟨(some 14), .bin .leq .no (.t 8) (.t 13), (some (7, true))⟩, ⟨(some 15), .pick (.t 7) (.t 14) (.c (.bool false)), none⟩, ⟨(some 4), .mv (.t 15), none⟩])
 .ret)), [.tmp 4]⟩
theorem c27 : compF Try.prog Try.f27 = some m27 := by kernel_rfl
/-- (*weirgate/heap.Heap).ahead -/
def m28 : MFunc := ⟨40, (.seq (.reg [⟨(some 6), .mv (.c (.bool false)), none⟩])
 (.seq (.seq (.draw [⟨(some 7), .mv (.t 0), none⟩, ⟨(some 8), .nilc (.t 7), none⟩, ⟨(some 9), .faddr 2 (.t 8), none⟩, ⟨(some 10), .load none (.t 9), none⟩, ⟨(some 11), .mv (.t 1), none⟩, ⟨(some 12), .iaddr 1 (.t 10) (.t 11), none⟩, ⟨(some 13), .load none (.t 12), none⟩, ⟨(some 14), .mv (.t 0), none⟩, ⟨(some 15), .nilc (.t 14), none⟩, ⟨(some 16), .faddr 2 (.t 15), none⟩, ⟨(some 17), .load none (.t 16), none⟩, ⟨(some 18), .mv (.t 2), none⟩, ⟨(some 19), .iaddr 1 (.t 17) (.t 18), none⟩, ⟨(some 20), .load none (.t 19), none⟩, ⟨(some 21), .bin .neq .no (.t 13) (.t 20), none⟩] [0, 1, 3, 7, 0, 31, 63, 0, 128, 384, 896, 0, 3968, 8064, 16383])
 (.cond (.t 21)
   (.seq (.draw [⟨(some 22), .mv (.t 0), none⟩, ⟨(some 23), .nilc (.t 22), none⟩, ⟨(some 24), .faddr 2 (.t 23), none⟩, ⟨(some 25), .load none (.t 24), none⟩, ⟨(some 26), .mv (.t 1), none⟩, ⟨(some 27), .iaddr 1 (.t 25) (.t 26), none⟩, ⟨(some 28), .load none (.t 27), none⟩, ⟨(some 29), .mv (.t 0), none⟩, ⟨(some 30), .nilc (.t 29), none⟩, ⟨(some 31), .faddr 2 (.t 30), none⟩, ⟨(some 32), .load none (.t 31), none⟩, ⟨(some 33), .mv (.t 2), none⟩, ⟨(some 34), .iaddr 1 (.t 32) (.t 33), none⟩, ⟨(some 35), .load none (.t 34), none⟩, ⟨(some 36), .bin .gtr .no (.t 28) (.t 35), none⟩, ⟨(some 6), .mv (.t 36), none⟩] [0, 1, 3, 7, 0, 31, 63, 0, 128, 384, 896, 0, 3968, 8064, 16383, 32767])
   .ret)
   .skip))
 (.seq (.reg [⟨(some 37), .mv (.t 1), none⟩, ⟨(some 38), .mv (.t 2), none⟩, ⟨(some 39), .bin .lss .no (.t 37) (.t 38), none⟩, ⟨(some 6), .mv (.t 39), none⟩])
 .ret))), [.tmp 6]⟩
theorem c28 : compF Try.prog Try.f28 = some m28 := by kernel_rfl
/-- (*weirgate/heap.Heap).lay -/
def m29 : MFunc := ⟨20, (.draw [⟨(some 6), .mv (.t 0), none⟩, ⟨(some 7), .nilc (.t 6), none⟩, ⟨(some 8), .faddr 0 (.t 7), none⟩, ⟨(some 9), .load none (.t 8), none⟩, ⟨(some 10), .mv (.t 2), none⟩, ⟨(some 11), .mv (.t 0), none⟩, ⟨(some 12), .nilc (.t 11), none⟩, ⟨(some 13), .faddr 1 (.t 12), none⟩, ⟨(some 14), .load none (.t 13), none⟩, ⟨(some 15), .mv (.t 1), none⟩, ⟨(some 16), .mv (.t 1), none⟩, ⟨(some 17), .mv (.t 2), none⟩, ⟨(some 18), .iaddr 1 (.t 9) (.t 10), none⟩, ⟨none, .store 1 (.t 18) (.t 16), none⟩, ⟨(some 19), .iaddr 1 (.t 14) (.t 15), none⟩, ⟨none, .store 1 (.t 19) (.t 17), none⟩] [0, 1, 3, 7, 0, 0, 32, 96, 224, 0, 0, 0, 1535, 5631, 16383, 32767]), []⟩
theorem c29 : compF Try.prog Try.f29 = some m29 := by kernel_rfl
def tab (f : FuncId) : Option MFunc :=
  (bif Nat.blt f 16 then (bif Nat.blt f 9 then (bif Nat.blt f 6 then (bif Nat.blt f 4 then (bif Nat.beq f 3 then some m3 else none) else (bif Nat.blt f 5 then (bif Nat.beq f 4 then some m4 else none) else (bif Nat.beq f 5 then some m5 else none))) else (bif Nat.blt f 7 then (bif Nat.beq f 6 then some m6 else none) else (bif Nat.blt f 8 then (bif Nat.beq f 7 then some m7 else none) else (bif Nat.beq f 8 then some m8 else none)))) else (bif Nat.blt f 12 then (bif Nat.blt f 10 then (bif Nat.beq f 9 then some m9 else none) else (bif Nat.blt f 11 then (bif Nat.beq f 10 then some m10 else none) else (bif Nat.beq f 11 then some m11 else none))) else (bif Nat.blt f 14 then (bif Nat.blt f 13 then (bif Nat.beq f 12 then some m12 else none) else (bif Nat.beq f 13 then some m13 else none)) else (bif Nat.blt f 15 then (bif Nat.beq f 14 then some m14 else none) else (bif Nat.beq f 15 then some m15 else none))))) else (bif Nat.blt f 23 then (bif Nat.blt f 19 then (bif Nat.blt f 17 then (bif Nat.beq f 16 then some m16 else none) else (bif Nat.blt f 18 then (bif Nat.beq f 17 then some m17 else none) else (bif Nat.beq f 18 then some m18 else none))) else (bif Nat.blt f 21 then (bif Nat.blt f 20 then (bif Nat.beq f 19 then some m19 else none) else (bif Nat.beq f 20 then some m20 else none)) else (bif Nat.blt f 22 then (bif Nat.beq f 21 then some m21 else none) else (bif Nat.beq f 22 then some m22 else none)))) else (bif Nat.blt f 26 then (bif Nat.blt f 24 then (bif Nat.beq f 23 then some m23 else none) else (bif Nat.blt f 25 then (bif Nat.beq f 24 then some m24 else none) else (bif Nat.beq f 25 then some m25 else none))) else (bif Nat.blt f 28 then (bif Nat.blt f 27 then (bif Nat.beq f 26 then some m26 else none) else (bif Nat.beq f 27 then some m27 else none)) else (bif Nat.blt f 29 then (bif Nat.beq f 28 then some m28 else none) else (bif Nat.beq f 29 then some m29 else none))))))
theorem tab_ok (f : FuncId) (m : MFunc) (h : tab f = some m) : ∃ fn, Try.prog.funcs[f]? = some fn ∧ compF Try.prog fn = some m :=
  tab_node h (fun h => tab_node h (fun h => tab_node h (fun h => tab_node h (fun h => tab_leaf h Try.func3 c3) (fun h => tab_node h (fun h => tab_leaf h Try.func4 c4) (fun h => tab_leaf h Try.func5 c5))) (fun h => tab_node h (fun h => tab_leaf h Try.func6 c6) (fun h => tab_node h (fun h => tab_leaf h Try.func7 c7) (fun h => tab_leaf h Try.func8 c8)))) (fun h => tab_node h (fun h => tab_node h (fun h => tab_leaf h Try.func9 c9) (fun h => tab_node h (fun h => tab_leaf h Try.func10 c10) (fun h => tab_leaf h Try.func11 c11))) (fun h => tab_node h (fun h => tab_node h (fun h => tab_leaf h Try.func12 c12) (fun h => tab_leaf h Try.func13 c13)) (fun h => tab_node h (fun h => tab_leaf h Try.func14 c14) (fun h => tab_leaf h Try.func15 c15))))) (fun h => tab_node h (fun h => tab_node h (fun h => tab_node h (fun h => tab_leaf h Try.func16 c16) (fun h => tab_node h (fun h => tab_leaf h Try.func17 c17) (fun h => tab_leaf h Try.func18 c18))) (fun h => tab_node h (fun h => tab_node h (fun h => tab_leaf h Try.func19 c19) (fun h => tab_leaf h Try.func20 c20)) (fun h => tab_node h (fun h => tab_leaf h Try.func21 c21) (fun h => tab_leaf h Try.func22 c22)))) (fun h => tab_node h (fun h => tab_node h (fun h => tab_leaf h Try.func23 c23) (fun h => tab_node h (fun h => tab_leaf h Try.func24 c24) (fun h => tab_leaf h Try.func25 c25))) (fun h => tab_node h (fun h => tab_node h (fun h => tab_leaf h Try.func26 c26) (fun h => tab_leaf h Try.func27 c27)) (fun h => tab_node h (fun h => tab_leaf h Try.func28 c28) (fun h => tab_leaf h Try.func29 c29)))))
end Go.Proofs.Ytmmipfmdkoaekaa.Code
