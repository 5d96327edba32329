/- A part of the proof: CodeL. No condition. -/
import Derived.Test.YtbalajldicbbbaaDoorProg
import Derived.Test.YtbalajldicbbbaaDoorMiniC
import Derived.KernelRfl
set_option linter.all false
set_option maxRecDepth 100000
set_option maxRecDepth 100000
set_option maxHeartbeats 0
namespace Go.Proofs.YtbalajldicbbbaaDoor.Code
open Go.Mini

/-- weirgate/weirgatelaw08.LexLong -/
def m3 : MFunc := ⟨112, (.seq (.reg [⟨(some 4), .mv (.c (.bool false)), none⟩])
 (.seq (.seq (.reg [⟨(some 13), .call (.c (.fn 6 [])) [], none⟩, ⟨(some 14), .un .not (.t 13), none⟩])
 (.cond (.t 14)
   (.seq (.reg [⟨(some 4), .mv (.c (.bool false)), none⟩])
   .ret)
   .skip))
 (.seq (.reg [⟨(some 5), .mv (.c .nils), none⟩])
 (.seq (.seq (.reg [⟨(some 15), .mv (.t 1), none⟩, ⟨(some 16), .bin .rem .no (.t 15) (.c (.int .u8 3)), none⟩])
 (.block 0 (.seq (.reg [⟨(some 18), .bin .eql .no (.t 16) (.c (.int .u8 0)), none⟩, ⟨(some 17), .mv (.t 18), none⟩])
  (.cond (.t 17)
    (.seq (.seq (.reg [⟨(some 6), .mv (.c (.int .i64 0)), none⟩])
    (.block 1 (.loop (.seq (.seq (.reg [⟨(some 19), .mv (.t 6), none⟩, ⟨(some 20), .mv (.t 0), none⟩, ⟨(some 21), .convI .i64 (.t 20), none⟩, ⟨(some 22), .bin .rem .no (.t 21) (.c (.int .i64 5000)), none⟩, ⟨(some 23), .bin .lss .no (.t 19) (.t 22), none⟩])
      (.cond (.t 23)
        .skip
        (.exit 1)))
      (.seq (.block 2 (.reg [⟨(some 26), .mv (.t 5), none⟩, ⟨(some 27), .bslice 1 1 [(.int .u8 0)] [(0, 1, (.c (.int .u8 32)))], none⟩, ⟨(some 28), .append 1 1 (.t 26) (.t 27), none⟩, ⟨(some 5), .mv (.t 28), none⟩]))
      (.reg [⟨(some 24), .mv (.t 6), none⟩, ⟨(some 25), .bin .add .no (.t 24) (.c (.int .i64 1)), none⟩, ⟨(some 6), .mv (.t 25), none⟩]))))))
    (.seq (.reg [⟨(some 30), .mv (.t 5), none⟩, ⟨(some 31), .b2s (.t 30), none⟩, ⟨(some 32), .call (.c (.fn 7 [])) [(.t 31)], none⟩, ⟨(some 29), .mv (.t 32), none⟩, ⟨(some 33), .extract (.t 29) 0, none⟩, ⟨(some 34), .extract (.t 29) 1, none⟩, ⟨(some 8), .alloc [(.int .i64 0), (.int .i64 0)], none⟩, ⟨(some 7), .mv (.t 33), none⟩, ⟨none, .store 2 (.t 8) (.t 34), none⟩])
    (.seq (.reg [⟨(some 35), .load (some 2) (.t 8), none⟩, ⟨(some 36), .build [(.int .i64 0), (.int .i64 0)] [], none⟩, ⟨(some 37), .bin .eql (.flat [.i, .i]) (.t 35) (.t 36), none⟩, ⟨(some 38), .mv (.t 5), none⟩, ⟨(some 39), .len (.t 38), none⟩, ⟨(some 40), .bin .leq .no (.t 39) (.c (.int .i64 4000)), none⟩, ⟨(some 41), .bin .eql .bool (.t 37) (.t 40), none⟩, ⟨(some 42), .mv (.t 41), none⟩, ⟨(some 43), .mv (.t 7), (some (42, true))⟩, ⟨(some 44), .len (.t 43), (some (42, true))⟩, ⟨(some 45), .bin .eql .no (.t 44) (.c (.int .i64 1)), (some (42, true))⟩, ⟨(some 46), .mv (.t 5), (some (42, true))⟩, ⟨(some 47), .len (.t 46), (some (42, true))⟩, ⟨(some 48), .bin .leq .no (.t 47) (.c (.int .i64 4000)), (some (42, true))⟩, ⟨(some 49), .bin .eql .bool (.t 45) (.t 48), (some (42, true))⟩, ⟨(some 50), .pick (.t 42) (.t 49) (.c (.bool false)), none⟩, ⟨(some 51), .mv (.t 50), none⟩, ⟨(some 52), .mv (.t 5), (some (51, true))⟩, ⟨(some 53), .len (.t 52), (some (51, true))⟩, ⟨(some 54), .bin .leq .no (.t 53) (.c (.int .i64 4000)), (some (51, true))⟩, ⟨(some 55), .mv (.t 54), (some (51, true))⟩, ⟨(some 56), .faddr 0 (.t 8), (some (55, false))⟩, ⟨(some 57), .load none (.t 56), (some (55, false))⟩, ⟨(some 58), .bin .eql .no (.t 57) (.c (.int .i64 12)), (some (55, false))⟩, ⟨(some 59), .pick (.t 55) (.c (.bool true)) (.t 58), (some (51, true))⟩, ⟨(some 60), .pick (.t 51) (.t 59) (.c (.bool false)), none⟩, ⟨(some 4), .mv (.t 60), none⟩])
    .ret)))
    (.seq (.reg [⟨(some 62), .bin .eql .no (.t 16) (.c (.int .u8 1)), none⟩, ⟨(some 61), .mv (.t 62), none⟩])
    (.cond (.t 61)
      (.seq (.seq (.reg [⟨(some 9), .mv (.c (.int .i64 0)), none⟩])
      (.block 3 (.loop (.seq (.seq (.reg [⟨(some 63), .mv (.t 9), none⟩, ⟨(some 64), .mv (.t 0), none⟩, ⟨(some 65), .convI .i64 (.t 64), none⟩, ⟨(some 66), .bin .rem .no (.t 65) (.c (.int .i64 12)), none⟩, ⟨(some 67), .bin .leq .no (.t 63) (.t 66), none⟩])
        (.cond (.t 67)
          .skip
          (.exit 3)))
        (.seq (.block 4 (.reg [⟨(some 70), .mv (.t 5), none⟩, ⟨(some 71), .bslice 1 1 [(.int .u8 0)] [(0, 1, (.c (.int .u8 55)))], none⟩, ⟨(some 72), .append 1 1 (.t 70) (.t 71), none⟩, ⟨(some 5), .mv (.t 72), none⟩]))
        (.reg [⟨(some 68), .mv (.t 9), none⟩, ⟨(some 69), .bin .add .no (.t 68) (.c (.int .i64 1)), none⟩, ⟨(some 9), .mv (.t 69), none⟩]))))))
      (.seq (.reg [⟨(some 74), .mv (.t 5), none⟩, ⟨(some 75), .b2s (.t 74), none⟩, ⟨(some 76), .call (.c (.fn 7 [])) [(.t 75)], none⟩, ⟨(some 73), .mv (.t 76), none⟩, ⟨(some 77), .extract (.t 73) 0, none⟩, ⟨(some 78), .extract (.t 73) 1, none⟩, ⟨(some 11), .alloc [(.int .i64 0), (.int .i64 0)], none⟩, ⟨(some 10), .mv (.t 77), none⟩, ⟨none, .store 2 (.t 11) (.t 78), none⟩])
      (.seq (.reg [⟨(some 79), .load (some 2) (.t 11), none⟩, ⟨(some 80), .build [(.int .i64 0), (.int .i64 0)] [], none⟩, ⟨(some 81), .bin .eql (.flat [.i, .i]) (.t 79) (.t 80), none⟩, ⟨(some 82), .mv (.t 5), none⟩, ⟨(some 83), .len (.t 82), none⟩, ⟨(some 84), .bin .leq .no (.t 83) (.c (.int .i64 6)), none⟩, ⟨(some 85), .bin .eql .bool (.t 81) (.t 84), none⟩, ⟨(some 86), .mv (.t 85), none⟩, ⟨(some 87), .mv (.t 10), (some (86, true))⟩, ⟨(some 88), .len (.t 87), (some (86, true))⟩, ⟨(some 89), .bin .eql .no (.t 88) (.c (.int .i64 2)), (some (86, true))⟩, ⟨(some 90), .mv (.t 5), (some (86, true))⟩, ⟨(some 91), .len (.t 90), (some (86, true))⟩, ⟨(some 92), .bin .leq .no (.t 91) (.c (.int .i64 6)), (some (86, true))⟩, ⟨(some 93), .bin .eql .bool (.t 89) (.t 92), (some (86, true))⟩, ⟨(some 94), .pick (.t 86) (.t 93) (.c (.bool false)), none⟩, ⟨(some 4), .mv (.t 94), none⟩])
      .ret)))
      .skip))))))
 (.seq (.seq (.reg [⟨(some 12), .mv (.c (.int .i64 0)), none⟩])
 (.block 5 (.loop (.seq (.seq (.reg [⟨(some 95), .mv (.t 12), none⟩, ⟨(some 96), .mv (.t 0), none⟩, ⟨(some 97), .convI .i64 (.t 96), none⟩, ⟨(some 98), .bin .rem .no (.t 97) (.c (.int .i64 20)), none⟩, ⟨(some 99), .bin .leq .no (.t 95) (.t 98), none⟩])
   (.cond (.t 99)
     .skip
     (.exit 5)))
   (.seq (.block 6 (.reg [⟨(some 102), .mv (.t 5), none⟩, ⟨(some 103), .bslice 1 1 [(.int .u8 0)] [(0, 1, (.c (.int .u8 113)))], none⟩, ⟨(some 104), .append 1 1 (.t 102) (.t 103), none⟩, ⟨(some 5), .mv (.t 104), none⟩]))
   (.reg [⟨(some 100), .mv (.t 12), none⟩, ⟨(some 101), .bin .add .no (.t 100) (.c (.int .i64 1)), none⟩, ⟨(some 12), .mv (.t 101), none⟩]))))))
 (.seq (.reg [⟨(some 105), .mv (.t 5), none⟩, ⟨(some 106), .b2s (.t 105), none⟩, ⟨(some 107), .call (.c (.fn 8 [])) [(.t 106)], none⟩, ⟨(some 108), .mv (.t 5), none⟩, ⟨(some 109), .len (.t 108), none⟩, ⟨(some 110), .bin .leq .no (.t 109) (.c (.int .i64 12)), none⟩, ⟨(some 111), .bin .eql .bool (.t 107) (.t 110), none⟩, ⟨(some 4), .mv (.t 111), none⟩])
 .ret)))))), [.tmp 4]⟩
theorem c3 : compF Tryd.prog Tryd.f3 = some m3 := by kernel_rfl
/-- weirgate/weirgatelaw08.LexNames -/
def m4 : MFunc := ⟨60, (.seq (.reg [⟨(some 4), .mv (.c (.bool false)), none⟩])
 (.seq (.seq (.reg [⟨(some 9), .call (.c (.fn 6 [])) [], none⟩, ⟨(some 10), .un .not (.t 9), none⟩, ⟨(some 11), .mv (.t 10), none⟩, ⟨(some 12), .mv (.t 0), (some (11, false))⟩, ⟨(some 13), .lenS (.t 12), (some (11, false))⟩, ⟨(some 14), .bin .gtr .no (.t 13) (.c (.int .i64 500)), (some (11, false))⟩, ⟨(some 15), .pick (.t 11) (.c (.bool true)) (.t 14), none⟩])
 (.cond (.t 15)
   (.seq (.reg [⟨(some 16), .call (.c (.fn 6 [])) [], none⟩, ⟨(some 4), .mv (.t 16), none⟩])
   .ret)
   .skip))
 (.seq (.reg [⟨(some 18), .mv (.t 0), none⟩, ⟨(some 19), .mv (.t 1), none⟩, ⟨(some 20), .call (.c (.fn 9 [])) [(.t 18), (.t 19)], none⟩, ⟨(some 17), .mv (.t 20), none⟩, ⟨(some 21), .extract (.t 17) 0, none⟩, ⟨(some 22), .extract (.t 17) 1, none⟩, ⟨(some 5), .mv (.t 21), none⟩, ⟨(some 6), .mv (.t 22), none⟩])
 (.seq (.reg [⟨(some 24), .mv (.t 0), none⟩, ⟨(some 25), .mv (.t 1), none⟩, ⟨(some 26), .call (.c (.fn 10 [])) [(.t 24), (.t 25)], none⟩, ⟨(some 23), .mv (.t 26), none⟩, ⟨(some 27), .extract (.t 23) 0, none⟩, ⟨(some 28), .extract (.t 23) 1, none⟩, ⟨(some 7), .mv (.t 27), none⟩, ⟨(some 8), .mv (.t 28), none⟩])
 (.seq (.reg [⟨(some 29), .mv (.t 0), none⟩, ⟨(some 30), .call (.c (.fn 11 [])) [(.t 29)], none⟩, ⟨(some 31), .mv (.t 0), none⟩, ⟨(some 32), .call (.c (.fn 12 [])) [(.t 31)], none⟩, ⟨(some 33), .bin .eql .bool (.t 30) (.t 32), none⟩, ⟨(some 34), .mv (.t 33), none⟩, ⟨(some 35), .mv (.t 0), (some (34, true))⟩, ⟨(some 36), .call (.c (.fn 8 [])) [(.t 35)], (some (34, true))⟩, ⟨(some 37), .mv (.t 0), (some (34, true))⟩, ⟨(some 38), .call (.c (.fn 13 [])) [(.t 37)], (some (34, true))⟩, ⟨(some 39), .bin .eql .bool (.t 36) (.t 38), (some (34, true))⟩, ⟨(some 40), .pick (.t 34) (.t 39) (.c (.bool false)), none⟩, ⟨(some 41), .mv (.t 40), none⟩, ⟨(some 42), .mv (.t 5), (some (41, true))⟩, ⟨(some 43), .mv (.t 7), (some (41, true))⟩, ⟨(some 44), .bin .eql .no (.t 42) (.t 43), (some (41, true))⟩, ⟨(some 45), .pick (.t 41) (.t 44) (.c (.bool false)), none⟩, ⟨(some 46), .mv (.t 45), none⟩, ⟨(some 47), .mv (.t 6), (some (46, true))⟩, ⟨(some 48), .mv (.t 8), (some (46, true))⟩, ⟨(some 49), .bin .eql .no (.t 47) (.t 48), (some (46, true))⟩, ⟨(some 50), .pick (.t 46) (.t 49) (.c (.bool false)), none⟩, ⟨(some 51), .mv (.t 50), none⟩, ⟨(some 52), .mv (.t 0), (some (51, true))⟩, ⟨(some 53), .call (.c (.fn 11 [])) [(.t 52)], (some (51, true))⟩, ⟨(some 54), .mv (.t 53), (some (51, true))⟩, ⟨(some 55), .mv (.t 0), (some (54, true))⟩, ⟨(some 56), .call (.c (.fn 8 [])) [(.t 55)], (some (54, true))⟩, ⟨(some 57), .pick (.t 54) (.t 56) (.c (.bool false)), (some (51, true))⟩, ⟨(some 58), .un .not (.t 57), (some (51, true))⟩, ⟨(some 59), .pick (.t 51) (.t 58) (.c (.bool false)), none⟩, ⟨(some 4), .mv (.t 59), none⟩])
 .ret))))), [.tmp 4]⟩
theorem c4 : compF Tryd.prog Tryd.f4 = some m4 := by kernel_rfl
/-- weirgate/weirgatelaw08.LexPlaces -/
def m5 : MFunc := ⟨58, (.seq (.reg [⟨(some 4), .mv (.c (.bool false)), none⟩])
 (.seq (.seq (.reg [⟨(some 9), .call (.c (.fn 6 [])) [], none⟩, ⟨(some 10), .un .not (.t 9), none⟩, ⟨(some 11), .mv (.t 10), none⟩, ⟨(some 12), .mv (.t 0), (some (11, false))⟩, ⟨(some 13), .lenS (.t 12), (some (11, false))⟩, ⟨(some 14), .bin .gtr .no (.t 13) (.c (.int .i64 500)), (some (11, false))⟩, ⟨(some 15), .pick (.t 11) (.c (.bool true)) (.t 14), none⟩, ⟨(some 16), .mv (.t 15), none⟩, ⟨(some 17), .mv (.t 1), (some (16, false))⟩, ⟨(some 18), .bin .lss .no (.t 17) (.c (.int .i64 0)), (some (16, false))⟩, ⟨(some 19), .pick (.t 16) (.c (.bool true)) (.t 18), none⟩, ⟨(some 20), .mv (.t 19), none⟩, ⟨(some 21), .mv (.t 1), (some (20, false))⟩, ⟨(some 22), .mv (.t 0), (some (20, false))⟩, ⟨(some 23), .lenS (.t 22), (some (20, false))⟩, ⟨(some 24), .bin .gtr .no (.t 21) (.t 23), (some (20, false))⟩, ⟨(some 25), .pick (.t 20) (.c (.bool true)) (.t 24), none⟩])
 (.cond (.t 25)
   (.seq (.reg [⟨(some 26), .call (.c (.fn 6 [])) [], none⟩, ⟨(some 4), .mv (.t 26), none⟩])
   .ret)
   .skip))
 (.seq (.reg [⟨(some 28), .mv (.t 0), none⟩, ⟨(some 29), .mv (.t 1), none⟩, ⟨(some 30), .call (.c (.fn 9 [])) [(.t 28), (.t 29)], none⟩, ⟨(some 27), .mv (.t 30), none⟩, ⟨(some 31), .extract (.t 27) 0, none⟩, ⟨(some 32), .extract (.t 27) 1, none⟩, ⟨(some 5), .mv (.t 31), none⟩, ⟨(some 6), .mv (.t 32), none⟩])
 (.seq (.reg [⟨(some 7), .mv (.c (.int .i64 0)), none⟩])
 (.seq (.seq (.reg [⟨(some 8), .mv (.c (.int .i64 1)), none⟩])
 (.block 0 (.loop (.seq (.seq (.reg [⟨(some 33), .mv (.t 8), none⟩, ⟨(some 34), .mv (.t 5), none⟩, ⟨(some 35), .bin .lss .no (.t 33) (.t 34), none⟩])
   (.cond (.t 35)
     .skip
     (.exit 0)))
   (.seq (.block 1 (.seq (.block 2 (.loop (.seq (.seq (.reg [⟨(some 38), .mv (.t 7), none⟩, ⟨(some 39), .mv (.t 0), none⟩, ⟨(some 40), .lenS (.t 39), none⟩, ⟨(some 41), .bin .lss .no (.t 38) (.t 40), none⟩, ⟨(some 42), .mv (.t 41), none⟩, ⟨(some 43), .mv (.t 0), (some (42, true))⟩, ⟨(some 44), .mv (.t 7), (some (42, true))⟩, ⟨(some 45), .index (.t 43) (.t 44), (some (42, true))⟩, ⟨(some 46), .bin .neq .no (.t 45) (.c (.int .u8 10)), (some (42, true))⟩, ⟨(some 47), .pick (.t 42) (.t 46) (.c (.bool false)), none⟩])
      (.cond (.t 47)
        .skip
        (.exit 2)))
      (.block 3 (.reg [⟨(some 48), .mv (.t 7), none⟩, ⟨(some 49), .bin .add .no (.t 48) (.c (.int .i64 1)), none⟩, ⟨(some 7), .mv (.t 49), none⟩])))))
    (.reg [⟨(some 50), .mv (.t 7), none⟩, ⟨(some 51), .bin .add .no (.t 50) (.c (.int .i64 1)), none⟩, ⟨(some 7), .mv (.t 51), none⟩])))
   (.reg [⟨(some 36), .mv (.t 8), none⟩, ⟨(some 37), .bin .add .no (.t 36) (.c (.int .i64 1)), none⟩, ⟨(some 8), .mv (.t 37), none⟩]))))))
 (.seq (.reg [⟨(some 52), .mv (.t 7), none⟩, ⟨(some 53), .mv (.t 6), none⟩, ⟨(some 54), .bin .add .no (.t 52) (.t 53), none⟩, ⟨(some 55), .bin .sub .no (.t 54) (.c (.int .i64 1)), none⟩, ⟨(some 56), .mv (.t 1), none⟩, ⟨(some 57), .bin .eql .no (.t 55) (.t 56), none⟩, ⟨(some 4), .mv (.t 57), none⟩])
 .ret)))))), [.tmp 4]⟩
theorem c5 : compF Tryd.prog Tryd.f5 = some m5 := by kernel_rfl
/-- weirgate/weirgatelaw08.awake -/
def m6 : MFunc := ⟨39, (.seq (.reg [⟨(some 0), .mv (.c (.bool false)), none⟩])
 (.seq (.reg [⟨(some 6), .call (.c (.fn 7 [])) [(.c (.str [120, 49, 61, 61, 50]))], none⟩, ⟨(some 5), .mv (.t 6), none⟩, ⟨(some 7), .extract (.t 5) 0, none⟩, ⟨(some 8), .extract (.t 5) 1, none⟩, ⟨(some 2), .alloc [(.int .i64 0), (.int .i64 0)], none⟩, ⟨(some 1), .mv (.t 7), none⟩, ⟨none, .store 2 (.t 2) (.t 8), none⟩])
 (.seq (.reg [⟨(some 10), .call (.c (.fn 7 [])) [(.c (.str [97, 38, 98]))], none⟩, ⟨(some 9), .mv (.t 10), none⟩, ⟨(some 11), .extract (.t 9) 0, none⟩, ⟨(some 12), .extract (.t 9) 1, none⟩, ⟨(some 4), .alloc [(.int .i64 0), (.int .i64 0)], none⟩, ⟨(some 3), .mv (.t 11), none⟩, ⟨none, .store 2 (.t 4) (.t 12), none⟩])
 (.seq (.reg [⟨(some 13), .mv (.t 1), none⟩, ⟨(some 14), .len (.t 13), none⟩, ⟨(some 15), .bin .eql .no (.t 14) (.c (.int .i64 4)), none⟩, ⟨(some 16), .mv (.t 15), none⟩, ⟨(some 17), .mv (.t 1), (some (16, true))⟩, ⟨(some 18), .iaddr 3 (.t 17) (.c (.int .i64 1)), (some (16, true))⟩, ⟨(some 19), .faddr 1 (.t 18), (some (16, true))⟩, ⟨(some 20), .load none (.t 19), (some (16, true))⟩, ⟨(some 21), .bin .eql .no (.t 20) (.c (.str [61, 61])), (some (16, true))⟩, ⟨(some 22), .pick (.t 16) (.t 21) (.c (.bool false)), none⟩, ⟨(some 23), .mv (.t 22), none⟩, ⟨(some 24), .load (some 2) (.t 2), (some (23, true))⟩, ⟨(some 25), .build [(.int .i64 0), (.int .i64 0)] [], (some (23, true))⟩, ⟨(some 26), .bin .eql (.flat [.i, .i]) (.t 24) (.t 25), (some (23, true))⟩, ⟨(some 27), .pick (.t 23) (.t 26) (.c (.bool false)), none⟩, ⟨(some 28), .mv (.t 27), none⟩, ⟨(some 29), .load (some 2) (.t 4), (some (28, true))⟩, ⟨(some 30), .build [(.int .i64 0), (.int .i64 0)] [(0, 1, (.c (.int .i64 10))), (1, 1, (.c (.int .i64 1)))], (some (28, true))⟩, ⟨(some 31), .bin .eql (.flat [.i, .i]) (.t 29) (.t 30), (some (28, true))⟩, ⟨(some 32), .pick (.t 28) (.t 31) (.c (.bool false)), none⟩, ⟨(some 33), .mv (.t 32), none⟩, ⟨(some 34), .call (.c (.fn 8 [])) [(.c (.str [120, 49]))], (some (33, true))⟩, ⟨(some 35), .pick (.t 33) (.t 34) (.c (.bool false)), none⟩, ⟨(some 36), .mv (.t 35), none⟩, ⟨(some 37), .call (.c (.fn 11 [])) [(.c (.str [99, 104, 97, 110]))], (some (36, true))⟩, ⟨(some 38), .pick (.t 36) (.t 37) (.c (.bool false)), none⟩, ⟨(some 0), .mv (.t 38), none⟩])
 .ret)))), [.tmp 0]⟩
theorem c6 : compF Tryd.prog Tryd.f6 = some m6 := by kernel_rfl
/-- weirgate/lex.Tokens -/
def m7 : MFunc := ⟨50, (.seq (.reg [⟨(some 2), .mv (.c .nils), none⟩, ⟨(some 3), .alloc [(.int .i64 0), (.int .i64 0)], none⟩])
 (.seq (.seq (.reg [⟨(some 9), .mv (.t 0), none⟩, ⟨(some 10), .lenS (.t 9), none⟩, ⟨(some 11), .bin .gtr .no (.t 10) (.c (.int .i64 4000)), none⟩])
 (.cond (.t 11)
   (.seq (.reg [⟨(some 12), .build [(.int .i64 0), (.int .i64 0)] [(0, 1, (.c (.int .i64 12)))], none⟩, ⟨(some 2), .mv (.c .nils), none⟩, ⟨none, .store 2 (.t 3) (.t 12), none⟩])
   .ret)
   .skip))
 (.seq (.reg [⟨(some 4), .mv (.c .nils), none⟩])
 (.seq (.reg [⟨(some 13), .mv (.t 0), none⟩, ⟨(some 14), .call (.c (.fn 14 [])) [(.t 13), (.c (.int .i64 0))], none⟩, ⟨(some 5), .mv (.t 14), none⟩])
 (.seq (.block 0 (.loop (.seq (.seq (.reg [⟨(some 15), .mv (.t 5), none⟩, ⟨(some 16), .mv (.t 0), none⟩, ⟨(some 17), .lenS (.t 16), none⟩, ⟨(some 18), .bin .lss .no (.t 15) (.t 17), none⟩])
   (.cond (.t 18)
     .skip
     (.exit 0)))
   (.block 1 (.seq (.reg [⟨(some 20), .mv (.t 0), none⟩, ⟨(some 21), .mv (.t 5), none⟩, ⟨(some 22), .call (.c (.fn 15 [])) [(.t 20), (.t 21)], none⟩, ⟨(some 19), .mv (.t 22), none⟩, ⟨(some 23), .extract (.t 19) 0, none⟩, ⟨(some 24), .extract (.t 19) 1, none⟩, ⟨(some 25), .extract (.t 19) 2, none⟩, ⟨(some 6), .mv (.t 23), none⟩, ⟨(some 7), .mv (.t 24), none⟩, ⟨(some 8), .mv (.t 25), none⟩])
    (.seq (.seq (.reg [⟨(some 26), .mv (.t 8), none⟩, ⟨(some 27), .un .not (.t 26), none⟩])
    (.cond (.t 27)
      (.seq (.reg [⟨(some 28), .mv (.t 5), none⟩, ⟨(some 29), .build [(.int .i64 0), (.int .i64 0)] [(0, 1, (.c (.int .i64 10))), (1, 1, (.t 28))], none⟩, ⟨(some 2), .mv (.c .nils), none⟩, ⟨none, .store 2 (.t 3) (.t 29), none⟩])
      .ret)
      .skip))
    (.seq (.reg [⟨(some 30), .mv (.t 4), none⟩, ⟨(some 31), .mv (.t 7), none⟩, ⟨(some 32), .mv (.t 0), none⟩, ⟨(some 33), .mv (.t 5), none⟩, ⟨(some 34), .mv (.t 6), none⟩, ⟨(some 35), .cutS (.t 32) (some (.t 33)) (some (.t 34)), none⟩, ⟨(some 36), .mv (.t 5), none⟩, ⟨(some 37), .build [(.int .i64 0), (.str []), (.int .i64 0)] [(0, 1, (.t 31)), (1, 1, (.t 35)), (2, 1, (.t 36))], none⟩, ⟨(some 38), .bslice 3 1 [(.int .i64 0), (.str []), (.int .i64 0)] [(0, 3, (.t 37))], none⟩, ⟨(some 39), .append 3 32 (.t 30) (.t 38), none⟩, ⟨(some 4), .mv (.t 39), none⟩])
    (.reg [⟨(some 40), .mv (.t 0), none⟩, ⟨(some 41), .mv (.t 6), none⟩, ⟨(some 42), .call (.c (.fn 14 [])) [(.t 40), (.t 41)], none⟩, ⟨(some 5), .mv (.t 42), none⟩]))))))))
 (.seq (.reg [⟨(some 43), .mv (.t 4), none⟩, ⟨(some 44), .mv (.t 0), none⟩, ⟨(some 45), .lenS (.t 44), none⟩, ⟨(some 46), .build [(.int .i64 0), (.str []), (.int .i64 0)] [(0, 1, (.c (.int .i64 3))), (2, 1, (.t 45))], none⟩, ⟨(some 47), .bslice 3 1 [(.int .i64 0), (.str []), (.int .i64 0)] [(0, 3, (.t 46))], none⟩, ⟨(some 48), .append 3 32 (.t 43) (.t 47), none⟩, ⟨(some 49), .build [(.int .i64 0), (.int .i64 0)] [], none⟩, ⟨(some 2), .mv (.t 48), none⟩, ⟨none, .store 2 (.t 3) (.t 49), none⟩])
 .ret)))))), [.tmp 2, .cell 3 (some 2)]⟩
theorem c7 : compF Tryd.prog Tryd.f7 = some m7 := by kernel_rfl
/-- weirgate/lex.Name -/
def m8 : MFunc := ⟨29, (.seq (.reg [⟨(some 2), .mv (.c (.bool false)), none⟩])
 (.seq (.reg [⟨(some 3), .mv (.t 0), none⟩, ⟨(some 4), .bin .neq .no (.t 3) (.c (.str [])), none⟩, ⟨(some 5), .mv (.t 4), none⟩, ⟨(some 6), .mv (.t 0), (some (5, true))⟩, ⟨(some 7), .lenS (.t 6), (some (5, true))⟩, ⟨(some 8), .bin .leq .no (.t 7) (.c (.int .i64 12)), (some (5, true))⟩, ⟨(some 9), .pick (.t 5) (.t 8) (.c (.bool false)), none⟩, ⟨(some 10), .mv (.t 9), none⟩, ⟨(some 11), .mv (.t 0), (some (10, true))⟩, ⟨(some 12), .index (.t 11) (.c (.int .i64 0)), (some (10, true))⟩, ⟨(some 13), .call (.c (.fn 16 [])) [(.t 12)], (some (10, true))⟩, ⟨(some 14), .bin .eql .no (.t 13) (.c (.int .i64 2)), (some (10, true))⟩, ⟨(some 15), .pick (.t 10) (.t 14) (.c (.bool false)), none⟩, ⟨(some 16), .mv (.t 15), none⟩, ⟨(some 17), .mv (.t 0), (some (16, true))⟩, ⟨(some 18), .bslice 1 3 [(.int .i64 0)] [(0, 1, (.c (.int .i64 2))), (1, 1, (.c (.int .i64 3))), (2, 1, (.c (.int .i64 4)))], (some (16, true))⟩, ⟨(some 19), .call (.c (.fn 17 [])) [(.t 17), (.c (.int .i64 0)), (.t 18)], (some (16, true))⟩, ⟨(some 20), .mv (.t 0), (some (16, true))⟩, ⟨(some 21), .lenS (.t 20), (some (16, true))⟩, ⟨(some 22), .bin .eql .no (.t 19) (.t 21), (some (16, true))⟩, ⟨(some 23), .pick (.t 16) (.t 22) (.c (.bool false)), none⟩, ⟨(some 24), .mv (.t 23), none⟩, ⟨(some 25), .mv (.t 0), (some (24, true))⟩, ⟨(some 26), .call (.c (.fn 11 [])) [(.t 25)], (some (24, true))⟩, ⟨(some 27), .un .not (.t 26), (some (24, true))⟩, ⟨(some 28), .pick (.t 24) (.t 27) (.c (.bool false)), none⟩, ⟨(some 2), .mv (.t 28), none⟩])
 .ret)), [.tmp 2]⟩
theorem c8 : compF Tryd.prog Tryd.f8 = some m8 := by kernel_rfl
/-- weirgate/lex.Place -/
def m9 : MFunc := ⟨21, (.seq (.reg [⟨(some 4), .mv (.c (.int .i64 0)), none⟩, ⟨(some 5), .mv (.c (.int .i64 0)), none⟩])
 (.seq (.reg [⟨(some 6), .mv (.t 0), none⟩, ⟨(some 7), .mv (.t 1), none⟩, ⟨(some 8), .minmax true [(.t 7), (.c (.int .i64 0))], none⟩, ⟨(some 9), .mv (.t 0), none⟩, ⟨(some 10), .lenS (.t 9), none⟩, ⟨(some 11), .minmax false [(.t 8), (.t 10)], none⟩, ⟨(some 12), .cutS (.t 6) none (some (.t 11)), none⟩, ⟨(some 0), .mv (.t 12), none⟩])
 (.seq (.reg [⟨(some 13), .mv (.t 0), none⟩, ⟨(some 14), .call (.c (.fn 18 [])) [(.t 13), (.c (.str [10]))], none⟩, ⟨(some 15), .bin .add .no (.c (.int .i64 1)) (.t 14), none⟩, ⟨(some 16), .mv (.t 0), none⟩, ⟨(some 17), .lenS (.t 16), none⟩, ⟨(some 18), .mv (.t 0), none⟩, ⟨(some 19), .call (.c (.fn 19 [])) [(.t 18), (.c (.int .u8 10))], none⟩, ⟨(some 20), .bin .sub .no (.t 17) (.t 19), none⟩, ⟨(some 4), .mv (.t 15), none⟩, ⟨(some 5), .mv (.t 20), none⟩])
 .ret))), [.tmp 4, .tmp 5]⟩
theorem c9 : compF Tryd.prog Tryd.f9 = some m9 := by kernel_rfl
/-- weirgate/weirgateref08.Place -/
def m10 : MFunc := ⟨30, (.seq (.reg [⟨(some 4), .mv (.c (.int .i64 0)), none⟩, ⟨(some 5), .mv (.c (.int .i64 0)), none⟩])
 (.seq (.reg [⟨(some 6), .mv (.c (.int .i64 1)), none⟩, ⟨(some 7), .mv (.c (.int .i64 1)), none⟩])
 (.seq (.seq (.reg [⟨(some 8), .mv (.c (.int .i64 0)), none⟩])
 (.block 0 (.loop (.seq (.seq (.reg [⟨(some 9), .mv (.t 8), none⟩, ⟨(some 10), .mv (.t 1), none⟩, ⟨(some 11), .bin .lss .no (.t 9) (.t 10), none⟩, ⟨(some 12), .mv (.t 11), none⟩, ⟨(some 13), .mv (.t 8), (some (12, true))⟩, ⟨(some 14), .mv (.t 0), (some (12, true))⟩, ⟨(some 15), .lenS (.t 14), (some (12, true))⟩, ⟨(some 16), .bin .lss .no (.t 13) (.t 15), (some (12, true))⟩, ⟨(some 17), .pick (.t 12) (.t 16) (.c (.bool false)), none⟩])
   (.cond (.t 17)
     .skip
     (.exit 0)))
   (.seq (.block 1 (.seq (.reg [⟨(some 20), .mv (.t 7), none⟩, ⟨(some 21), .bin .add .no (.t 20) (.c (.int .i64 1)), none⟩, ⟨(some 7), .mv (.t 21), none⟩])
    (.seq (.reg [⟨(some 22), .mv (.t 0), none⟩, ⟨(some 23), .mv (.t 8), none⟩, ⟨(some 24), .index (.t 22) (.t 23), none⟩, ⟨(some 25), .bin .eql .no (.t 24) (.c (.int .u8 10)), none⟩])
    (.cond (.t 25)
      (.seq (.reg [⟨(some 26), .mv (.t 6), none⟩, ⟨(some 27), .bin .add .no (.t 26) (.c (.int .i64 1)), none⟩, ⟨(some 6), .mv (.t 27), none⟩])
      (.reg [⟨(some 7), .mv (.c (.int .i64 1)), none⟩]))
      .skip))))
   (.reg [⟨(some 18), .mv (.t 8), none⟩, ⟨(some 19), .bin .add .no (.t 18) (.c (.int .i64 1)), none⟩, ⟨(some 8), .mv (.t 19), none⟩]))))))
 (.seq (.reg [⟨(some 28), .mv (.t 6), none⟩, ⟨(some 29), .mv (.t 7), none⟩, ⟨(some 4), .mv (.t 28), none⟩, ⟨(some 5), .mv (.t 29), none⟩])
 .ret)))), [.tmp 4, .tmp 5]⟩
theorem c10 : compF Tryd.prog Tryd.f10 = some m10 := by kernel_rfl
/-- weirgate/lex.Key -/
def m11 : MFunc := ⟨6, (.seq (.reg [⟨(some 2), .mv (.c (.bool false)), none⟩])
 (.seq (.reg [⟨(some 3), .call (.c (.fn 21 [])) [], none⟩, ⟨(some 4), .mv (.t 0), none⟩, ⟨(some 5), .call (.c (.fn 20 [])) [(.t 3), (.t 4)], none⟩, ⟨(some 2), .mv (.t 5), none⟩])
 .ret)), [.tmp 2]⟩
theorem c11 : compF Tryd.prog Tryd.f11 = some m11 := by kernel_rfl
/-- weirgate/weirgateref08.Key -/
def m12 : MFunc := ⟨18, (.seq (.reg [⟨(some 2), .mv (.c (.bool false)), none⟩])
 (.seq (.reg [⟨(some 5), .bslice 1 21 [(.str [])] [(0, 1, (.c (.str [99, 104, 97, 110]))), (1, 1, (.c (.str [111, 102]))), (2, 1, (.c (.str [108, 111, 115, 115, 121]))), (3, 1, (.c (.str [99, 111, 112, 121, 105, 110, 103]))), (4, 1, (.c (.str [118, 97, 114]))), (5, 1, (.c (.str [112, 114, 111, 99]))), (6, 1, (.c (.str [115, 97, 102, 101]))), (7, 1, (.c (.str [100, 101, 97, 100, 108, 111, 99, 107]))), (8, 1, (.c (.str [115, 101, 110, 100]))), (9, 1, (.c (.str [114, 101, 99, 118]))), (10, 1, (.c (.str [105, 100, 108, 101]))), (11, 1, (.c (.str [119, 104, 101, 110]))), (12, 1, (.c (.str [99, 104, 111, 111, 115, 101]))), (13, 1, (.c (.str [111, 114]))), (14, 1, (.c (.str [105, 102]))), (15, 1, (.c (.str [101, 108, 115, 101]))), (16, 1, (.c (.str [119, 104, 105, 108, 101]))), (17, 1, (.c (.str [97, 116, 111, 109, 105, 99]))), (18, 1, (.c (.str [115, 107, 105, 112]))), (19, 1, (.c (.str [115, 116, 111, 112]))), (20, 1, (.c (.str [108, 101, 110])))], none⟩, ⟨(some 3), .mv (.t 5), none⟩])
 (.seq (.seq (.reg [⟨(some 4), .mv (.c (.int .i64 0)), none⟩])
 (.block 0 (.loop (.seq (.seq (.reg [⟨(some 6), .mv (.t 4), none⟩, ⟨(some 7), .mv (.t 3), none⟩, ⟨(some 8), .len (.t 7), none⟩, ⟨(some 9), .bin .lss .no (.t 6) (.t 8), none⟩])
   (.cond (.t 9)
     .skip
     (.exit 0)))
   (.seq (.block 1 (.seq (.reg [⟨(some 12), .mv (.t 3), none⟩, ⟨(some 13), .mv (.t 4), none⟩, ⟨(some 14), .iaddr 1 (.t 12) (.t 13), none⟩, ⟨(some 15), .load none (.t 14), none⟩, ⟨(some 16), .mv (.t 0), none⟩, ⟨(some 17), .bin .eql .no (.t 15) (.t 16), none⟩])
    (.cond (.t 17)
      (.seq (.reg [⟨(some 2), .mv (.c (.bool true)), none⟩])
      .ret)
      .skip)))
   (.reg [⟨(some 10), .mv (.t 4), none⟩, ⟨(some 11), .bin .add .no (.t 10) (.c (.int .i64 1)), none⟩, ⟨(some 4), .mv (.t 11), none⟩]))))))
 (.seq (.reg [⟨(some 2), .mv (.c (.bool false)), none⟩])
 .ret)))), [.tmp 2]⟩
theorem c12 : compF Tryd.prog Tryd.f12 = some m12 := by kernel_rfl
/-- weirgate/weirgateref08.Name -/
def m13 : MFunc := ⟨33, (.seq (.reg [⟨(some 2), .mv (.c (.bool false)), none⟩])
 (.seq (.seq (.reg [⟨(some 4), .mv (.t 0), none⟩, ⟨(some 5), .lenS (.t 4), none⟩, ⟨(some 6), .bin .eql .no (.t 5) (.c (.int .i64 0)), none⟩, ⟨(some 7), .mv (.t 6), none⟩, ⟨(some 8), .mv (.t 0), (some (7, false))⟩, ⟨(some 9), .lenS (.t 8), (some (7, false))⟩, ⟨(some 10), .bin .gtr .no (.t 9) (.c (.int .i64 12)), (some (7, false))⟩, ⟨(some 11), .pick (.t 7) (.c (.bool true)) (.t 10), none⟩, ⟨(some 12), .mv (.t 11), none⟩, ⟨(some 13), .mv (.t 0), (some (12, false))⟩, ⟨(some 14), .index (.t 13) (.c (.int .i64 0)), (some (12, false))⟩, ⟨(some 15), .call (.c (.fn 22 [])) [(.t 14)], (some (12, false))⟩, ⟨(some 16), .un .not (.t 15), (some (12, false))⟩, ⟨(some 17), .pick (.t 12) (.c (.bool true)) (.t 16), none⟩, ⟨(some 18), .mv (.t 17), none⟩, ⟨(some 19), .mv (.t 0), (some (18, false))⟩, ⟨(some 20), .call (.c (.fn 12 [])) [(.t 19)], (some (18, false))⟩, ⟨(some 21), .pick (.t 18) (.c (.bool true)) (.t 20), none⟩])
 (.cond (.t 21)
   (.seq (.reg [⟨(some 2), .mv (.c (.bool false)), none⟩])
   .ret)
   .skip))
 (.seq (.seq (.reg [⟨(some 3), .mv (.c (.int .i64 0)), none⟩])
 (.block 0 (.loop (.seq (.seq (.reg [⟨(some 22), .mv (.t 3), none⟩, ⟨(some 23), .mv (.t 0), none⟩, ⟨(some 24), .lenS (.t 23), none⟩, ⟨(some 25), .bin .lss .no (.t 22) (.t 24), none⟩])
   (.cond (.t 25)
     .skip
     (.exit 0)))
   (.seq (.block 1 (.seq (.reg [⟨(some 28), .mv (.t 0), none⟩, ⟨(some 29), .mv (.t 3), none⟩, ⟨(some 30), .index (.t 28) (.t 29), none⟩, ⟨(some 31), .call (.c (.fn 23 [])) [(.t 30)], none⟩, ⟨(some 32), .un .not (.t 31), none⟩])
    (.cond (.t 32)
      (.seq (.reg [⟨(some 2), .mv (.c (.bool false)), none⟩])
      .ret)
      .skip)))
   (.reg [⟨(some 26), .mv (.t 3), none⟩, ⟨(some 27), .bin .add .no (.t 26) (.c (.int .i64 1)), none⟩, ⟨(some 3), .mv (.t 27), none⟩]))))))
 (.seq (.reg [⟨(some 2), .mv (.c (.bool true)), none⟩])
 .ret)))), [.tmp 2]⟩
theorem c13 : compF Tryd.prog Tryd.f13 = some m13 := by kernel_rfl
/-- weirgate/lex.skip -/
def m14 : MFunc := ⟨31, (.seq (.reg [⟨(some 4), .mv (.c (.int .i64 0)), none⟩])
 (.block 0 (.loop (.block 1 (.seq (.reg [⟨(some 7), .mv (.t 0), none⟩, ⟨(some 8), .mv (.t 1), none⟩, ⟨(some 9), .bslice 1 1 [(.int .i64 0)] [(0, 1, (.c (.int .i64 1)))], none⟩, ⟨(some 10), .call (.c (.fn 17 [])) [(.t 7), (.t 8), (.t 9)], none⟩, ⟨(some 5), .mv (.t 10), none⟩])
    (.seq (.seq (.reg [⟨(some 11), .mv (.t 0), none⟩, ⟨(some 12), .mv (.t 5), none⟩, ⟨(some 13), .cutS (.t 11) (some (.t 12)) none, none⟩, ⟨(some 14), .call (.c (.fn 24 [])) [(.t 13), (.c (.str [47, 47]))], none⟩])
    (.cond (.t 14)
      (.seq (.reg [⟨(some 15), .mv (.t 0), none⟩, ⟨(some 16), .mv (.t 5), none⟩, ⟨(some 17), .cutS (.t 15) (some (.t 16)) none, none⟩, ⟨(some 18), .call (.c (.fn 25 [])) [(.t 17), (.c (.int .u8 10))], none⟩, ⟨(some 6), .mv (.t 18), none⟩])
      (.seq (.reg [⟨(some 19), .mv (.t 6), none⟩, ⟨(some 20), .bin .geq .no (.t 19) (.c (.int .i64 0)), none⟩])
      (.cond (.t 20)
        (.reg [⟨(some 21), .mv (.t 5), none⟩, ⟨(some 22), .mv (.t 6), none⟩, ⟨(some 23), .bin .add .no (.t 21) (.t 22), none⟩, ⟨(some 5), .mv (.t 23), none⟩])
        (.reg [⟨(some 24), .mv (.t 0), none⟩, ⟨(some 25), .lenS (.t 24), none⟩, ⟨(some 5), .mv (.t 25), none⟩]))))
      .skip))
    (.seq (.seq (.reg [⟨(some 26), .mv (.t 5), none⟩, ⟨(some 27), .mv (.t 1), none⟩, ⟨(some 28), .bin .eql .no (.t 26) (.t 27), none⟩])
    (.cond (.t 28)
      (.seq (.reg [⟨(some 29), .mv (.t 1), none⟩, ⟨(some 4), .mv (.t 29), none⟩])
      .ret)
      .skip))
    (.reg [⟨(some 30), .mv (.t 5), none⟩, ⟨(some 1), .mv (.t 30), none⟩])))))))), [.tmp 4]⟩
theorem c14 : compF Tryd.prog Tryd.f14 = some m14 := by kernel_rfl
/-- weirgate/lex.end -/
def m15 : MFunc := ⟨50, (.seq (.reg [⟨(some 4), .mv (.c (.int .i64 0)), none⟩, ⟨(some 5), .mv (.c (.int .i64 0)), none⟩, ⟨(some 6), .mv (.c (.bool false)), none⟩])
 (.seq (.seq (.reg [⟨(some 10), .build [(.str []), (.str []), (.str [])] [(0, 1, (.c (.str [61, 61]))), (1, 1, (.c (.str [38, 38]))), (2, 1, (.c (.str [124, 124])))], none⟩, ⟨(some 11), .mv (.c (.int .i64 0)), none⟩])
 (.block 0 (.loop (.seq (.reg [⟨(some 12), .bin .lss .no (.t 11) (.c (.int .i64 3)), none⟩])
   (.seq (.cond (.t 12)
     .skip
     (.exit 0))
   (.seq (.block 1 (.seq (.reg [⟨(some 13), .idxA 3 none 1 (.t 10) (.t 11), none⟩, ⟨(some 8), .mv (.t 13), none⟩])
    (.seq (.reg [⟨(some 14), .mv (.t 0), none⟩, ⟨(some 15), .mv (.t 1), none⟩, ⟨(some 16), .cutS (.t 14) (some (.t 15)) none, none⟩, ⟨(some 17), .mv (.t 8), none⟩, ⟨(some 18), .call (.c (.fn 24 [])) [(.t 16), (.t 17)], none⟩])
    (.cond (.t 18)
      (.seq (.reg [⟨(some 19), .mv (.t 1), none⟩, ⟨(some 20), .mv (.t 8), none⟩, ⟨(some 21), .lenS (.t 20), none⟩, ⟨(some 22), .bin .add .no (.t 19) (.t 21), none⟩, ⟨(some 4), .mv (.t 22), none⟩, ⟨(some 5), .mv (.c (.int .i64 2)), none⟩, ⟨(some 6), .mv (.c (.bool true)), none⟩])
      .ret)
      .skip))))
   (.reg [⟨(some 23), .bin .add .no (.t 11) (.c (.int .i64 1)), none⟩, ⟨(some 11), .mv (.t 23), none⟩])))))))
 (.seq (.seq (.reg [⟨(some 24), .mv (.t 0), none⟩, ⟨(some 25), .mv (.t 1), none⟩, ⟨(some 26), .index (.t 24) (.t 25), none⟩, ⟨(some 27), .call (.c (.fn 16 [])) [(.t 26)], none⟩])
 (.block 2 (.seq (.reg [⟨(some 29), .bin .eql .no (.t 27) (.c (.int .i64 2)), none⟩, ⟨(some 28), .mv (.t 29), none⟩])
  (.cond (.t 28)
    (.seq (.reg [⟨(some 30), .mv (.t 0), none⟩, ⟨(some 31), .mv (.t 1), none⟩, ⟨(some 32), .bslice 1 3 [(.int .i64 0)] [(0, 1, (.c (.int .i64 2))), (1, 1, (.c (.int .i64 3))), (2, 1, (.c (.int .i64 4)))], none⟩, ⟨(some 33), .call (.c (.fn 17 [])) [(.t 30), (.t 31), (.t 32)], none⟩, ⟨(some 4), .mv (.t 33), none⟩, ⟨(some 5), .mv (.c (.int .i64 0)), none⟩, ⟨(some 6), .mv (.c (.bool true)), none⟩])
    .ret)
    (.seq (.reg [⟨(some 35), .bin .eql .no (.t 27) (.c (.int .i64 3)), none⟩, ⟨(some 34), .mv (.t 35), none⟩])
    (.cond (.t 34)
      (.seq (.reg [⟨(some 36), .mv (.t 0), none⟩, ⟨(some 37), .mv (.t 1), none⟩, ⟨(some 38), .bslice 1 1 [(.int .i64 0)] [(0, 1, (.c (.int .i64 3)))], none⟩, ⟨(some 39), .call (.c (.fn 17 [])) [(.t 36), (.t 37), (.t 38)], none⟩, ⟨(some 9), .mv (.t 39), none⟩])
      (.seq (.reg [⟨(some 40), .mv (.t 9), none⟩, ⟨(some 41), .mv (.t 9), none⟩, ⟨(some 42), .mv (.t 1), none⟩, ⟨(some 43), .bin .sub .no (.t 41) (.t 42), none⟩, ⟨(some 44), .bin .leq .no (.t 43) (.c (.int .i64 6)), none⟩, ⟨(some 4), .mv (.t 40), none⟩, ⟨(some 5), .mv (.c (.int .i64 1)), none⟩, ⟨(some 6), .mv (.t 44), none⟩])
      .ret))
      (.seq (.reg [⟨(some 46), .bin .eql .no (.t 27) (.c (.int .i64 5)), none⟩, ⟨(some 45), .mv (.t 46), none⟩])
      (.cond (.t 45)
        (.seq (.reg [⟨(some 47), .mv (.t 1), none⟩, ⟨(some 48), .bin .add .no (.t 47) (.c (.int .i64 1)), none⟩, ⟨(some 4), .mv (.t 48), none⟩, ⟨(some 5), .mv (.c (.int .i64 2)), none⟩, ⟨(some 6), .mv (.c (.bool true)), none⟩])
        .ret)
        .skip))))))))
 (.seq (.reg [⟨(some 49), .mv (.t 1), none⟩, ⟨(some 4), .mv (.t 49), none⟩, ⟨(some 5), .mv (.c (.int .i64 0)), none⟩, ⟨(some 6), .mv (.c (.bool false)), none⟩])
 .ret)))), [.tmp 4, .tmp 5, .tmp 6]⟩
theorem c15 : compF Tryd.prog Tryd.f15 = some m15 := by kernel_rfl
/-- weirgate/lex.classOf -/
def m16 : MFunc := ⟨39, (.seq (.reg [⟨(some 2), .mv (.c (.int .i64 0)), none⟩])
 (.seq (.block 0 (.seq (.seq (.reg [⟨(some 4), .mv (.t 0), none⟩, ⟨(some 5), .bin .eql .no (.t 4) (.c (.int .u8 32)), none⟩, ⟨(some 3), .mv (.t 5), none⟩])
  (.cond (.t 3)
    .skip
    (.seq (.reg [⟨(some 6), .mv (.t 0), none⟩, ⟨(some 7), .bin .eql .no (.t 6) (.c (.int .u8 9)), none⟩, ⟨(some 3), .mv (.t 7), none⟩])
    (.cond (.t 3)
      .skip
      (.seq (.reg [⟨(some 8), .mv (.t 0), none⟩, ⟨(some 9), .bin .eql .no (.t 8) (.c (.int .u8 13)), none⟩, ⟨(some 3), .mv (.t 9), none⟩])
      (.cond (.t 3)
        .skip
        (.reg [⟨(some 10), .mv (.t 0), none⟩, ⟨(some 11), .bin .eql .no (.t 10) (.c (.int .u8 10)), none⟩, ⟨(some 3), .mv (.t 11), none⟩])))))))
  (.cond (.t 3)
    (.seq (.reg [⟨(some 2), .mv (.c (.int .i64 1)), none⟩])
    .ret)
    (.seq (.seq (.reg [⟨(some 13), .mv (.t 0), none⟩, ⟨(some 14), .bin .leq .no (.c (.int .u8 97)) (.t 13), none⟩, ⟨(some 15), .mv (.t 14), none⟩, ⟨(some 16), .mv (.t 0), (some (15, true))⟩, ⟨(some 17), .bin .leq .no (.t 16) (.c (.int .u8 122)), (some (15, true))⟩, ⟨(some 18), .pick (.t 15) (.t 17) (.c (.bool false)), none⟩, ⟨(some 12), .mv (.t 18), none⟩])
    (.cond (.t 12)
      .skip
      (.reg [⟨(some 19), .mv (.t 0), none⟩, ⟨(some 20), .bin .leq .no (.c (.int .u8 65)) (.t 19), none⟩, ⟨(some 21), .mv (.t 20), none⟩, ⟨(some 22), .mv (.t 0), (some (21, true))⟩, ⟨(some 23), .bin .leq .no (.t 22) (.c (.int .u8 90)), (some (21, true))⟩, ⟨(some 24), .pick (.t 21) (.t 23) (.c (.bool false)), none⟩, ⟨(some 12), .mv (.t 24), none⟩])))
    (.cond (.t 12)
      (.seq (.reg [⟨(some 2), .mv (.c (.int .i64 2)), none⟩])
      .ret)
      (.seq (.reg [⟨(some 26), .mv (.t 0), none⟩, ⟨(some 27), .bin .leq .no (.c (.int .u8 48)) (.t 26), none⟩, ⟨(some 28), .mv (.t 27), none⟩, ⟨(some 29), .mv (.t 0), (some (28, true))⟩, ⟨(some 30), .bin .leq .no (.t 29) (.c (.int .u8 57)), (some (28, true))⟩, ⟨(some 31), .pick (.t 28) (.t 30) (.c (.bool false)), none⟩, ⟨(some 25), .mv (.t 31), none⟩])
      (.cond (.t 25)
        (.seq (.reg [⟨(some 2), .mv (.c (.int .i64 3)), none⟩])
        .ret)
        (.seq (.reg [⟨(some 33), .mv (.t 0), none⟩, ⟨(some 34), .bin .eql .no (.t 33) (.c (.int .u8 95)), none⟩, ⟨(some 32), .mv (.t 34), none⟩])
        (.cond (.t 32)
          (.seq (.reg [⟨(some 2), .mv (.c (.int .i64 4)), none⟩])
          .ret)
          (.seq (.reg [⟨(some 36), .mv (.t 0), none⟩, ⟨(some 37), .call (.c (.fn 25 [])) [(.c (.str [123, 125, 91, 93, 40, 41, 59, 61, 60, 43, 45, 42, 47, 37, 33])), (.t 36)], none⟩, ⟨(some 38), .bin .geq .no (.t 37) (.c (.int .i64 0)), none⟩, ⟨(some 35), .mv (.t 38), none⟩])
          (.cond (.t 35)
            (.seq (.reg [⟨(some 2), .mv (.c (.int .i64 5)), none⟩])
            .ret)
            .skip)))))))))))
 (.seq (.reg [⟨(some 2), .mv (.c (.int .i64 0)), none⟩])
 .ret))), [.tmp 2]⟩
theorem c16 : compF Tryd.prog Tryd.f16 = some m16 := by kernel_rfl
/-- weirgate/lex.behind -/
def m17 : MFunc := ⟨22, (.seq (.reg [⟨(some 6), .mv (.c (.int .i64 0)), none⟩])
 (.seq (.block 0 (.loop (.seq (.seq (.reg [⟨(some 7), .mv (.t 1), none⟩, ⟨(some 8), .mv (.t 0), none⟩, ⟨(some 9), .lenS (.t 8), none⟩, ⟨(some 10), .bin .lss .no (.t 7) (.t 9), none⟩, ⟨(some 11), .mv (.t 10), none⟩, ⟨(some 12), .mv (.t 2), (some (11, true))⟩, ⟨(some 13), .mv (.t 0), (some (11, true))⟩, ⟨(some 14), .mv (.t 1), (some (11, true))⟩, ⟨(some 15), .index (.t 13) (.t 14), (some (11, true))⟩, ⟨(some 16), .call (.c (.fn 16 [])) [(.t 15)], (some (11, true))⟩, ⟨(some 17), .call (.c (.fn 26 [])) [(.t 12), (.t 16)], (some (11, true))⟩, ⟨(some 18), .pick (.t 11) (.t 17) (.c (.bool false)), none⟩])
   (.cond (.t 18)
     .skip
     (.exit 0)))
   (.block 1 (.reg [⟨(some 19), .mv (.t 1), none⟩, ⟨(some 20), .bin .add .no (.t 19) (.c (.int .i64 1)), none⟩, ⟨(some 1), .mv (.t 20), none⟩])))))
 (.seq (.reg [⟨(some 21), .mv (.t 1), none⟩, ⟨(some 6), .mv (.t 21), none⟩])
 .ret))), [.tmp 6]⟩
theorem c17 : compF Tryd.prog Tryd.f17 = some m17 := by kernel_rfl
/-- strings.Count -/
def m18 : MFunc := ⟨34, (.seq (.reg [⟨(some 4), .mv (.c (.int .i64 0)), none⟩])
 (.seq (.seq (.reg [⟨(some 7), .mv (.t 1), none⟩, ⟨(some 8), .lenS (.t 7), none⟩, ⟨(some 9), .bin .eql .no (.t 8) (.c (.int .i64 0)), none⟩])
 (.cond (.t 9)
   (.seq (.reg [⟨(some 10), .mv (.t 0), none⟩, ⟨(some 11), .call (.c (.fn 27 [])) [(.t 10)], none⟩, ⟨(some 12), .bin .add .no (.t 11) (.c (.int .i64 1)), none⟩, ⟨(some 4), .mv (.t 12), none⟩])
   .ret)
   .skip))
 (.seq (.seq (.reg [⟨(some 13), .mv (.t 1), none⟩, ⟨(some 14), .lenS (.t 13), none⟩, ⟨(some 15), .bin .eql .no (.t 14) (.c (.int .i64 1)), none⟩])
 (.cond (.t 15)
   (.seq (.reg [⟨(some 16), .mv (.t 0), none⟩, ⟨(some 17), .mv (.t 1), none⟩, ⟨(some 18), .index (.t 17) (.c (.int .i64 0)), none⟩, ⟨(some 19), .cntB (.t 16) (.t 18), none⟩, ⟨(some 4), .mv (.t 19), none⟩])
   .ret)
   .skip))
 (.seq (.reg [⟨(some 5), .mv (.c (.int .i64 0)), none⟩])
 (.block 0 (.loop (.block 1 (.seq (.reg [⟨(some 20), .mv (.t 0), none⟩, ⟨(some 21), .mv (.t 1), none⟩, ⟨(some 22), .call (.c (.fn 29 [])) [(.t 20), (.t 21)], none⟩, ⟨(some 6), .mv (.t 22), none⟩])
    (.seq (.seq (.reg [⟨(some 23), .mv (.t 6), none⟩, ⟨(some 24), .bin .eql .no (.t 23) (.c (.int .i64 (-1))), none⟩])
    (.cond (.t 24)
      (.seq (.reg [⟨(some 25), .mv (.t 5), none⟩, ⟨(some 4), .mv (.t 25), none⟩])
      .ret)
      .skip))
    (.seq (.reg [⟨(some 26), .mv (.t 5), none⟩, ⟨(some 27), .bin .add .no (.t 26) (.c (.int .i64 1)), none⟩, ⟨(some 5), .mv (.t 27), none⟩])
    (.reg [⟨(some 28), .mv (.t 0), none⟩, ⟨(some 29), .mv (.t 6), none⟩, ⟨(some 30), .mv (.t 1), none⟩, ⟨(some 31), .lenS (.t 30), none⟩, ⟨(some 32), .bin .add .no (.t 29) (.t 31), none⟩, ⟨(some 33), .cutS (.t 28) (some (.t 32)) none, none⟩, ⟨(some 0), .mv (.t 33), none⟩]))))))))))), [.tmp 4]⟩
theorem c18 : compF Tryd.prog Tryd.f18 = some m18 := by kernel_rfl
/-- strings.LastIndexByte -/
def m19 : MFunc := ⟨8, (.seq (.reg [⟨(some 4), .mv (.c (.int .i64 0)), none⟩])
 (.seq (.reg [⟨(some 5), .mv (.t 0), none⟩, ⟨(some 6), .mv (.t 1), none⟩, ⟨(some 7), .call (.c (.fn 30 [])) [(.t 5), (.t 6)], none⟩, ⟨(some 4), .mv (.t 7), none⟩])
 .ret)), [.tmp 4]⟩
theorem c19 : compF Tryd.prog Tryd.f19 = some m19 := by kernel_rfl
/-- slices.Contains[[]string,string] -/
def m20 : MFunc := ⟨9, (.seq (.reg [⟨(some 4), .mv (.c (.bool false)), none⟩])
 (.seq (.reg [⟨(some 5), .mv (.t 0), none⟩, ⟨(some 6), .mv (.t 1), none⟩, ⟨(some 7), .call (.c (.fn 31 [])) [(.t 5), (.t 6)], none⟩, ⟨(some 8), .bin .geq .no (.t 7) (.c (.int .i64 0)), none⟩, ⟨(some 4), .mv (.t 8), none⟩])
 .ret)), [.tmp 4]⟩
theorem c20 : compF Tryd.prog Tryd.f20 = some m20 := by kernel_rfl
/-- weirgate/lex.keys -/
def m21 : MFunc := ⟨2, (.seq (.reg [⟨(some 0), .mv (.c .nils), none⟩])
 (.seq (.reg [⟨(some 1), .call (.c (.fn 32 [])) [(.c (.str [99, 104, 97, 110, 32, 111, 102, 32, 108, 111, 115, 115, 121, 32, 99, 111, 112, 121, 105, 110, 103, 32, 118, 97, 114, 32, 112, 114, 111, 99, 32, 115, 97, 102, 101, 32, 100, 101, 97, 100, 108, 111, 99, 107, 32, 115, 101, 110, 100, 32, 114, 101, 99, 118, 32, 105, 100, 108, 101, 32, 119, 104, 101, 110, 32, 99, 104, 111, 111, 115, 101, 32, 111, 114, 32, 105, 102, 32, 101, 108, 115, 101, 32, 119, 104, 105, 108, 101, 32, 97, 116, 111, 109, 105, 99, 32, 115, 107, 105, 112, 32, 115, 116, 111, 112, 32, 108, 101, 110]))], none⟩, ⟨(some 0), .mv (.t 1), none⟩])
 .ret)), [.tmp 0]⟩
theorem c21 : compF Tryd.prog Tryd.f21 = some m21 := by kernel_rfl
/-- weirgate/weirgateref08.letter -/
def m22 : MFunc := ⟨17, (.seq (.reg [⟨(some 2), .mv (.c (.bool false)), none⟩])
 (.seq (.reg [⟨(some 3), .mv (.t 0), none⟩, ⟨(some 4), .bin .geq .no (.t 3) (.c (.int .u8 65)), none⟩, ⟨(some 5), .mv (.t 4), none⟩, ⟨(some 6), .mv (.t 0), (some (5, true))⟩, ⟨(some 7), .bin .leq .no (.t 6) (.c (.int .u8 90)), (some (5, true))⟩, ⟨(some 8), .pick (.t 5) (.t 7) (.c (.bool false)), none⟩, ⟨(some 9), .mv (.t 8), none⟩, ⟨(some 10), .mv (.t 0), (some (9, false))⟩, ⟨(some 11), .bin .geq .no (.t 10) (.c (.int .u8 97)), (some (9, false))⟩, ⟨(some 12), .mv (.t 11), (some (9, false))⟩, ⟨(some 13), .mv (.t 0), (some (12, true))⟩, ⟨(some 14), .bin .leq .no (.t 13) (.c (.int .u8 122)), (some (12, true))⟩, ⟨(some 15), .pick (.t 12) (.t 14) (.c (.bool false)), (some (9, false))⟩, ⟨(some 16), .pick (.t 9) (.c (.bool true)) (.t 15), none⟩, ⟨(some 2), .mv (.t 16), none⟩])
 .ret)), [.tmp 2]⟩
theorem c22 : compF Tryd.prog Tryd.f22 = some m22 := by kernel_rfl
/-- weirgate/weirgateref08.word -/
def m23 : MFunc := ⟨13, (.seq (.reg [⟨(some 2), .mv (.c (.bool false)), none⟩])
 (.seq (.reg [⟨(some 3), .mv (.t 0), none⟩, ⟨(some 4), .call (.c (.fn 22 [])) [(.t 3)], none⟩, ⟨(some 5), .mv (.t 4), none⟩, ⟨(some 6), .mv (.t 0), (some (5, false))⟩, ⟨(some 7), .call (.c (.fn 33 [])) [(.t 6)], (some (5, false))⟩, ⟨(some 8), .pick (.t 5) (.c (.bool true)) (.t 7), none⟩, ⟨(some 9), .mv (.t 8), none⟩, ⟨(some 10), .mv (.t 0), (some (9, false))⟩, ⟨(some 11), .bin .eql .no (.t 10) (.c (.int .u8 95)), (some (9, false))⟩, ⟨(some 12), .pick (.t 9) (.c (.bool true)) (.t 11), none⟩, ⟨(some 2), .mv (.t 12), none⟩])
 .ret)), [.tmp 2]⟩
theorem c23 : compF Tryd.prog Tryd.f23 = some m23 := by kernel_rfl
/-- strings.HasPrefix -/
def m24 : MFunc := ⟨8, (.seq (.reg [⟨(some 4), .mv (.c (.bool false)), none⟩])
 (.seq (.reg [⟨(some 5), .mv (.t 0), none⟩, ⟨(some 6), .mv (.t 1), none⟩, ⟨(some 7), .call (.c (.fn 34 [])) [(.t 5), (.t 6)], none⟩, ⟨(some 4), .mv (.t 7), none⟩])
 .ret)), [.tmp 4]⟩
theorem c24 : compF Tryd.prog Tryd.f24 = some m24 := by kernel_rfl
/-- strings.IndexByte -/
def m25 : MFunc := ⟨8, (.seq (.reg [⟨(some 4), .mv (.c (.int .i64 0)), none⟩])
 (.seq (.reg [⟨(some 5), .mv (.t 0), none⟩, ⟨(some 6), .mv (.t 1), none⟩, ⟨(some 7), .call (.c (.fn 35 [])) [(.t 5), (.t 6)], none⟩, ⟨(some 4), .mv (.t 7), none⟩])
 .ret)), [.tmp 4]⟩
theorem c25 : compF Tryd.prog Tryd.f25 = some m25 := by kernel_rfl
/-- slices.Contains[[]weirgate/lex.class,weirgate/lex.class] -/
def m26 : MFunc := ⟨9, (.seq (.reg [⟨(some 4), .mv (.c (.bool false)), none⟩])
 (.seq (.reg [⟨(some 5), .mv (.t 0), none⟩, ⟨(some 6), .mv (.t 1), none⟩, ⟨(some 7), .call (.c (.fn 36 [])) [(.t 5), (.t 6)], none⟩, ⟨(some 8), .bin .geq .no (.t 7) (.c (.int .i64 0)), none⟩, ⟨(some 4), .mv (.t 8), none⟩])
 .ret)), [.tmp 4]⟩
theorem c26 : compF Tryd.prog Tryd.f26 = some m26 := by kernel_rfl
/-- unicode/utf8.RuneCountInString -/
def m27 : MFunc := ⟨10, (.seq (.reg [⟨(some 2), .mv (.c (.int .i64 0)), none⟩])
 (.seq (.seq (.reg [⟨(some 3), .mv (.t 0), none⟩, ⟨(some 4), .call (.c .undef) [], none⟩])
 (.block 0 (.loop (.seq (.reg [⟨(some 5), .call (.c .undef) [], none⟩, ⟨(some 6), .extract (.t 5) 0, none⟩])
   (.seq (.cond (.t 6)
     .skip
     (.exit 0))
   (.block 1 (.reg [⟨(some 7), .mv (.t 2), none⟩, ⟨(some 8), .bin .add .no (.t 7) (.c (.int .i64 1)), none⟩, ⟨(some 2), .mv (.t 8), none⟩])))))))
 (.seq (.reg [⟨(some 9), .mv (.t 2), none⟩, ⟨(some 2), .mv (.t 9), none⟩])
 .ret))), [.tmp 2]⟩
theorem c27 : compF Tryd.prog Tryd.f27 = some m27 := by kernel_rfl
/-- strings.Index -/
def m29 : MFunc := ⟨8, (.seq (.reg [⟨(some 4), .mv (.c (.int .i64 0)), none⟩])
 (.seq (.reg [⟨(some 5), .mv (.t 0), none⟩, ⟨(some 6), .mv (.t 1), none⟩, ⟨(some 7), .call (.c (.fn 37 [])) [(.t 5), (.t 6)], none⟩, ⟨(some 4), .mv (.t 7), none⟩])
 .ret)), [.tmp 4]⟩
theorem c29 : compF Tryd.prog Tryd.f29 = some m29 := by kernel_rfl
/-- internal/bytealg.LastIndexByteString -/
def m30 : MFunc := ⟨19, (.seq (.reg [⟨(some 4), .mv (.c (.int .i64 0)), none⟩])
 (.seq (.seq (.reg [⟨(some 6), .mv (.t 0), none⟩, ⟨(some 7), .lenS (.t 6), none⟩, ⟨(some 8), .bin .sub .no (.t 7) (.c (.int .i64 1)), none⟩, ⟨(some 5), .mv (.t 8), none⟩])
 (.block 0 (.loop (.seq (.seq (.reg [⟨(some 9), .mv (.t 5), none⟩, ⟨(some 10), .bin .geq .no (.t 9) (.c (.int .i64 0)), none⟩])
   (.cond (.t 10)
     .skip
     (.exit 0)))
   (.seq (.block 1 (.seq (.reg [⟨(some 13), .mv (.t 0), none⟩, ⟨(some 14), .mv (.t 5), none⟩, ⟨(some 15), .index (.t 13) (.t 14), none⟩, ⟨(some 16), .mv (.t 1), none⟩, ⟨(some 17), .bin .eql .no (.t 15) (.t 16), none⟩])
    (.cond (.t 17)
      (.seq (.reg [⟨(some 18), .mv (.t 5), none⟩, ⟨(some 4), .mv (.t 18), none⟩])
      .ret)
      .skip)))
   (.reg [⟨(some 11), .mv (.t 5), none⟩, ⟨(some 12), .bin .sub .no (.t 11) (.c (.int .i64 1)), none⟩, ⟨(some 5), .mv (.t 12), none⟩]))))))
 (.seq (.reg [⟨(some 4), .mv (.c (.int .i64 (-1))), none⟩])
 .ret))), [.tmp 4]⟩
theorem c30 : compF Tryd.prog Tryd.f30 = some m30 := by kernel_rfl
/-- slices.Index[[]string,string] -/
def m31 : MFunc := ⟨19, (.seq (.reg [⟨(some 4), .mv (.c (.int .i64 0)), none⟩])
 (.seq (.seq (.reg [⟨(some 6), .mv (.t 0), none⟩, ⟨(some 7), .len (.t 6), none⟩, ⟨(some 8), .mv (.c (.int .i64 0)), none⟩])
 (.block 0 (.loop (.seq (.reg [⟨(some 9), .bin .lss .no (.t 8) (.t 7), none⟩])
   (.seq (.cond (.t 9)
     .skip
     (.exit 0))
   (.seq (.block 1 (.seq (.reg [⟨(some 10), .mv (.t 8), none⟩, ⟨(some 5), .mv (.t 10), none⟩])
    (.seq (.reg [⟨(some 11), .mv (.t 1), none⟩, ⟨(some 12), .mv (.t 0), none⟩, ⟨(some 13), .mv (.t 5), none⟩, ⟨(some 14), .iaddr 1 (.t 12) (.t 13), none⟩, ⟨(some 15), .load none (.t 14), none⟩, ⟨(some 16), .bin .eql .no (.t 11) (.t 15), none⟩])
    (.cond (.t 16)
      (.seq (.reg [⟨(some 17), .mv (.t 5), none⟩, ⟨(some 4), .mv (.t 17), none⟩])
      .ret)
      .skip))))
   (.reg [⟨(some 18), .bin .add .no (.t 8) (.c (.int .i64 1)), none⟩, ⟨(some 8), .mv (.t 18), none⟩])))))))
 (.seq (.reg [⟨(some 4), .mv (.c (.int .i64 (-1))), none⟩])
 .ret))), [.tmp 4]⟩
theorem c31 : compF Tryd.prog Tryd.f31 = some m31 := by kernel_rfl
/-- strings.Fields -/
def m32 : MFunc := ⟨106, (.seq (.reg [⟨(some 2), .mv (.c .nils), none⟩])
 (.seq (.reg [⟨(some 3), .mv (.c (.int .i64 0)), none⟩])
 (.seq (.reg [⟨(some 4), .mv (.c (.int .i64 1)), none⟩])
 (.seq (.reg [⟨(some 5), .mv (.c (.int .u8 0)), none⟩])
 (.seq (.seq (.reg [⟨(some 6), .mv (.c (.int .i64 0)), none⟩])
 (.block 0 (.loop (.seq (.seq (.reg [⟨(some 13), .mv (.t 6), none⟩, ⟨(some 14), .mv (.t 0), none⟩, ⟨(some 15), .lenS (.t 14), none⟩, ⟨(some 16), .bin .lss .no (.t 13) (.t 15), none⟩])
   (.cond (.t 16)
     .skip
     (.exit 0)))
   (.seq (.block 1 (.seq (.reg [⟨(some 19), .mv (.t 0), none⟩, ⟨(some 20), .mv (.t 6), none⟩, ⟨(some 21), .index (.t 19) (.t 20), none⟩, ⟨(some 7), .mv (.t 21), none⟩])
    (.seq (.reg [⟨(some 22), .mv (.t 5), none⟩, ⟨(some 23), .mv (.t 7), none⟩, ⟨(some 24), .bin .or .no (.t 22) (.t 23), none⟩, ⟨(some 5), .mv (.t 24), none⟩])
    (.seq (.reg [⟨(some 25), .mv (.t 7), none⟩, ⟨(some 26), .iaddrA 256 1 (.g 1) (.t 25), none⟩, ⟨(some 27), .load none (.t 26), none⟩, ⟨(some 28), .convI .i64 (.t 27), none⟩, ⟨(some 8), .mv (.t 28), none⟩])
    (.seq (.reg [⟨(some 29), .mv (.t 3), none⟩, ⟨(some 30), .mv (.t 4), none⟩, ⟨(some 31), .mv (.t 8), none⟩, ⟨(some 32), .un .xor (.t 31), none⟩, ⟨(some 33), .bin .and .no (.t 30) (.t 32), none⟩, ⟨(some 34), .bin .add .no (.t 29) (.t 33), none⟩, ⟨(some 3), .mv (.t 34), none⟩])
    (.reg [⟨(some 35), .mv (.t 8), none⟩, ⟨(some 4), .mv (.t 35), none⟩]))))))
   (.reg [⟨(some 17), .mv (.t 6), none⟩, ⟨(some 18), .bin .add .no (.t 17) (.c (.int .i64 1)), none⟩, ⟨(some 6), .mv (.t 18), none⟩]))))))
 (.seq (.seq (.reg [⟨(some 36), .mv (.t 5), none⟩, ⟨(some 37), .bin .geq .no (.t 36) (.c (.int .u8 128)), none⟩])
 (.cond (.t 37)
   (.seq (.reg [⟨(some 38), .mv (.t 0), none⟩, ⟨(some 39), .call (.c (.fn 38 [])) [(.t 38), (.c (.fn 39 []))], none⟩, ⟨(some 2), .mv (.t 39), none⟩])
   .ret)
   .skip))
 (.seq (.reg [⟨(some 40), .mv (.t 3), none⟩, ⟨(some 41), .mkslice 1 16 [(.str [])] (.t 40) (.t 40), none⟩, ⟨(some 9), .mv (.t 41), none⟩])
 (.seq (.reg [⟨(some 10), .mv (.c (.int .i64 0)), none⟩])
 (.seq (.reg [⟨(some 11), .mv (.c (.int .i64 0)), none⟩])
 (.seq (.reg [⟨(some 12), .mv (.c (.int .i64 0)), none⟩])
 (.seq (.block 2 (.loop (.seq (.seq (.reg [⟨(some 42), .mv (.t 12), none⟩, ⟨(some 43), .mv (.t 0), none⟩, ⟨(some 44), .lenS (.t 43), none⟩, ⟨(some 45), .bin .lss .no (.t 42) (.t 44), none⟩, ⟨(some 46), .mv (.t 45), none⟩, ⟨(some 47), .mv (.t 0), (some (46, true))⟩, ⟨(some 48), .mv (.t 12), (some (46, true))⟩, ⟨(some 49), .index (.t 47) (.t 48), (some (46, true))⟩, ⟨(some 50), .iaddrA 256 1 (.g 1) (.t 49), (some (46, true))⟩, ⟨(some 51), .load none (.t 50), (some (46, true))⟩, ⟨(some 52), .bin .neq .no (.t 51) (.c (.int .u8 0)), (some (46, true))⟩, ⟨(some 53), .pick (.t 46) (.t 52) (.c (.bool false)), none⟩])
   (.cond (.t 53)
     .skip
     (.exit 2)))
   (.block 3 (.reg [⟨(some 54), .mv (.t 12), none⟩, ⟨(some 55), .bin .add .no (.t 54) (.c (.int .i64 1)), none⟩, ⟨(some 12), .mv (.t 55), none⟩])))))
 (.seq (.reg [⟨(some 56), .mv (.t 12), none⟩, ⟨(some 11), .mv (.t 56), none⟩])
 (.seq (.block 4 (.loop (.seq (.seq (.reg [⟨(some 57), .mv (.t 12), none⟩, ⟨(some 58), .mv (.t 0), none⟩, ⟨(some 59), .lenS (.t 58), none⟩, ⟨(some 60), .bin .lss .no (.t 57) (.t 59), none⟩])
   (.cond (.t 60)
     .skip
     (.exit 4)))
   (.block 5 (.seq (.seq (.reg [⟨(some 61), .mv (.t 0), none⟩, ⟨(some 62), .mv (.t 12), none⟩, ⟨(some 63), .index (.t 61) (.t 62), none⟩, ⟨(some 64), .iaddrA 256 1 (.g 1) (.t 63), none⟩, ⟨(some 65), .load none (.t 64), none⟩, ⟨(some 66), .bin .eql .no (.t 65) (.c (.int .u8 0)), none⟩])
    (.cond (.t 66)
      (.seq (.reg [⟨(some 67), .mv (.t 12), none⟩, ⟨(some 68), .bin .add .no (.t 67) (.c (.int .i64 1)), none⟩, ⟨(some 12), .mv (.t 68), none⟩])
      (.exit 5))
      .skip))
    (.seq (.reg [⟨(some 69), .mv (.t 9), none⟩, ⟨(some 70), .mv (.t 10), none⟩, ⟨(some 71), .mv (.t 0), none⟩, ⟨(some 72), .mv (.t 11), none⟩, ⟨(some 73), .mv (.t 12), none⟩, ⟨(some 74), .cutS (.t 71) (some (.t 72)) (some (.t 73)), none⟩, ⟨(some 75), .iaddr 1 (.t 69) (.t 70), none⟩, ⟨none, .store 1 (.t 75) (.t 74), none⟩])
    (.seq (.reg [⟨(some 76), .mv (.t 10), none⟩, ⟨(some 77), .bin .add .no (.t 76) (.c (.int .i64 1)), none⟩, ⟨(some 10), .mv (.t 77), none⟩])
    (.seq (.reg [⟨(some 78), .mv (.t 12), none⟩, ⟨(some 79), .bin .add .no (.t 78) (.c (.int .i64 1)), none⟩, ⟨(some 12), .mv (.t 79), none⟩])
    (.seq (.block 6 (.loop (.seq (.seq (.reg [⟨(some 80), .mv (.t 12), none⟩, ⟨(some 81), .mv (.t 0), none⟩, ⟨(some 82), .lenS (.t 81), none⟩, ⟨(some 83), .bin .lss .no (.t 80) (.t 82), none⟩, ⟨(some 84), .mv (.t 83), none⟩, ⟨(some 85), .mv (.t 0), (some (84, true))⟩, ⟨(some 86), .mv (.t 12), (some (84, true))⟩, ⟨(some 87), .index (.t 85) (.t 86), (some (84, true))⟩, ⟨(some 88), .iaddrA 256 1 (.g 1) (.t 87), (some (84, true))⟩, ⟨(some 89), .load none (.t 88), (some (84, true))⟩, ⟨(some 90), .bin .neq .no (.t 89) (.c (.int .u8 0)), (some (84, true))⟩, ⟨(some 91), .pick (.t 84) (.t 90) (.c (.bool false)), none⟩])
      (.cond (.t 91)
        .skip
        (.exit 6)))
      (.block 7 (.reg [⟨(some 92), .mv (.t 12), none⟩, ⟨(some 93), .bin .add .no (.t 92) (.c (.int .i64 1)), none⟩, ⟨(some 12), .mv (.t 93), none⟩])))))
    (.reg [⟨(some 94), .mv (.t 12), none⟩, ⟨(some 11), .mv (.t 94), none⟩]))))))))))
 (.seq (.seq (.reg [⟨(some 95), .mv (.t 11), none⟩, ⟨(some 96), .mv (.t 0), none⟩, ⟨(some 97), .lenS (.t 96), none⟩, ⟨(some 98), .bin .lss .no (.t 95) (.t 97), none⟩])
 (.cond (.t 98)
   (.reg [⟨(some 99), .mv (.t 9), none⟩, ⟨(some 100), .mv (.t 10), none⟩, ⟨(some 101), .mv (.t 0), none⟩, ⟨(some 102), .mv (.t 11), none⟩, ⟨(some 103), .cutS (.t 101) (some (.t 102)) none, none⟩, ⟨(some 104), .iaddr 1 (.t 99) (.t 100), none⟩, ⟨none, .store 1 (.t 104) (.t 103), none⟩])
   .skip))
 (.seq (.reg [⟨(some 105), .mv (.t 9), none⟩, ⟨(some 2), .mv (.t 105), none⟩])
 .ret))))))))))))))), [.tmp 2]⟩
theorem c32 : compF Tryd.prog Tryd.f32 = some m32 := by kernel_rfl
/-- weirgate/weirgateref08.digit -/
def m33 : MFunc := ⟨9, (.seq (.reg [⟨(some 2), .mv (.c (.bool false)), none⟩])
 (.seq (.reg [⟨(some 3), .mv (.t 0), none⟩, ⟨(some 4), .bin .geq .no (.t 3) (.c (.int .u8 48)), none⟩, ⟨(some 5), .mv (.t 4), none⟩, ⟨(some 6), .mv (.t 0), (some (5, true))⟩, ⟨(some 7), .bin .leq .no (.t 6) (.c (.int .u8 57)), (some (5, true))⟩, ⟨(some 8), .pick (.t 5) (.t 7) (.c (.bool false)), none⟩, ⟨(some 2), .mv (.t 8), none⟩])
 .ret)), [.tmp 2]⟩
theorem c33 : compF Tryd.prog Tryd.f33 = some m33 := by kernel_rfl
/-- internal/stringslite.HasPrefix -/
def m34 : MFunc := ⟨18, (.seq (.reg [⟨(some 4), .mv (.c (.bool false)), none⟩])
 (.seq (.reg [⟨(some 5), .mv (.t 0), none⟩, ⟨(some 6), .lenS (.t 5), none⟩, ⟨(some 7), .mv (.t 1), none⟩, ⟨(some 8), .lenS (.t 7), none⟩, ⟨(some 9), .bin .geq .no (.t 6) (.t 8), none⟩, ⟨(some 10), .mv (.t 9), none⟩, ⟨(some 11), .mv (.t 0), (some (10, true))⟩, ⟨(some 12), .mv (.t 1), (some (10, true))⟩, ⟨(some 13), .lenS (.t 12), (some (10, true))⟩, ⟨(some 14), .cutS (.t 11) none (some (.t 13)), (some (10, true))⟩, ⟨(some 15), .mv (.t 1), (some (10, true))⟩, ⟨(some 16), .bin .eql .no (.t 14) (.t 15), (some (10, true))⟩, ⟨(some 17), .pick (.t 10) (.t 16) (.c (.bool false)), none⟩, ⟨(some 4), .mv (.t 17), none⟩])
 .ret)), [.tmp 4]⟩
theorem c34 : compF Tryd.prog Tryd.f34 = some m34 := by kernel_rfl
/-- internal/stringslite.IndexByte -/
def m35 : MFunc := ⟨8, (.seq (.reg [⟨(some 4), .mv (.c (.int .i64 0)), none⟩])
 (.seq (.reg [⟨(some 5), .mv (.t 0), none⟩, ⟨(some 6), .mv (.t 1), none⟩, ⟨(some 7), .idxB (.t 5) (.t 6), none⟩, ⟨(some 4), .mv (.t 7), none⟩])
 .ret)), [.tmp 4]⟩
theorem c35 : compF Tryd.prog Tryd.f35 = some m35 := by kernel_rfl
/-- slices.Index[[]weirgate/lex.class,weirgate/lex.class] -/
def m36 : MFunc := ⟨19, (.seq (.reg [⟨(some 4), .mv (.c (.int .i64 0)), none⟩])
 (.seq (.seq (.reg [⟨(some 6), .mv (.t 0), none⟩, ⟨(some 7), .len (.t 6), none⟩, ⟨(some 8), .mv (.c (.int .i64 0)), none⟩])
 (.block 0 (.loop (.seq (.reg [⟨(some 9), .bin .lss .no (.t 8) (.t 7), none⟩])
   (.seq (.cond (.t 9)
     .skip
     (.exit 0))
   (.seq (.block 1 (.seq (.reg [⟨(some 10), .mv (.t 8), none⟩, ⟨(some 5), .mv (.t 10), none⟩])
    (.seq (.reg [⟨(some 11), .mv (.t 1), none⟩, ⟨(some 12), .mv (.t 0), none⟩, ⟨(some 13), .mv (.t 5), none⟩, ⟨(some 14), .iaddr 1 (.t 12) (.t 13), none⟩, ⟨(some 15), .load none (.t 14), none⟩, ⟨(some 16), .bin .eql .no (.t 11) (.t 15), none⟩])
    (.cond (.t 16)
      (.seq (.reg [⟨(some 17), .mv (.t 5), none⟩, ⟨(some 4), .mv (.t 17), none⟩])
      .ret)
      .skip))))
   (.reg [⟨(some 18), .bin .add .no (.t 8) (.c (.int .i64 1)), none⟩, ⟨(some 8), .mv (.t 18), none⟩])))))))
 (.seq (.reg [⟨(some 4), .mv (.c (.int .i64 (-1))), none⟩])
 .ret))), [.tmp 4]⟩
theorem c36 : compF Tryd.prog Tryd.f36 = some m36 := by kernel_rfl
/-- internal/stringslite.Index -/
def m37 : MFunc := ⟨143, (.seq (.reg [⟨(some 4), .mv (.c (.int .i64 0)), none⟩])
 (.seq (.reg [⟨(some 14), .mv (.t 1), none⟩, ⟨(some 15), .lenS (.t 14), none⟩, ⟨(some 5), .mv (.t 15), none⟩])
 (.seq (.block 0 (.seq (.reg [⟨(some 17), .mv (.t 5), none⟩, ⟨(some 18), .bin .eql .no (.t 17) (.c (.int .i64 0)), none⟩, ⟨(some 19), .mv (.t 18), none⟩, ⟨(some 20), .mv (.t 1), (some (19, false))⟩, ⟨(some 21), .mv (.t 0), (some (19, false))⟩, ⟨(some 22), .bin .eql .no (.t 20) (.t 21), (some (19, false))⟩, ⟨(some 23), .pick (.t 19) (.c (.bool true)) (.t 22), none⟩, ⟨(some 16), .mv (.t 23), none⟩])
  (.cond (.t 16)
    (.seq (.reg [⟨(some 4), .mv (.c (.int .i64 0)), none⟩])
    .ret)
    (.seq (.reg [⟨(some 25), .mv (.t 5), none⟩, ⟨(some 26), .bin .eql .no (.t 25) (.c (.int .i64 1)), none⟩, ⟨(some 24), .mv (.t 26), none⟩])
    (.cond (.t 24)
      (.seq (.reg [⟨(some 27), .mv (.t 0), none⟩, ⟨(some 28), .mv (.t 1), none⟩, ⟨(some 29), .index (.t 28) (.c (.int .i64 0)), none⟩, ⟨(some 30), .call (.c (.fn 35 [])) [(.t 27), (.t 29)], none⟩, ⟨(some 4), .mv (.t 30), none⟩])
      .ret)
      (.seq (.reg [⟨(some 32), .mv (.t 5), none⟩, ⟨(some 33), .mv (.t 0), none⟩, ⟨(some 34), .lenS (.t 33), none⟩, ⟨(some 35), .bin .geq .no (.t 32) (.t 34), none⟩, ⟨(some 31), .mv (.t 35), none⟩])
      (.cond (.t 31)
        (.seq (.reg [⟨(some 4), .mv (.c (.int .i64 (-1))), none⟩])
        .ret)
        (.seq (.reg [⟨(some 37), .mv (.t 5), none⟩, ⟨(some 38), .load none (.g 0), none⟩, ⟨(some 39), .bin .leq .no (.t 37) (.t 38), none⟩, ⟨(some 40), .mv (.t 39), none⟩, ⟨(some 41), .mv (.t 0), (some (40, true))⟩, ⟨(some 42), .lenS (.t 41), (some (40, true))⟩, ⟨(some 43), .bin .leq .no (.t 42) (.c (.int .i64 64)), (some (40, true))⟩, ⟨(some 44), .pick (.t 40) (.t 43) (.c (.bool false)), none⟩, ⟨(some 36), .mv (.t 44), none⟩])
        (.cond (.t 36)
          (.seq (.reg [⟨(some 45), .mv (.t 0), none⟩, ⟨(some 46), .mv (.t 1), none⟩, ⟨(some 47), .call (.c (.fn 41 [])) [(.t 45), (.t 46)], none⟩, ⟨(some 4), .mv (.t 47), none⟩])
          .ret)
          .skip)))))))))
 (.seq (.reg [⟨(some 48), .mv (.t 1), none⟩, ⟨(some 49), .index (.t 48) (.c (.int .i64 0)), none⟩, ⟨(some 6), .mv (.t 49), none⟩])
 (.seq (.reg [⟨(some 50), .mv (.t 1), none⟩, ⟨(some 51), .index (.t 50) (.c (.int .i64 1)), none⟩, ⟨(some 7), .mv (.t 51), none⟩])
 (.seq (.reg [⟨(some 8), .mv (.c (.int .i64 0)), none⟩])
 (.seq (.reg [⟨(some 52), .mv (.t 0), none⟩, ⟨(some 53), .lenS (.t 52), none⟩, ⟨(some 54), .mv (.t 5), none⟩, ⟨(some 55), .bin .sub .no (.t 53) (.t 54), none⟩, ⟨(some 56), .bin .add .no (.t 55) (.c (.int .i64 1)), none⟩, ⟨(some 9), .mv (.t 56), none⟩])
 (.seq (.reg [⟨(some 10), .mv (.c (.int .i64 0)), none⟩])
 (.seq (.block 1 (.loop (.seq (.seq (.reg [⟨(some 57), .mv (.t 8), none⟩, ⟨(some 58), .mv (.t 9), none⟩, ⟨(some 59), .bin .lss .no (.t 57) (.t 58), none⟩])
   (.cond (.t 59)
     .skip
     (.exit 1)))
   (.block 2 (.seq (.seq (.reg [⟨(some 60), .mv (.t 0), none⟩, ⟨(some 61), .mv (.t 8), none⟩, ⟨(some 62), .index (.t 60) (.t 61), none⟩, ⟨(some 63), .mv (.t 6), none⟩, ⟨(some 64), .bin .neq .no (.t 62) (.t 63), none⟩])
    (.cond (.t 64)
      (.seq (.reg [⟨(some 65), .mv (.t 0), none⟩, ⟨(some 66), .mv (.t 8), none⟩, ⟨(some 67), .bin .add .no (.t 66) (.c (.int .i64 1)), none⟩, ⟨(some 68), .mv (.t 9), none⟩, ⟨(some 69), .cutS (.t 65) (some (.t 67)) (some (.t 68)), none⟩, ⟨(some 70), .mv (.t 6), none⟩, ⟨(some 71), .call (.c (.fn 35 [])) [(.t 69), (.t 70)], none⟩, ⟨(some 11), .mv (.t 71), none⟩])
      (.seq (.seq (.reg [⟨(some 72), .mv (.t 11), none⟩, ⟨(some 73), .bin .lss .no (.t 72) (.c (.int .i64 0)), none⟩])
      (.cond (.t 73)
        (.seq (.reg [⟨(some 4), .mv (.c (.int .i64 (-1))), none⟩])
        .ret)
        .skip))
      (.reg [⟨(some 74), .mv (.t 8), none⟩, ⟨(some 75), .mv (.t 11), none⟩, ⟨(some 76), .bin .add .no (.t 75) (.c (.int .i64 1)), none⟩, ⟨(some 77), .bin .add .no (.t 74) (.t 76), none⟩, ⟨(some 8), .mv (.t 77), none⟩])))
      .skip))
    (.seq (.seq (.reg [⟨(some 78), .mv (.t 0), none⟩, ⟨(some 79), .mv (.t 8), none⟩, ⟨(some 80), .bin .add .no (.t 79) (.c (.int .i64 1)), none⟩, ⟨(some 81), .index (.t 78) (.t 80), none⟩, ⟨(some 82), .mv (.t 7), none⟩, ⟨(some 83), .bin .eql .no (.t 81) (.t 82), none⟩, ⟨(some 84), .mv (.t 83), none⟩, ⟨(some 85), .mv (.t 0), (some (84, true))⟩, ⟨(some 86), .mv (.t 8), (some (84, true))⟩, ⟨(some 87), .mv (.t 8), (some (84, true))⟩, ⟨(some 88), .mv (.t 5), (some (84, true))⟩, ⟨(some 89), .bin .add .no (.t 87) (.t 88), (some (84, true))⟩, ⟨(some 90), .cutS (.t 85) (some (.t 86)) (some (.t 89)), (some (84, true))⟩, ⟨(some 91), .mv (.t 1), (some (84, true))⟩, ⟨(some 92), .bin .eql .no (.t 90) (.t 91), (some (84, true))⟩, ⟨(some 93), .pick (.t 84) (.t 92) (.c (.bool false)), none⟩])
    (.cond (.t 93)
      (.seq (.reg [⟨(some 94), .mv (.t 8), none⟩, ⟨(some 4), .mv (.t 94), none⟩])
      .ret)
      .skip))
    (.seq (.reg [⟨(some 95), .mv (.t 8), none⟩, ⟨(some 96), .bin .add .no (.t 95) (.c (.int .i64 1)), none⟩, ⟨(some 8), .mv (.t 96), none⟩])
    (.seq (.reg [⟨(some 97), .mv (.t 10), none⟩, ⟨(some 98), .bin .add .no (.t 97) (.c (.int .i64 1)), none⟩, ⟨(some 10), .mv (.t 98), none⟩])
    (.seq (.reg [⟨(some 99), .mv (.t 5), none⟩, ⟨(some 100), .load none (.g 0), none⟩, ⟨(some 101), .bin .leq .no (.t 99) (.t 100), none⟩, ⟨(some 102), .mv (.t 101), none⟩, ⟨(some 103), .mv (.t 10), (some (102, true))⟩, ⟨(some 104), .mv (.t 8), (some (102, true))⟩, ⟨(some 105), .call (.c (.fn 42 [])) [(.t 104)], (some (102, true))⟩, ⟨(some 106), .bin .gtr .no (.t 103) (.t 105), (some (102, true))⟩, ⟨(some 107), .pick (.t 102) (.t 106) (.c (.bool false)), none⟩])
    (.cond (.t 107)
      (.seq (.reg [⟨(some 108), .mv (.t 0), none⟩, ⟨(some 109), .mv (.t 8), none⟩, ⟨(some 110), .cutS (.t 108) (some (.t 109)) none, none⟩, ⟨(some 111), .mv (.t 1), none⟩, ⟨(some 112), .call (.c (.fn 41 [])) [(.t 110), (.t 111)], none⟩, ⟨(some 12), .mv (.t 112), none⟩])
      (.seq (.seq (.reg [⟨(some 113), .mv (.t 12), none⟩, ⟨(some 114), .bin .geq .no (.t 113) (.c (.int .i64 0)), none⟩])
      (.cond (.t 114)
        (.seq (.reg [⟨(some 115), .mv (.t 12), none⟩, ⟨(some 116), .mv (.t 8), none⟩, ⟨(some 117), .bin .add .no (.t 115) (.t 116), none⟩, ⟨(some 4), .mv (.t 117), none⟩])
        .ret)
        .skip))
      (.seq (.reg [⟨(some 4), .mv (.c (.int .i64 (-1))), none⟩])
      .ret)))
      (.seq (.reg [⟨(some 118), .mv (.t 5), none⟩, ⟨(some 119), .load none (.g 0), none⟩, ⟨(some 120), .bin .gtr .no (.t 118) (.t 119), none⟩, ⟨(some 121), .mv (.t 120), none⟩, ⟨(some 122), .mv (.t 10), (some (121, true))⟩, ⟨(some 123), .mv (.t 8), (some (121, true))⟩, ⟨(some 124), .bin .shr .no (.t 123) (.c (.int .u64 4)), (some (121, true))⟩, ⟨(some 125), .bin .add .no (.c (.int .i64 4)) (.t 124), (some (121, true))⟩, ⟨(some 126), .bin .geq .no (.t 122) (.t 125), (some (121, true))⟩, ⟨(some 127), .pick (.t 121) (.t 126) (.c (.bool false)), none⟩, ⟨(some 128), .mv (.t 127), none⟩, ⟨(some 129), .mv (.t 8), (some (128, true))⟩, ⟨(some 130), .mv (.t 9), (some (128, true))⟩, ⟨(some 131), .bin .lss .no (.t 129) (.t 130), (some (128, true))⟩, ⟨(some 132), .pick (.t 128) (.t 131) (.c (.bool false)), none⟩])
      (.cond (.t 132)
        (.seq (.reg [⟨(some 133), .mv (.t 0), none⟩, ⟨(some 134), .mv (.t 8), none⟩, ⟨(some 135), .cutS (.t 133) (some (.t 134)) none, none⟩, ⟨(some 136), .mv (.t 1), none⟩, ⟨(some 137), .call (.c (.fn 43 [])) [(.t 135), (.t 136)], none⟩, ⟨(some 13), .mv (.t 137), none⟩])
        (.seq (.seq (.reg [⟨(some 138), .mv (.t 13), none⟩, ⟨(some 139), .bin .lss .no (.t 138) (.c (.int .i64 0)), none⟩])
        (.cond (.t 139)
          (.seq (.reg [⟨(some 4), .mv (.c (.int .i64 (-1))), none⟩])
          .ret)
          .skip))
        (.seq (.reg [⟨(some 140), .mv (.t 8), none⟩, ⟨(some 141), .mv (.t 13), none⟩, ⟨(some 142), .bin .add .no (.t 140) (.t 141), none⟩, ⟨(some 4), .mv (.t 142), none⟩])
        .ret)))
        .skip))))))))))))
 (.seq (.reg [⟨(some 4), .mv (.c (.int .i64 (-1))), none⟩])
 .ret)))))))))), [.tmp 4]⟩
theorem c37 : compF Tryd.prog Tryd.f37 = some m37 := by kernel_rfl
/-- strings.FieldsFunc -/
def m38 : MFunc := ⟨65, (.seq (.reg [⟨(some 4), .mv (.c .nils), none⟩])
 (.seq (.reg [⟨(some 12), .mkslice 2 16 [(.int .i64 0), (.int .i64 0)] (.c (.int .i64 0)) (.c (.int .i64 32)), none⟩, ⟨(some 5), .mv (.t 12), none⟩])
 (.seq (.reg [⟨(some 6), .mv (.c (.int .i64 (-1))), none⟩])
 (.seq (.seq (.reg [⟨(some 13), .mv (.t 0), none⟩, ⟨(some 14), .call (.c .undef) [], none⟩])
 (.block 0 (.loop (.seq (.reg [⟨(some 15), .call (.c .undef) [], none⟩, ⟨(some 16), .extract (.t 15) 0, none⟩])
   (.seq (.cond (.t 16)
     .skip
     (.exit 0))
   (.block 1 (.seq (.reg [⟨(some 17), .extract (.t 15) 1, none⟩, ⟨(some 18), .extract (.t 15) 2, none⟩, ⟨(some 7), .mv (.t 17), none⟩, ⟨(some 8), .mv (.t 18), none⟩])
    (.seq (.reg [⟨(some 19), .mv (.t 1), none⟩, ⟨(some 20), .mv (.t 8), none⟩, ⟨(some 21), .call (.t 19) [(.t 20)], none⟩])
    (.cond (.t 21)
      (.seq (.reg [⟨(some 22), .mv (.t 6), none⟩, ⟨(some 23), .bin .geq .no (.t 22) (.c (.int .i64 0)), none⟩])
      (.cond (.t 23)
        (.seq (.reg [⟨(some 24), .mv (.t 5), none⟩, ⟨(some 25), .mv (.t 6), none⟩, ⟨(some 26), .mv (.t 7), none⟩, ⟨(some 27), .build [(.int .i64 0), (.int .i64 0)] [(0, 1, (.t 25)), (1, 1, (.t 26))], none⟩, ⟨(some 28), .bslice 2 1 [(.int .i64 0), (.int .i64 0)] [(0, 2, (.t 27))], none⟩, ⟨(some 29), .append 2 16 (.t 24) (.t 28), none⟩, ⟨(some 5), .mv (.t 29), none⟩])
        (.reg [⟨(some 30), .mv (.t 6), none⟩, ⟨(some 31), .un .xor (.t 30), none⟩, ⟨(some 6), .mv (.t 31), none⟩]))
        .skip))
      (.seq (.reg [⟨(some 32), .mv (.t 6), none⟩, ⟨(some 33), .bin .lss .no (.t 32) (.c (.int .i64 0)), none⟩])
      (.cond (.t 33)
        (.reg [⟨(some 34), .mv (.t 7), none⟩, ⟨(some 6), .mv (.t 34), none⟩])
        .skip)))))))))))
 (.seq (.seq (.reg [⟨(some 35), .mv (.t 6), none⟩, ⟨(some 36), .bin .geq .no (.t 35) (.c (.int .i64 0)), none⟩])
 (.cond (.t 36)
   (.reg [⟨(some 37), .mv (.t 5), none⟩, ⟨(some 38), .mv (.t 6), none⟩, ⟨(some 39), .mv (.t 0), none⟩, ⟨(some 40), .lenS (.t 39), none⟩, ⟨(some 41), .build [(.int .i64 0), (.int .i64 0)] [(0, 1, (.t 38)), (1, 1, (.t 40))], none⟩, ⟨(some 42), .bslice 2 1 [(.int .i64 0), (.int .i64 0)] [(0, 2, (.t 41))], none⟩, ⟨(some 43), .append 2 16 (.t 37) (.t 42), none⟩, ⟨(some 5), .mv (.t 43), none⟩])
   .skip))
 (.seq (.reg [⟨(some 44), .mv (.t 5), none⟩, ⟨(some 45), .len (.t 44), none⟩, ⟨(some 46), .mkslice 1 16 [(.str [])] (.t 45) (.t 45), none⟩, ⟨(some 9), .mv (.t 46), none⟩])
 (.seq (.seq (.reg [⟨(some 47), .mv (.t 5), none⟩, ⟨(some 48), .len (.t 47), none⟩, ⟨(some 49), .mv (.c (.int .i64 0)), none⟩])
 (.block 2 (.loop (.seq (.reg [⟨(some 50), .bin .lss .no (.t 49) (.t 48), none⟩])
   (.seq (.cond (.t 50)
     .skip
     (.exit 2))
   (.seq (.block 3 (.seq (.reg [⟨(some 51), .mv (.t 49), none⟩, ⟨(some 52), .iaddr 2 (.t 47) (.t 49), none⟩, ⟨(some 53), .load (some 2) (.t 52), none⟩, ⟨(some 11), .alloc [(.int .i64 0), (.int .i64 0)], none⟩, ⟨(some 10), .mv (.t 51), none⟩, ⟨none, .store 2 (.t 11) (.t 53), none⟩])
    (.reg [⟨(some 54), .mv (.t 9), none⟩, ⟨(some 55), .mv (.t 10), none⟩, ⟨(some 56), .mv (.t 0), none⟩, ⟨(some 57), .faddr 0 (.t 11), none⟩, ⟨(some 58), .load none (.t 57), none⟩, ⟨(some 59), .faddr 1 (.t 11), none⟩, ⟨(some 60), .load none (.t 59), none⟩, ⟨(some 61), .cutS (.t 56) (some (.t 58)) (some (.t 60)), none⟩, ⟨(some 62), .iaddr 1 (.t 54) (.t 55), none⟩, ⟨none, .store 1 (.t 62) (.t 61), none⟩])))
   (.reg [⟨(some 63), .bin .add .no (.t 49) (.c (.int .i64 1)), none⟩, ⟨(some 49), .mv (.t 63), none⟩])))))))
 (.seq (.reg [⟨(some 64), .mv (.t 9), none⟩, ⟨(some 4), .mv (.t 64), none⟩])
 .ret)))))))), [.tmp 4]⟩
theorem c38 : compF Tryd.prog Tryd.f38 = some m38 := by kernel_rfl
/-- unicode.IsSpace -/
def m39 : MFunc := ⟨19, (.seq (.reg [⟨(some 2), .mv (.c (.bool false)), none⟩])
 (.seq (.seq (.reg [⟨(some 3), .mv (.t 0), none⟩, ⟨(some 4), .convI .u32 (.t 3), none⟩, ⟨(some 5), .bin .leq .no (.t 4) (.c (.int .u32 255)), none⟩])
 (.cond (.t 5)
   (.seq (.seq (.reg [⟨(some 6), .mv (.t 0), none⟩])
   (.block 0 (.seq (.seq (.reg [⟨(some 8), .bin .eql .no (.t 6) (.c (.int .i32 9)), none⟩, ⟨(some 7), .mv (.t 8), none⟩])
    (.cond (.t 7)
      .skip
      (.seq (.reg [⟨(some 9), .bin .eql .no (.t 6) (.c (.int .i32 10)), none⟩, ⟨(some 7), .mv (.t 9), none⟩])
      (.cond (.t 7)
        .skip
        (.seq (.reg [⟨(some 10), .bin .eql .no (.t 6) (.c (.int .i32 11)), none⟩, ⟨(some 7), .mv (.t 10), none⟩])
        (.cond (.t 7)
          .skip
          (.seq (.reg [⟨(some 11), .bin .eql .no (.t 6) (.c (.int .i32 12)), none⟩, ⟨(some 7), .mv (.t 11), none⟩])
          (.cond (.t 7)
            .skip
            (.seq (.reg [⟨(some 12), .bin .eql .no (.t 6) (.c (.int .i32 13)), none⟩, ⟨(some 7), .mv (.t 12), none⟩])
            (.cond (.t 7)
              .skip
              (.seq (.reg [⟨(some 13), .bin .eql .no (.t 6) (.c (.int .i32 32)), none⟩, ⟨(some 7), .mv (.t 13), none⟩])
              (.cond (.t 7)
                .skip
                (.seq (.reg [⟨(some 14), .bin .eql .no (.t 6) (.c (.int .i32 133)), none⟩, ⟨(some 7), .mv (.t 14), none⟩])
                (.cond (.t 7)
                  .skip
                  (.reg [⟨(some 15), .bin .eql .no (.t 6) (.c (.int .i32 160)), none⟩, ⟨(some 7), .mv (.t 15), none⟩])))))))))))))))
    (.cond (.t 7)
      (.seq (.reg [⟨(some 2), .mv (.c (.bool true)), none⟩])
      .ret)
      .skip))))
   (.seq (.reg [⟨(some 2), .mv (.c (.bool false)), none⟩])
   .ret))
   .skip))
 (.seq (.reg [⟨(some 16), .load none (.g 2), none⟩, ⟨(some 17), .mv (.t 0), none⟩, ⟨(some 18), .call (.c (.fn 44 [])) [(.t 16), (.t 17)], none⟩, ⟨(some 2), .mv (.t 18), none⟩])
 .ret))), [.tmp 2]⟩
theorem c39 : compF Tryd.prog Tryd.f39 = some m39 := by kernel_rfl
/-- internal/bytealg.Cutover -/
def m42 : MFunc := ⟨6, (.seq (.reg [⟨(some 2), .mv (.c (.int .i64 0)), none⟩])
 (.seq (.reg [⟨(some 3), .mv (.t 0), none⟩, ⟨(some 4), .bin .add .no (.t 3) (.c (.int .i64 16)), none⟩, ⟨(some 5), .bin .quo .no (.t 4) (.c (.int .i64 8)), none⟩, ⟨(some 2), .mv (.t 5), none⟩])
 .ret)), [.tmp 2]⟩
theorem c42 : compF Tryd.prog Tryd.f42 = some m42 := by kernel_rfl
/-- internal/bytealg.IndexRabinKarp[string] -/
def m43 : MFunc := ⟨81, (.seq (.reg [⟨(some 4), .mv (.c (.int .i64 0)), none⟩])
 (.seq (.reg [⟨(some 12), .mv (.t 1), none⟩, ⟨(some 13), .call (.c (.fn 45 [])) [(.t 12)], none⟩, ⟨(some 11), .mv (.t 13), none⟩, ⟨(some 14), .extract (.t 11) 0, none⟩, ⟨(some 15), .extract (.t 11) 1, none⟩, ⟨(some 5), .mv (.t 14), none⟩, ⟨(some 6), .mv (.t 15), none⟩])
 (.seq (.reg [⟨(some 16), .mv (.t 1), none⟩, ⟨(some 17), .lenS (.t 16), none⟩, ⟨(some 7), .mv (.t 17), none⟩])
 (.seq (.reg [⟨(some 8), .mv (.c (.int .u32 0)), none⟩])
 (.seq (.seq (.reg [⟨(some 9), .mv (.c (.int .i64 0)), none⟩])
 (.block 0 (.loop (.seq (.seq (.reg [⟨(some 18), .mv (.t 9), none⟩, ⟨(some 19), .mv (.t 7), none⟩, ⟨(some 20), .bin .lss .no (.t 18) (.t 19), none⟩])
   (.cond (.t 20)
     .skip
     (.exit 0)))
   (.seq (.block 1 (.reg [⟨(some 23), .mv (.t 8), none⟩, ⟨(some 24), .bin .mul .no (.t 23) (.c (.int .u32 16777619)), none⟩, ⟨(some 25), .mv (.t 0), none⟩, ⟨(some 26), .mv (.t 9), none⟩, ⟨(some 27), .index (.t 25) (.t 26), none⟩, ⟨(some 28), .convI .u32 (.t 27), none⟩, ⟨(some 29), .bin .add .no (.t 24) (.t 28), none⟩, ⟨(some 8), .mv (.t 29), none⟩]))
   (.reg [⟨(some 21), .mv (.t 9), none⟩, ⟨(some 22), .bin .add .no (.t 21) (.c (.int .i64 1)), none⟩, ⟨(some 9), .mv (.t 22), none⟩]))))))
 (.seq (.seq (.reg [⟨(some 30), .mv (.t 8), none⟩, ⟨(some 31), .mv (.t 5), none⟩, ⟨(some 32), .bin .eql .no (.t 30) (.t 31), none⟩, ⟨(some 33), .mv (.t 32), none⟩, ⟨(some 34), .mv (.t 0), (some (33, true))⟩, ⟨(some 35), .mv (.t 7), (some (33, true))⟩, ⟨(some 36), .cutS (.t 34) none (some (.t 35)), (some (33, true))⟩, ⟨(some 37), .mv (.t 1), (some (33, true))⟩, ⟨(some 38), .bin .eql .no (.t 36) (.t 37), (some (33, true))⟩, ⟨(some 39), .pick (.t 33) (.t 38) (.c (.bool false)), none⟩])
 (.cond (.t 39)
   (.seq (.reg [⟨(some 4), .mv (.c (.int .i64 0)), none⟩])
   .ret)
   .skip))
 (.seq (.seq (.reg [⟨(some 40), .mv (.t 7), none⟩, ⟨(some 10), .mv (.t 40), none⟩])
 (.block 2 (.loop (.seq (.seq (.reg [⟨(some 41), .mv (.t 10), none⟩, ⟨(some 42), .mv (.t 0), none⟩, ⟨(some 43), .lenS (.t 42), none⟩, ⟨(some 44), .bin .lss .no (.t 41) (.t 43), none⟩])
   (.cond (.t 44)
     .skip
     (.exit 2)))
   (.block 3 (.seq (.reg [⟨(some 45), .mv (.t 8), none⟩, ⟨(some 46), .bin .mul .no (.t 45) (.c (.int .u32 16777619)), none⟩, ⟨(some 8), .mv (.t 46), none⟩])
    (.seq (.reg [⟨(some 47), .mv (.t 8), none⟩, ⟨(some 48), .mv (.t 0), none⟩, ⟨(some 49), .mv (.t 10), none⟩, ⟨(some 50), .index (.t 48) (.t 49), none⟩, ⟨(some 51), .convI .u32 (.t 50), none⟩, ⟨(some 52), .bin .add .no (.t 47) (.t 51), none⟩, ⟨(some 8), .mv (.t 52), none⟩])
    (.seq (.reg [⟨(some 53), .mv (.t 8), none⟩, ⟨(some 54), .mv (.t 6), none⟩, ⟨(some 55), .mv (.t 0), none⟩, ⟨(some 56), .mv (.t 10), none⟩, ⟨(some 57), .mv (.t 7), none⟩, ⟨(some 58), .bin .sub .no (.t 56) (.t 57), none⟩, ⟨(some 59), .index (.t 55) (.t 58), none⟩, ⟨(some 60), .convI .u32 (.t 59), none⟩, ⟨(some 61), .bin .mul .no (.t 54) (.t 60), none⟩, ⟨(some 62), .bin .sub .no (.t 53) (.t 61), none⟩, ⟨(some 8), .mv (.t 62), none⟩])
    (.seq (.reg [⟨(some 63), .mv (.t 10), none⟩, ⟨(some 64), .bin .add .no (.t 63) (.c (.int .i64 1)), none⟩, ⟨(some 10), .mv (.t 64), none⟩])
    (.seq (.reg [⟨(some 65), .mv (.t 8), none⟩, ⟨(some 66), .mv (.t 5), none⟩, ⟨(some 67), .bin .eql .no (.t 65) (.t 66), none⟩, ⟨(some 68), .mv (.t 67), none⟩, ⟨(some 69), .mv (.t 0), (some (68, true))⟩, ⟨(some 70), .mv (.t 10), (some (68, true))⟩, ⟨(some 71), .mv (.t 7), (some (68, true))⟩, ⟨(some 72), .bin .sub .no (.t 70) (.t 71), (some (68, true))⟩, ⟨(some 73), .mv (.t 10), (some (68, true))⟩, ⟨(some 74), .cutS (.t 69) (some (.t 72)) (some (.t 73)), (some (68, true))⟩, ⟨(some 75), .mv (.t 1), (some (68, true))⟩, ⟨(some 76), .bin .eql .no (.t 74) (.t 75), (some (68, true))⟩, ⟨(some 77), .pick (.t 68) (.t 76) (.c (.bool false)), none⟩])
    (.cond (.t 77)
      (.seq (.reg [⟨(some 78), .mv (.t 10), none⟩, ⟨(some 79), .mv (.t 7), none⟩, ⟨(some 80), .bin .sub .no (.t 78) (.t 79), none⟩, ⟨(some 4), .mv (.t 80), none⟩])
      .ret)
      .skip)))))))))))
 (.seq (.reg [⟨(some 4), .mv (.c (.int .i64 (-1))), none⟩])
 .ret)))))))), [.tmp 4]⟩
theorem c43 : compF Tryd.prog Tryd.f43 = some m43 := by kernel_rfl
/-- unicode.isExcludingLatin -/
def m44 : MFunc := ⟨59, (.seq (.reg [⟨(some 4), .mv (.c (.bool false)), none⟩])
 (.seq (.reg [⟨(some 8), .mv (.t 0), none⟩, ⟨(some 9), .nilc (.t 8), none⟩, ⟨(some 10), .faddr 0 (.t 9), none⟩, ⟨(some 11), .load none (.t 10), none⟩, ⟨(some 5), .mv (.t 11), none⟩])
 (.seq (.seq (.reg [⟨(some 12), .mv (.t 0), none⟩, ⟨(some 13), .nilc (.t 12), none⟩, ⟨(some 14), .faddr 2 (.t 13), none⟩, ⟨(some 15), .load none (.t 14), none⟩, ⟨(some 6), .mv (.t 15), none⟩])
 (.seq (.reg [⟨(some 16), .mv (.t 5), none⟩, ⟨(some 17), .len (.t 16), none⟩, ⟨(some 18), .mv (.t 6), none⟩, ⟨(some 19), .bin .gtr .no (.t 17) (.t 18), none⟩, ⟨(some 20), .mv (.t 19), none⟩, ⟨(some 21), .mv (.t 1), (some (20, true))⟩, ⟨(some 22), .convI .u32 (.t 21), (some (20, true))⟩, ⟨(some 23), .mv (.t 5), (some (20, true))⟩, ⟨(some 24), .mv (.t 5), (some (20, true))⟩, ⟨(some 25), .len (.t 24), (some (20, true))⟩, ⟨(some 26), .bin .sub .no (.t 25) (.c (.int .i64 1)), (some (20, true))⟩, ⟨(some 27), .iaddr 3 (.t 23) (.t 26), (some (20, true))⟩, ⟨(some 28), .faddr 1 (.t 27), (some (20, true))⟩, ⟨(some 29), .load none (.t 28), (some (20, true))⟩, ⟨(some 30), .convI .u32 (.t 29), (some (20, true))⟩, ⟨(some 31), .bin .leq .no (.t 22) (.t 30), (some (20, true))⟩, ⟨(some 32), .pick (.t 20) (.t 31) (.c (.bool false)), none⟩])
 (.cond (.t 32)
   (.seq (.reg [⟨(some 33), .mv (.t 5), none⟩, ⟨(some 34), .mv (.t 6), none⟩, ⟨(some 35), .cut 3 (.t 33) (some (.t 34)) none none, none⟩, ⟨(some 36), .mv (.t 1), none⟩, ⟨(some 37), .convI .u16 (.t 36), none⟩, ⟨(some 38), .call (.c (.fn 46 [])) [(.t 35), (.t 37)], none⟩, ⟨(some 4), .mv (.t 38), none⟩])
   .ret)
   .skip)))
 (.seq (.reg [⟨(some 39), .mv (.t 0), none⟩, ⟨(some 40), .nilc (.t 39), none⟩, ⟨(some 41), .faddr 1 (.t 40), none⟩, ⟨(some 42), .load none (.t 41), none⟩, ⟨(some 7), .mv (.t 42), none⟩])
 (.seq (.seq (.reg [⟨(some 43), .mv (.t 7), none⟩, ⟨(some 44), .len (.t 43), none⟩, ⟨(some 45), .bin .gtr .no (.t 44) (.c (.int .i64 0)), none⟩, ⟨(some 46), .mv (.t 45), none⟩, ⟨(some 47), .mv (.t 1), (some (46, true))⟩, ⟨(some 48), .mv (.t 7), (some (46, true))⟩, ⟨(some 49), .iaddr 3 (.t 48) (.c (.int .i64 0)), (some (46, true))⟩, ⟨(some 50), .faddr 0 (.t 49), (some (46, true))⟩, ⟨(some 51), .load none (.t 50), (some (46, true))⟩, ⟨(some 52), .convI .i32 (.t 51), (some (46, true))⟩, ⟨(some 53), .bin .geq .no (.t 47) (.t 52), (some (46, true))⟩, ⟨(some 54), .pick (.t 46) (.t 53) (.c (.bool false)), none⟩])
 (.cond (.t 54)
   (.seq (.reg [⟨(some 55), .mv (.t 7), none⟩, ⟨(some 56), .mv (.t 1), none⟩, ⟨(some 57), .convI .u32 (.t 56), none⟩, ⟨(some 58), .call (.c (.fn 47 [])) [(.t 55), (.t 57)], none⟩, ⟨(some 4), .mv (.t 58), none⟩])
   .ret)
   .skip))
 (.seq (.reg [⟨(some 4), .mv (.c (.bool false)), none⟩])
 .ret)))))), [.tmp 4]⟩
theorem c44 : compF Tryd.prog Tryd.f44 = some m44 := by kernel_rfl
/-- internal/bytealg.hashStr[string] -/
def m45 : MFunc := ⟨39, (.seq (.reg [⟨(some 2), .mv (.c (.int .u32 0)), none⟩, ⟨(some 3), .mv (.c (.int .u32 0)), none⟩])
 (.seq (.reg [⟨(some 4), .mv (.c (.int .u32 0)), none⟩])
 (.seq (.seq (.reg [⟨(some 5), .mv (.c (.int .i64 0)), none⟩])
 (.block 0 (.loop (.seq (.seq (.reg [⟨(some 9), .mv (.t 5), none⟩, ⟨(some 10), .mv (.t 0), none⟩, ⟨(some 11), .lenS (.t 10), none⟩, ⟨(some 12), .bin .lss .no (.t 9) (.t 11), none⟩])
   (.cond (.t 12)
     .skip
     (.exit 0)))
   (.seq (.block 1 (.reg [⟨(some 15), .mv (.t 4), none⟩, ⟨(some 16), .bin .mul .no (.t 15) (.c (.int .u32 16777619)), none⟩, ⟨(some 17), .mv (.t 0), none⟩, ⟨(some 18), .mv (.t 5), none⟩, ⟨(some 19), .index (.t 17) (.t 18), none⟩, ⟨(some 20), .convI .u32 (.t 19), none⟩, ⟨(some 21), .bin .add .no (.t 16) (.t 20), none⟩, ⟨(some 4), .mv (.t 21), none⟩]))
   (.reg [⟨(some 13), .mv (.t 5), none⟩, ⟨(some 14), .bin .add .no (.t 13) (.c (.int .i64 1)), none⟩, ⟨(some 5), .mv (.t 14), none⟩]))))))
 (.seq (.reg [⟨(some 6), .mv (.c (.int .u32 1)), none⟩, ⟨(some 7), .mv (.c (.int .u32 16777619)), none⟩])
 (.seq (.seq (.reg [⟨(some 22), .mv (.t 0), none⟩, ⟨(some 23), .lenS (.t 22), none⟩, ⟨(some 8), .mv (.t 23), none⟩])
 (.block 2 (.loop (.seq (.seq (.reg [⟨(some 24), .mv (.t 8), none⟩, ⟨(some 25), .bin .gtr .no (.t 24) (.c (.int .i64 0)), none⟩])
   (.cond (.t 25)
     .skip
     (.exit 2)))
   (.seq (.block 3 (.seq (.seq (.reg [⟨(some 28), .mv (.t 8), none⟩, ⟨(some 29), .bin .and .no (.t 28) (.c (.int .i64 1)), none⟩, ⟨(some 30), .bin .neq .no (.t 29) (.c (.int .i64 0)), none⟩])
    (.cond (.t 30)
      (.reg [⟨(some 31), .mv (.t 6), none⟩, ⟨(some 32), .mv (.t 7), none⟩, ⟨(some 33), .bin .mul .no (.t 31) (.t 32), none⟩, ⟨(some 6), .mv (.t 33), none⟩])
      .skip))
    (.reg [⟨(some 34), .mv (.t 7), none⟩, ⟨(some 35), .mv (.t 7), none⟩, ⟨(some 36), .bin .mul .no (.t 34) (.t 35), none⟩, ⟨(some 7), .mv (.t 36), none⟩])))
   (.reg [⟨(some 26), .mv (.t 8), none⟩, ⟨(some 27), .bin .shr .no (.t 26) (.c (.int .u64 1)), none⟩, ⟨(some 8), .mv (.t 27), none⟩]))))))
 (.seq (.reg [⟨(some 37), .mv (.t 4), none⟩, ⟨(some 38), .mv (.t 6), none⟩, ⟨(some 2), .mv (.t 37), none⟩, ⟨(some 3), .mv (.t 38), none⟩])
 .ret)))))), [.tmp 2, .tmp 3]⟩
theorem c45 : compF Tryd.prog Tryd.f45 = some m45 := by kernel_rfl
/-- unicode.is16 -/
def m46 : MFunc := ⟨114, (.seq (.reg [⟨(some 4), .mv (.c (.bool false)), none⟩])
 (.seq (.seq (.reg [⟨(some 11), .mv (.t 0), none⟩, ⟨(some 12), .len (.t 11), none⟩, ⟨(some 13), .bin .leq .no (.t 12) (.c (.int .i64 18)), none⟩, ⟨(some 14), .mv (.t 13), none⟩, ⟨(some 15), .mv (.t 1), (some (14, false))⟩, ⟨(some 16), .bin .leq .no (.t 15) (.c (.int .u16 255)), (some (14, false))⟩, ⟨(some 17), .pick (.t 14) (.c (.bool true)) (.t 16), none⟩])
 (.cond (.t 17)
   (.seq (.seq (.reg [⟨(some 18), .mv (.t 0), none⟩, ⟨(some 19), .len (.t 18), none⟩, ⟨(some 20), .mv (.c (.int .i64 0)), none⟩])
   (.block 0 (.loop (.seq (.reg [⟨(some 21), .bin .lss .no (.t 20) (.t 19), none⟩])
     (.seq (.cond (.t 21)
       .skip
       (.exit 0))
     (.seq (.block 1 (.seq (.reg [⟨(some 22), .mv (.t 20), none⟩, ⟨(some 5), .mv (.t 22), none⟩])
      (.seq (.reg [⟨(some 23), .mv (.t 0), none⟩, ⟨(some 24), .mv (.t 5), none⟩, ⟨(some 25), .iaddr 3 (.t 23) (.t 24), none⟩, ⟨(some 6), .mv (.t 25), none⟩])
      (.seq (.seq (.reg [⟨(some 26), .mv (.t 1), none⟩, ⟨(some 27), .mv (.t 6), none⟩, ⟨(some 28), .nilc (.t 27), none⟩, ⟨(some 29), .faddr 0 (.t 28), none⟩, ⟨(some 30), .load none (.t 29), none⟩, ⟨(some 31), .bin .lss .no (.t 26) (.t 30), none⟩])
      (.cond (.t 31)
        (.seq (.reg [⟨(some 4), .mv (.c (.bool false)), none⟩])
        .ret)
        .skip))
      (.seq (.reg [⟨(some 32), .mv (.t 1), none⟩, ⟨(some 33), .mv (.t 6), none⟩, ⟨(some 34), .nilc (.t 33), none⟩, ⟨(some 35), .faddr 1 (.t 34), none⟩, ⟨(some 36), .load none (.t 35), none⟩, ⟨(some 37), .bin .leq .no (.t 32) (.t 36), none⟩])
      (.cond (.t 37)
        (.seq (.draw [⟨(some 38), .mv (.t 6), none⟩, ⟨(some 39), .nilc (.t 38), none⟩, ⟨(some 40), .faddr 2 (.t 39), none⟩, ⟨(some 41), .load none (.t 40), none⟩, ⟨(some 42), .bin .eql .no (.t 41) (.c (.int .u16 1)), none⟩, ⟨(some 43), .mv (.t 42), none⟩, ⟨(some 44), .mv (.t 1), (some (43, false))⟩, ⟨(some 45), .mv (.t 6), (some (43, false))⟩, ⟨(some 46), .nilc (.t 45), (some (43, false))⟩, ⟨(some 47), .faddr 0 (.t 46), (some (43, false))⟩, ⟨(some 48), .load none (.t 47), (some (43, false))⟩, ⟨(some 49), .bin .sub .no (.t 44) (.t 48), (some (43, false))⟩, ⟨(some 50), .mv (.t 6), (some (43, false))⟩, ⟨(some 51), .nilc (.t 50), (some (43, false))⟩, ⟨(some 52), .faddr 2 (.t 51), (some (43, false))⟩, ⟨(some 53), .load none (.t 52), (some (43, false))⟩, ⟨(some 54), .bin .rem .no (.t 49) (.t 53), (some (43, false))⟩, ⟨(some 55), .bin .eql .no (.t 54) (.c (.int .u16 0)), (some (43, false))⟩, ⟨(some 56), .pick (.t 43) (.c (.bool true)) (.t 55), none⟩, ⟨(some 4), .mv (.t 56), none⟩] [0, 1, 3, 7, 15, 31, 63, 63, 191, 447, 959, 2047, 63, 4159, 12351, 28735, 65535, 131071, 262143, 524287])
        .ret)
        .skip))))))
     (.reg [⟨(some 57), .bin .add .no (.t 20) (.c (.int .i64 1)), none⟩, ⟨(some 20), .mv (.t 57), none⟩])))))))
   (.seq (.reg [⟨(some 4), .mv (.c (.bool false)), none⟩])
   .ret))
   .skip))
 (.seq (.reg [⟨(some 7), .mv (.c (.int .i64 0)), none⟩])
 (.seq (.reg [⟨(some 58), .mv (.t 0), none⟩, ⟨(some 59), .len (.t 58), none⟩, ⟨(some 8), .mv (.t 59), none⟩])
 (.seq (.block 2 (.loop (.seq (.seq (.reg [⟨(some 60), .mv (.t 7), none⟩, ⟨(some 61), .mv (.t 8), none⟩, ⟨(some 62), .bin .lss .no (.t 60) (.t 61), none⟩])
   (.cond (.t 62)
     .skip
     (.exit 2)))
   (.block 3 (.seq (.reg [⟨(some 63), .mv (.t 7), none⟩, ⟨(some 64), .mv (.t 8), none⟩, ⟨(some 65), .bin .add .no (.t 63) (.t 64), none⟩, ⟨(some 66), .convI .u64 (.t 65), none⟩, ⟨(some 67), .bin .shr .no (.t 66) (.c (.int .u64 1)), none⟩, ⟨(some 68), .convI .i64 (.t 67), none⟩, ⟨(some 9), .mv (.t 68), none⟩])
    (.seq (.reg [⟨(some 69), .mv (.t 0), none⟩, ⟨(some 70), .mv (.t 9), none⟩, ⟨(some 71), .iaddr 3 (.t 69) (.t 70), none⟩, ⟨(some 10), .mv (.t 71), none⟩])
    (.seq (.seq (.reg [⟨(some 72), .mv (.t 10), none⟩, ⟨(some 73), .nilc (.t 72), none⟩, ⟨(some 74), .faddr 0 (.t 73), none⟩, ⟨(some 75), .load none (.t 74), none⟩, ⟨(some 76), .mv (.t 1), none⟩, ⟨(some 77), .bin .leq .no (.t 75) (.t 76), none⟩, ⟨(some 78), .mv (.t 77), none⟩, ⟨(some 79), .mv (.t 1), (some (78, true))⟩, ⟨(some 80), .mv (.t 10), (some (78, true))⟩, ⟨(some 81), .nilc (.t 80), (some (78, true))⟩, ⟨(some 82), .faddr 1 (.t 81), (some (78, true))⟩, ⟨(some 83), .load none (.t 82), (some (78, true))⟩, ⟨(some 84), .bin .leq .no (.t 79) (.t 83), (some (78, true))⟩, ⟨(some 85), .pick (.t 78) (.t 84) (.c (.bool false)), none⟩])
    (.cond (.t 85)
      (.seq (.draw [⟨(some 86), .mv (.t 10), none⟩, ⟨(some 87), .nilc (.t 86), none⟩, ⟨(some 88), .faddr 2 (.t 87), none⟩, ⟨(some 89), .load none (.t 88), none⟩, ⟨(some 90), .bin .eql .no (.t 89) (.c (.int .u16 1)), none⟩, ⟨(some 91), .mv (.t 90), none⟩, ⟨(some 92), .mv (.t 1), (some (91, false))⟩, ⟨(some 93), .mv (.t 10), (some (91, false))⟩, ⟨(some 94), .nilc (.t 93), (some (91, false))⟩, ⟨(some 95), .faddr 0 (.t 94), (some (91, false))⟩, ⟨(some 96), .load none (.t 95), (some (91, false))⟩, ⟨(some 97), .bin .sub .no (.t 92) (.t 96), (some (91, false))⟩, ⟨(some 98), .mv (.t 10), (some (91, false))⟩, ⟨(some 99), .nilc (.t 98), (some (91, false))⟩, ⟨(some 100), .faddr 2 (.t 99), (some (91, false))⟩, ⟨(some 101), .load none (.t 100), (some (91, false))⟩, ⟨(some 102), .bin .rem .no (.t 97) (.t 101), (some (91, false))⟩, ⟨(some 103), .bin .eql .no (.t 102) (.c (.int .u16 0)), (some (91, false))⟩, ⟨(some 104), .pick (.t 91) (.c (.bool true)) (.t 103), none⟩, ⟨(some 4), .mv (.t 104), none⟩] [0, 1, 3, 7, 15, 31, 63, 63, 191, 447, 959, 2047, 63, 4159, 12351, 28735, 65535, 131071, 262143, 524287])
      .ret)
      .skip))
    (.seq (.reg [⟨(some 105), .mv (.t 1), none⟩, ⟨(some 106), .mv (.t 10), none⟩, ⟨(some 107), .nilc (.t 106), none⟩, ⟨(some 108), .faddr 0 (.t 107), none⟩, ⟨(some 109), .load none (.t 108), none⟩, ⟨(some 110), .bin .lss .no (.t 105) (.t 109), none⟩])
    (.cond (.t 110)
      (.reg [⟨(some 111), .mv (.t 9), none⟩, ⟨(some 8), .mv (.t 111), none⟩])
      (.reg [⟨(some 112), .mv (.t 9), none⟩, ⟨(some 113), .bin .add .no (.t 112) (.c (.int .i64 1)), none⟩, ⟨(some 7), .mv (.t 113), none⟩]))))))))))
 (.seq (.reg [⟨(some 4), .mv (.c (.bool false)), none⟩])
 .ret)))))), [.tmp 4]⟩
theorem c46 : compF Tryd.prog Tryd.f46 = some m46 := by kernel_rfl
/-- unicode.is32 -/
def m47 : MFunc := ⟨99, (.seq (.reg [⟨(some 4), .mv (.c (.bool false)), none⟩])
 (.seq (.seq (.reg [⟨(some 11), .mv (.t 0), none⟩, ⟨(some 12), .len (.t 11), none⟩, ⟨(some 13), .bin .leq .no (.t 12) (.c (.int .i64 18)), none⟩])
 (.cond (.t 13)
   (.seq (.seq (.reg [⟨(some 14), .mv (.t 0), none⟩, ⟨(some 15), .len (.t 14), none⟩, ⟨(some 16), .mv (.c (.int .i64 0)), none⟩])
   (.block 0 (.loop (.seq (.reg [⟨(some 17), .bin .lss .no (.t 16) (.t 15), none⟩])
     (.seq (.cond (.t 17)
       .skip
       (.exit 0))
     (.seq (.block 1 (.seq (.reg [⟨(some 18), .mv (.t 16), none⟩, ⟨(some 5), .mv (.t 18), none⟩])
      (.seq (.reg [⟨(some 19), .mv (.t 0), none⟩, ⟨(some 20), .mv (.t 5), none⟩, ⟨(some 21), .iaddr 3 (.t 19) (.t 20), none⟩, ⟨(some 6), .mv (.t 21), none⟩])
      (.seq (.seq (.reg [⟨(some 22), .mv (.t 1), none⟩, ⟨(some 23), .mv (.t 6), none⟩, ⟨(some 24), .nilc (.t 23), none⟩, ⟨(some 25), .faddr 0 (.t 24), none⟩, ⟨(some 26), .load none (.t 25), none⟩, ⟨(some 27), .bin .lss .no (.t 22) (.t 26), none⟩])
      (.cond (.t 27)
        (.seq (.reg [⟨(some 4), .mv (.c (.bool false)), none⟩])
        .ret)
        .skip))
      (.seq (.reg [⟨(some 28), .mv (.t 1), none⟩, ⟨(some 29), .mv (.t 6), none⟩, ⟨(some 30), .nilc (.t 29), none⟩, ⟨(some 31), .faddr 1 (.t 30), none⟩, ⟨(some 32), .load none (.t 31), none⟩, ⟨(some 33), .bin .leq .no (.t 28) (.t 32), none⟩])
      (.cond (.t 33)
        (.seq (.draw [⟨(some 34), .mv (.t 6), none⟩, ⟨(some 35), .nilc (.t 34), none⟩, ⟨(some 36), .faddr 2 (.t 35), none⟩, ⟨(some 37), .load none (.t 36), none⟩, ⟨(some 38), .bin .eql .no (.t 37) (.c (.int .u32 1)), none⟩, ⟨(some 39), .mv (.t 38), none⟩, ⟨(some 40), .mv (.t 1), (some (39, false))⟩, ⟨(some 41), .mv (.t 6), (some (39, false))⟩, ⟨(some 42), .nilc (.t 41), (some (39, false))⟩, ⟨(some 43), .faddr 0 (.t 42), (some (39, false))⟩, ⟨(some 44), .load none (.t 43), (some (39, false))⟩, ⟨(some 45), .bin .sub .no (.t 40) (.t 44), (some (39, false))⟩, ⟨(some 46), .mv (.t 6), (some (39, false))⟩, ⟨(some 47), .nilc (.t 46), (some (39, false))⟩, ⟨(some 48), .faddr 2 (.t 47), (some (39, false))⟩, ⟨(some 49), .load none (.t 48), (some (39, false))⟩, ⟨(some 50), .bin .rem .no (.t 45) (.t 49), (some (39, false))⟩, ⟨(some 51), .bin .eql .no (.t 50) (.c (.int .u32 0)), (some (39, false))⟩, ⟨(some 52), .pick (.t 39) (.c (.bool true)) (.t 51), none⟩, ⟨(some 4), .mv (.t 52), none⟩] [0, 1, 3, 7, 15, 31, 63, 63, 191, 447, 959, 2047, 63, 4159, 12351, 28735, 65535, 131071, 262143, 524287])
        .ret)
        .skip))))))
     (.reg [⟨(some 53), .bin .add .no (.t 16) (.c (.int .i64 1)), none⟩, ⟨(some 16), .mv (.t 53), none⟩])))))))
   (.seq (.reg [⟨(some 4), .mv (.c (.bool false)), none⟩])
   .ret))
   .skip))
 (.seq (.reg [⟨(some 7), .mv (.c (.int .i64 0)), none⟩])
 (.seq (.reg [⟨(some 54), .mv (.t 0), none⟩, ⟨(some 55), .len (.t 54), none⟩, ⟨(some 8), .mv (.t 55), none⟩])
 (.seq (.block 2 (.loop (.seq (.seq (.reg [⟨(some 56), .mv (.t 7), none⟩, ⟨(some 57), .mv (.t 8), none⟩, ⟨(some 58), .bin .lss .no (.t 56) (.t 57), none⟩])
   (.cond (.t 58)
     .skip
     (.exit 2)))
   (.block 3 (.seq (.reg [⟨(some 59), .mv (.t 7), none⟩, ⟨(some 60), .mv (.t 8), none⟩, ⟨(some 61), .bin .add .no (.t 59) (.t 60), none⟩, ⟨(some 62), .convI .u64 (.t 61), none⟩, ⟨(some 63), .bin .shr .no (.t 62) (.c (.int .u64 1)), none⟩, ⟨(some 64), .convI .i64 (.t 63), none⟩, ⟨(some 9), .mv (.t 64), none⟩])
    (.seq (.reg [⟨(some 65), .mv (.t 0), none⟩, ⟨(some 66), .mv (.t 9), none⟩, ⟨(some 67), .iaddr 3 (.t 65) (.t 66), none⟩, ⟨(some 68), .load (some 3) (.t 67), none⟩, ⟨(some 10), .alloc [(.int .u32 0), (.int .u32 0), (.int .u32 0)], none⟩, ⟨none, .store 3 (.t 10) (.t 68), none⟩])
    (.seq (.seq (.reg [⟨(some 69), .faddr 0 (.t 10), none⟩, ⟨(some 70), .load none (.t 69), none⟩, ⟨(some 71), .mv (.t 1), none⟩, ⟨(some 72), .bin .leq .no (.t 70) (.t 71), none⟩, ⟨(some 73), .mv (.t 72), none⟩, ⟨(some 74), .mv (.t 1), (some (73, true))⟩, ⟨(some 75), .faddr 1 (.t 10), (some (73, true))⟩, ⟨(some 76), .load none (.t 75), (some (73, true))⟩, ⟨(some 77), .bin .leq .no (.t 74) (.t 76), (some (73, true))⟩, ⟨(some 78), .pick (.t 73) (.t 77) (.c (.bool false)), none⟩])
    (.cond (.t 78)
      (.seq (.reg [⟨(some 79), .faddr 2 (.t 10), none⟩, ⟨(some 80), .load none (.t 79), none⟩, ⟨(some 81), .bin .eql .no (.t 80) (.c (.int .u32 1)), none⟩, ⟨(some 82), .mv (.t 81), none⟩, ⟨(some 83), .mv (.t 1), (some (82, false))⟩, ⟨(some 84), .faddr 0 (.t 10), (some (82, false))⟩, ⟨(some 85), .load none (.t 84), (some (82, false))⟩, ⟨(some 86), .bin .sub .no (.t 83) (.t 85), (some (82, false))⟩, ⟨(some 87), .faddr 2 (.t 10), (some (82, false))⟩, ⟨(some 88), .load none (.t 87), (some (82, false))⟩, ⟨(some 89), .bin .rem .no (.t 86) (.t 88), (some (82, false))⟩, ⟨(some 90), .bin .eql .no (.t 89) (.c (.int .u32 0)), (some (82, false))⟩, ⟨(some 91), .pick (.t 82) (.c (.bool true)) (.t 90), none⟩, ⟨(some 4), .mv (.t 91), none⟩])
      .ret)
      .skip))
    (.seq (.reg [⟨(some 92), .mv (.t 1), none⟩, ⟨(some 93), .faddr 0 (.t 10), none⟩, ⟨(some 94), .load none (.t 93), none⟩, ⟨(some 95), .bin .lss .no (.t 92) (.t 94), none⟩])
    (.cond (.t 95)
      (.reg [⟨(some 96), .mv (.t 9), none⟩, ⟨(some 8), .mv (.t 96), none⟩])
      (.reg [⟨(some 97), .mv (.t 9), none⟩, ⟨(some 98), .bin .add .no (.t 97) (.c (.int .i64 1)), none⟩, ⟨(some 7), .mv (.t 98), none⟩]))))))))))
 (.seq (.reg [⟨(some 4), .mv (.c (.bool false)), none⟩])
 .ret)))))), [.tmp 4]⟩
theorem c47 : compF Tryd.prog Tryd.f47 = some m47 := by kernel_rfl
def tab (f : FuncId) : Option MFunc :=
  (bif Nat.blt f 24 then (bif Nat.blt f 13 then (bif Nat.blt f 8 then (bif Nat.blt f 5 then (bif Nat.blt f 4 then (bif Nat.beq f 3 then some m3 else none) else (bif Nat.beq f 4 then some m4 else none)) else (bif Nat.blt f 6 then (bif Nat.beq f 5 then some m5 else none) else (bif Nat.blt f 7 then (bif Nat.beq f 6 then some m6 else none) else (bif Nat.beq f 7 then some m7 else none)))) else (bif Nat.blt f 10 then (bif Nat.blt f 9 then (bif Nat.beq f 8 then some m8 else none) else (bif Nat.beq f 9 then some m9 else none)) else (bif Nat.blt f 11 then (bif Nat.beq f 10 then some m10 else none) else (bif Nat.blt f 12 then (bif Nat.beq f 11 then some m11 else none) else (bif Nat.beq f 12 then some m12 else none))))) else (bif Nat.blt f 18 then (bif Nat.blt f 15 then (bif Nat.blt f 14 then (bif Nat.beq f 13 then some m13 else none) else (bif Nat.beq f 14 then some m14 else none)) else (bif Nat.blt f 16 then (bif Nat.beq f 15 then some m15 else none) else (bif Nat.blt f 17 then (bif Nat.beq f 16 then some m16 else none) else (bif Nat.beq f 17 then some m17 else none)))) else (bif Nat.blt f 21 then (bif Nat.blt f 19 then (bif Nat.beq f 18 then some m18 else none) else (bif Nat.blt f 20 then (bif Nat.beq f 19 then some m19 else none) else (bif Nat.beq f 20 then some m20 else none))) else (bif Nat.blt f 22 then (bif Nat.beq f 21 then some m21 else none) else (bif Nat.blt f 23 then (bif Nat.beq f 22 then some m22 else none) else (bif Nat.beq f 23 then some m23 else none)))))) else (bif Nat.blt f 35 then (bif Nat.blt f 30 then (bif Nat.blt f 26 then (bif Nat.blt f 25 then (bif Nat.beq f 24 then some m24 else none) else (bif Nat.beq f 25 then some m25 else none)) else (bif Nat.blt f 27 then (bif Nat.beq f 26 then some m26 else none) else (bif Nat.blt f 29 then (bif Nat.beq f 27 then some m27 else none) else (bif Nat.beq f 29 then some m29 else none)))) else (bif Nat.blt f 32 then (bif Nat.blt f 31 then (bif Nat.beq f 30 then some m30 else none) else (bif Nat.beq f 31 then some m31 else none)) else (bif Nat.blt f 33 then (bif Nat.beq f 32 then some m32 else none) else (bif Nat.blt f 34 then (bif Nat.beq f 33 then some m33 else none) else (bif Nat.beq f 34 then some m34 else none))))) else (bif Nat.blt f 42 then (bif Nat.blt f 37 then (bif Nat.blt f 36 then (bif Nat.beq f 35 then some m35 else none) else (bif Nat.beq f 36 then some m36 else none)) else (bif Nat.blt f 38 then (bif Nat.beq f 37 then some m37 else none) else (bif Nat.blt f 39 then (bif Nat.beq f 38 then some m38 else none) else (bif Nat.beq f 39 then some m39 else none)))) else (bif Nat.blt f 45 then (bif Nat.blt f 43 then (bif Nat.beq f 42 then some m42 else none) else (bif Nat.blt f 44 then (bif Nat.beq f 43 then some m43 else none) else (bif Nat.beq f 44 then some m44 else none))) else (bif Nat.blt f 46 then (bif Nat.beq f 45 then some m45 else none) else (bif Nat.blt f 47 then (bif Nat.beq f 46 then some m46 else none) else (bif Nat.beq f 47 then some m47 else none)))))))
theorem tab_ok (f : FuncId) (m : MFunc) (h : tab f = some m) : ∃ fn, Tryd.prog.funcs[f]? = some fn ∧ compF Tryd.prog fn = some m :=
  tab_node h (fun h => tab_node h (fun h => tab_node h (fun h => tab_node h (fun h => tab_node h (fun h => tab_leaf h Tryd.func3 c3) (fun h => tab_leaf h Tryd.func4 c4)) (fun h => tab_node h (fun h => tab_leaf h Tryd.func5 c5) (fun h => tab_node h (fun h => tab_leaf h Tryd.func6 c6) (fun h => tab_leaf h Tryd.func7 c7)))) (fun h => tab_node h (fun h => tab_node h (fun h => tab_leaf h Tryd.func8 c8) (fun h => tab_leaf h Tryd.func9 c9)) (fun h => tab_node h (fun h => tab_leaf h Tryd.func10 c10) (fun h => tab_node h (fun h => tab_leaf h Tryd.func11 c11) (fun h => tab_leaf h Tryd.func12 c12))))) (fun h => tab_node h (fun h => tab_node h (fun h => tab_node h (fun h => tab_leaf h Tryd.func13 c13) (fun h => tab_leaf h Tryd.func14 c14)) (fun h => tab_node h (fun h => tab_leaf h Tryd.func15 c15) (fun h => tab_node h (fun h => tab_leaf h Tryd.func16 c16) (fun h => tab_leaf h Tryd.func17 c17)))) (fun h => tab_node h (fun h => tab_node h (fun h => tab_leaf h Tryd.func18 c18) (fun h => tab_node h (fun h => tab_leaf h Tryd.func19 c19) (fun h => tab_leaf h Tryd.func20 c20))) (fun h => tab_node h (fun h => tab_leaf h Tryd.func21 c21) (fun h => tab_node h (fun h => tab_leaf h Tryd.func22 c22) (fun h => tab_leaf h Tryd.func23 c23)))))) (fun h => tab_node h (fun h => tab_node h (fun h => tab_node h (fun h => tab_node h (fun h => tab_leaf h Tryd.func24 c24) (fun h => tab_leaf h Tryd.func25 c25)) (fun h => tab_node h (fun h => tab_leaf h Tryd.func26 c26) (fun h => tab_node h (fun h => tab_leaf h Tryd.func27 c27) (fun h => tab_leaf h Tryd.func29 c29)))) (fun h => tab_node h (fun h => tab_node h (fun h => tab_leaf h Tryd.func30 c30) (fun h => tab_leaf h Tryd.func31 c31)) (fun h => tab_node h (fun h => tab_leaf h Tryd.func32 c32) (fun h => tab_node h (fun h => tab_leaf h Tryd.func33 c33) (fun h => tab_leaf h Tryd.func34 c34))))) (fun h => tab_node h (fun h => tab_node h (fun h => tab_node h (fun h => tab_leaf h Tryd.func35 c35) (fun h => tab_leaf h Tryd.func36 c36)) (fun h => tab_node h (fun h => tab_leaf h Tryd.func37 c37) (fun h => tab_node h (fun h => tab_leaf h Tryd.func38 c38) (fun h => tab_leaf h Tryd.func39 c39)))) (fun h => tab_node h (fun h => tab_node h (fun h => tab_leaf h Tryd.func42 c42) (fun h => tab_node h (fun h => tab_leaf h Tryd.func43 c43) (fun h => tab_leaf h Tryd.func44 c44))) (fun h => tab_node h (fun h => tab_leaf h Tryd.func45 c45) (fun h => tab_node h (fun h => tab_leaf h Tryd.func46 c46) (fun h => tab_leaf h Tryd.func47 c47))))))
end Go.Proofs.YtbalajldicbbbaaDoor.Code
