/- A part of the proof: Code18. No condition. -/
import Derived.Test.YtgcehfooibpccaaProg
import Derived.Test.YtgcehfooibpccaaMiniFastAll
import Derived.KernelRfl
set_option maxRecDepth 100000
set_option maxHeartbeats 0
namespace Go.Proofs.Ytgcehfooibpccaa.Code
open Go.Mini

/-- weirgate/weirgatelaw18.FootApart -/
def m4 : MFunc := ⟨23, (.seq (.reg [⟨(some 2), .box 6 (.t 0), none⟩, ⟨(some 3), .box 6 (.t 1), none⟩, ⟨(some 4), .mv (.c (.bool false)), none⟩])
 (.seq (.seq (.reg [⟨(some 5), .call (.c (.fn 7 [])) [], none⟩, ⟨(some 6), .un .not (.t 5), none⟩])
 (.cond (.t 6)
   (.seq (.reg [⟨(some 4), .mv (.c (.bool false)), none⟩])
   .ret)
   .skip))
 (.seq (.draw [⟨(some 7), .load (some 6) (.t 2), none⟩, ⟨(some 8), .load (some 6) (.t 3), none⟩, ⟨(some 9), .call (.c (.fn 10 [])) [(.t 7), (.t 8)], none⟩, ⟨(some 10), .load (some 6) (.t 2), none⟩, ⟨(some 11), .load (some 6) (.t 3), none⟩, ⟨(some 12), .call (.c (.fn 11 [])) [(.t 10), (.t 11)], none⟩, ⟨(some 13), .bin .eql .bool (.t 9) (.t 12), none⟩, ⟨(some 14), .mv (.t 13), none⟩, ⟨(some 15), .load (some 6) (.t 2), (some (14, true))⟩, ⟨(some 16), .load (some 6) (.t 3), (some (14, true))⟩, ⟨(some 17), .call (.c (.fn 10 [])) [(.t 15), (.t 16)], (some (14, true))⟩, ⟨(some 18), .load (some 6) (.t 3), (some (14, true))⟩, ⟨(some 19), .load (some 6) (.t 2), (some (14, true))⟩, ⟨(some 20), .call (.c (.fn 10 [])) [(.t 18), (.t 19)], (some (14, true))⟩, ⟨(some 21), .bin .eql .bool (.t 17) (.t 20), (some (14, true))⟩, ⟨(some 22), .pick (.t 14) (.t 21) (.c (.bool false)), none⟩, ⟨(some 4), .mv (.t 22), none⟩] [0, 0, 3, 0, 0, 31, 63, 127, 255, 255, 1023, 255, 255, 8191, 16383, 32767, 65535])
 .ret))), [.tmp 4]⟩
theorem c4 : compF Try.prog Try.f4 = some m4 := by kernel_rfl
/-- weirgate/weirgatelaw18.awake -/
def m7 : MFunc := ⟨37, (.seq (.reg [⟨(some 0), .mv (.c (.bool false)), none⟩])
 (.seq (.reg [⟨(some 8), .call (.c (.fn 19 [])) [(.c (.str [118, 97, 114, 32, 120, 32, 111, 102, 32, 50, 59, 32, 118, 97, 114, 32, 121, 32, 111, 102, 32, 50, 59, 32, 112, 114, 111, 99, 32, 112, 32, 123, 32, 120, 32, 61, 32, 121, 32, 43, 32, 49, 59, 32, 125, 32, 115, 97, 102, 101, 32, 120, 32, 60, 32, 49, 59]))], none⟩, ⟨(some 7), .mv (.t 8), none⟩, ⟨(some 9), .extract (.t 7) 0, none⟩, ⟨(some 10), .extract (.t 7) 1, none⟩, ⟨(some 2), .alloc [(.int .i64 0), (.int .i64 0)], none⟩, ⟨(some 1), .mv (.t 9), none⟩, ⟨none, .store 2 (.t 2) (.t 10), none⟩])
 (.seq (.reg [⟨(some 12), .mv (.t 1), none⟩, ⟨(some 13), .call (.c (.fn 20 [])) [(.t 12)], none⟩, ⟨(some 11), .mv (.t 13), none⟩, ⟨(some 14), .extract (.t 11) 0, none⟩, ⟨(some 15), .extract (.t 11) 1, none⟩, ⟨(some 3), .alloc [.nils, (.int .i64 0), .nils, .nils, .nils, .nils, (.bool false)], none⟩, ⟨none, .store 7 (.t 3) (.t 14), none⟩, ⟨(some 4), .mv (.t 15), none⟩])
 (.seq (.reg [⟨(some 17), .load (some 7) (.t 3), none⟩, ⟨(some 18), .call (.c (.fn 9 [])) [(.t 17), (.c (.int .i64 0)), (.c (.int .i64 0))], none⟩, ⟨(some 16), .mv (.t 18), none⟩, ⟨(some 19), .extract (.t 16) 0, none⟩, ⟨(some 20), .extract (.t 16) 1, none⟩, ⟨(some 5), .alloc [(.int .u32 0), (.int .u32 0), (.int .u32 0), (.int .u32 0), (.int .u32 0), (.bool false)], none⟩, ⟨none, .store 6 (.t 5) (.t 19), none⟩, ⟨(some 6), .mv (.t 20), none⟩])
 (.seq (.reg [⟨(some 21), .mv (.t 6), none⟩, ⟨(some 22), .mv (.t 21), none⟩, ⟨(some 23), .load (some 6) (.t 5), (some (22, true))⟩, ⟨(some 24), .build [(.int .u32 0), (.int .u32 0), (.int .u32 0), (.int .u32 0), (.int .u32 0), (.bool false)] [(0, 1, (.c (.int .u32 2))), (1, 1, (.c (.int .u32 1)))], (some (22, true))⟩, ⟨(some 25), .bin .eql (.flat [.i, .i, .i, .i, .i, .b]) (.t 23) (.t 24), (some (22, true))⟩, ⟨(some 26), .pick (.t 22) (.t 25) (.c (.bool false)), none⟩, ⟨(some 27), .mv (.t 26), none⟩, ⟨(some 28), .load (some 7) (.t 3), (some (27, true))⟩, ⟨(some 29), .call (.c (.fn 15 [])) [(.t 28), (.c (.int .i64 0)), (.c (.int .i64 0))], (some (27, true))⟩, ⟨(some 30), .pick (.t 27) (.t 29) (.c (.bool false)), none⟩, ⟨(some 31), .mv (.t 30), none⟩, ⟨(some 32), .load (some 7) (.t 3), (some (31, true))⟩, ⟨(some 33), .call (.c (.fn 21 [])) [(.t 32)], (some (31, true))⟩, ⟨(some 34), .build [(.int .u32 0), (.int .u32 0), (.int .u32 0), (.int .u32 0), (.int .u32 0), (.bool false)] [(0, 1, (.c (.int .u32 1)))], (some (31, true))⟩, ⟨(some 35), .bin .eql (.flat [.i, .i, .i, .i, .i, .b]) (.t 33) (.t 34), (some (31, true))⟩, ⟨(some 36), .pick (.t 31) (.t 35) (.c (.bool false)), none⟩, ⟨(some 0), .mv (.t 36), none⟩])
 .ret))))), [.tmp 0]⟩
theorem c7 : compF Try.prog Try.f7 = some m7 := by kernel_rfl
/-- weirgate/foot.Edge -/
def m9 : MFunc := ⟨92, (.seq (.reg [⟨(some 3), .box 7 (.t 0), none⟩, ⟨(some 6), .alloc [(.int .u32 0), (.int .u32 0), (.int .u32 0), (.int .u32 0), (.int .u32 0), (.bool false)], none⟩, ⟨(some 7), .mv (.c (.bool false)), none⟩])
 (.seq (.seq (.reg [⟨(some 10), .mv (.t 1), none⟩, ⟨(some 11), .bin .lss .no (.t 10) (.c (.int .i64 0)), none⟩, ⟨(some 12), .mv (.t 11), none⟩, ⟨(some 13), .mv (.t 1), (some (12, false))⟩, ⟨(some 14), .faddr 4 (.t 3), (some (12, false))⟩, ⟨(some 15), .load none (.t 14), (some (12, false))⟩, ⟨(some 16), .len (.t 15), (some (12, false))⟩, ⟨(some 17), .bin .geq .no (.t 13) (.t 16), (some (12, false))⟩, ⟨(some 18), .pick (.t 12) (.c (.bool true)) (.t 17), none⟩, ⟨(some 19), .mv (.t 18), none⟩, ⟨(some 20), .mv (.t 2), (some (19, false))⟩, ⟨(some 21), .bin .lss .no (.t 20) (.c (.int .i64 0)), (some (19, false))⟩, ⟨(some 22), .pick (.t 19) (.c (.bool true)) (.t 21), none⟩, ⟨(some 23), .mv (.t 22), none⟩, ⟨(some 24), .mv (.t 2), (some (23, false))⟩, ⟨(some 25), .faddr 4 (.t 3), (some (23, false))⟩, ⟨(some 26), .load none (.t 25), (some (23, false))⟩, ⟨(some 27), .mv (.t 1), (some (23, false))⟩, ⟨(some 28), .iaddr 8 (.t 26) (.t 27), (some (23, false))⟩, ⟨(some 29), .faddr 5 (.t 28), (some (23, false))⟩, ⟨(some 30), .load none (.t 29), (some (23, false))⟩, ⟨(some 31), .len (.t 30), (some (23, false))⟩, ⟨(some 32), .bin .geq .no (.t 24) (.t 31), (some (23, false))⟩, ⟨(some 33), .pick (.t 23) (.c (.bool true)) (.t 32), none⟩])
 (.cond (.t 33)
   (.seq (.reg [⟨(some 34), .build [(.int .u32 0), (.int .u32 0), (.int .u32 0), (.int .u32 0), (.int .u32 0), (.bool false)] [], none⟩, ⟨none, .store 6 (.t 6) (.t 34), none⟩, ⟨(some 7), .mv (.c (.bool false)), none⟩])
   .ret)
   .skip))
 (.seq (.reg [⟨(some 35), .faddr 4 (.t 3), none⟩, ⟨(some 36), .load none (.t 35), none⟩, ⟨(some 37), .mv (.t 1), none⟩, ⟨(some 38), .iaddr 8 (.t 36) (.t 37), none⟩, ⟨(some 39), .faddr 5 (.t 38), none⟩, ⟨(some 40), .load none (.t 39), none⟩, ⟨(some 41), .mv (.t 2), none⟩, ⟨(some 42), .iaddr 8 (.t 40) (.t 41), none⟩, ⟨(some 43), .load (some 8) (.t 42), none⟩, ⟨(some 8), .alloc [(.int .i64 0), (.int .i64 0), (.int .i64 0), (.int .i64 0), (.int .i64 0), (.int .i64 0), (.bool false), (.int .i64 0)], none⟩, ⟨none, .store 8 (.t 8) (.t 43), none⟩])
 (.seq (.draw [⟨(some 44), .load (some 7) (.t 3), none⟩, ⟨(some 45), .faddr 4 (.t 3), none⟩, ⟨(some 46), .load none (.t 45), none⟩, ⟨(some 47), .mv (.t 1), none⟩, ⟨(some 48), .iaddr 8 (.t 46) (.t 47), none⟩, ⟨(some 49), .build [.nils, (.int .i64 0), .nils, .nils, .nils, .nils, (.bool false), .nilp, (.int .u32 0), (.int .u32 0), (.int .u32 0), (.int .u32 0), (.int .u32 0), (.bool false)] [(0, 7, (.t 44)), (7, 1, (.t 48))], none⟩, ⟨(some 50), .box 14 (.t 49), none⟩, ⟨(some 9), .mv (.t 50), none⟩] [0, 0, 2, 0, 14, 31, 63, 127])
 (.seq (.seq (.reg [⟨(some 51), .faddr 3 (.t 8), none⟩, ⟨(some 52), .load none (.t 51), none⟩, ⟨(some 53), .bin .geq .no (.t 52) (.c (.int .i64 0)), none⟩])
 (.cond (.t 53)
   (.reg [⟨(some 54), .mv (.t 9), none⟩, ⟨(some 55), .faddr 3 (.t 8), none⟩, ⟨(some 56), .load none (.t 55), none⟩, ⟨(some 57), .call (.c (.fn 24 [])) [(.t 54), (.t 56)], none⟩])
   .skip))
 (.seq (.seq (.reg [⟨(some 58), .faddr 4 (.t 8), none⟩, ⟨(some 59), .load none (.t 58), none⟩, ⟨(some 60), .bin .geq .no (.t 59) (.c (.int .i64 0)), none⟩])
 (.cond (.t 60)
   (.reg [⟨(some 61), .mv (.t 9), none⟩, ⟨(some 62), .faddr 4 (.t 8), none⟩, ⟨(some 63), .load none (.t 62), none⟩, ⟨(some 64), .bin .shl .no (.c (.int .u32 1)) (.t 63), none⟩, ⟨(some 65), .nilc (.t 61), none⟩, ⟨(some 66), .faddr 8 (.t 65), none⟩, ⟨(some 67), .faddr 1 (.t 66), none⟩, ⟨none, .store 1 (.t 67) (.t 64), none⟩])
   .skip))
 (.seq (.seq (.reg [⟨(some 68), .faddr 2 (.t 8), none⟩, ⟨(some 69), .load none (.t 68), none⟩])
 (.block 0 (.seq (.reg [⟨(some 71), .bin .eql .no (.t 69) (.c (.int .i64 2)), none⟩, ⟨(some 70), .mv (.t 71), none⟩])
  (.cond (.t 70)
    (.reg [⟨(some 72), .mv (.t 9), none⟩, ⟨(some 73), .faddr 5 (.t 8), none⟩, ⟨(some 74), .load none (.t 73), none⟩, ⟨(some 75), .bin .shl .no (.c (.int .u32 1)) (.t 74), none⟩, ⟨(some 76), .nilc (.t 72), none⟩, ⟨(some 77), .faddr 8 (.t 76), none⟩, ⟨(some 78), .faddr 2 (.t 77), none⟩, ⟨none, .store 1 (.t 78) (.t 75), none⟩])
    (.seq (.reg [⟨(some 80), .bin .eql .no (.t 69) (.c (.int .i64 3)), none⟩, ⟨(some 79), .mv (.t 80), none⟩])
    (.cond (.t 79)
      (.reg [⟨(some 81), .mv (.t 9), none⟩, ⟨(some 82), .faddr 5 (.t 8), none⟩, ⟨(some 83), .load none (.t 82), none⟩, ⟨(some 84), .bin .shl .no (.c (.int .u32 1)) (.t 83), none⟩, ⟨(some 85), .nilc (.t 81), none⟩, ⟨(some 86), .faddr 8 (.t 85), none⟩, ⟨(some 87), .faddr 3 (.t 86), none⟩, ⟨none, .store 1 (.t 87) (.t 84), none⟩])
      .skip))))))
 (.seq (.reg [⟨(some 88), .mv (.t 9), none⟩, ⟨(some 89), .nilc (.t 88), none⟩, ⟨(some 90), .faddr 8 (.t 89), none⟩, ⟨(some 91), .load (some 6) (.t 90), none⟩, ⟨none, .store 6 (.t 6) (.t 91), none⟩, ⟨(some 7), .mv (.c (.bool true)), none⟩])
 .ret)))))))), [.cell 6 (some 6), .tmp 7]⟩
theorem c9 : compF Try.prog Try.f9 = some m9 := by kernel_rfl
/-- weirgate/foot.Apart -/
def m10 : MFunc := ⟨15, (.seq (.reg [⟨(some 2), .box 6 (.t 0), none⟩, ⟨(some 3), .box 6 (.t 1), none⟩, ⟨(some 4), .mv (.c (.bool false)), none⟩])
 (.seq (.reg [⟨(some 5), .load (some 6) (.t 2), none⟩, ⟨(some 6), .load (some 6) (.t 3), none⟩, ⟨(some 7), .call (.c (.fn 25 [])) [(.t 5), (.t 6)], none⟩, ⟨(some 8), .un .not (.t 7), none⟩, ⟨(some 9), .mv (.t 8), none⟩, ⟨(some 10), .load (some 6) (.t 3), (some (9, true))⟩, ⟨(some 11), .load (some 6) (.t 2), (some (9, true))⟩, ⟨(some 12), .call (.c (.fn 25 [])) [(.t 10), (.t 11)], (some (9, true))⟩, ⟨(some 13), .un .not (.t 12), (some (9, true))⟩, ⟨(some 14), .pick (.t 9) (.t 13) (.c (.bool false)), none⟩, ⟨(some 4), .mv (.t 14), none⟩])
 .ret)), [.tmp 4]⟩
theorem c10 : compF Try.prog Try.f10 = some m10 := by kernel_rfl
/-- weirgate/weirgateref18.Apart -/
def m11 : MFunc := ⟨54, (.seq (.reg [⟨(some 2), .box 6 (.t 0), none⟩, ⟨(some 3), .box 6 (.t 1), none⟩, ⟨(some 4), .mv (.c (.bool false)), none⟩])
 (.seq (.seq (.reg [⟨(some 7), .faddr 1 (.t 2), none⟩, ⟨(some 8), .load none (.t 7), none⟩, ⟨(some 9), .faddr 0 (.t 3), none⟩, ⟨(some 10), .load none (.t 9), none⟩, ⟨(some 11), .call (.c (.fn 26 [])) [(.t 8), (.t 10)], none⟩, ⟨(some 12), .mv (.t 11), none⟩, ⟨(some 13), .faddr 1 (.t 2), (some (12, false))⟩, ⟨(some 14), .load none (.t 13), (some (12, false))⟩, ⟨(some 15), .faddr 1 (.t 3), (some (12, false))⟩, ⟨(some 16), .load none (.t 15), (some (12, false))⟩, ⟨(some 17), .call (.c (.fn 26 [])) [(.t 14), (.t 16)], (some (12, false))⟩, ⟨(some 18), .pick (.t 12) (.c (.bool true)) (.t 17), none⟩, ⟨(some 19), .mv (.t 18), none⟩, ⟨(some 20), .faddr 1 (.t 3), (some (19, false))⟩, ⟨(some 21), .load none (.t 20), (some (19, false))⟩, ⟨(some 22), .faddr 0 (.t 2), (some (19, false))⟩, ⟨(some 23), .load none (.t 22), (some (19, false))⟩, ⟨(some 24), .call (.c (.fn 26 [])) [(.t 21), (.t 23)], (some (19, false))⟩, ⟨(some 25), .pick (.t 19) (.c (.bool true)) (.t 24), none⟩])
 (.cond (.t 25)
   (.seq (.reg [⟨(some 4), .mv (.c (.bool false)), none⟩])
   .ret)
   .skip))
 (.seq (.draw [⟨(some 26), .faddr 2 (.t 2), none⟩, ⟨(some 27), .load none (.t 26), none⟩, ⟨(some 28), .faddr 3 (.t 2), none⟩, ⟨(some 29), .load none (.t 28), none⟩, ⟨(some 30), .bin .or .no (.t 27) (.t 29), none⟩, ⟨(some 31), .faddr 2 (.t 3), none⟩, ⟨(some 32), .load none (.t 31), none⟩, ⟨(some 33), .faddr 3 (.t 3), none⟩, ⟨(some 34), .load none (.t 33), none⟩, ⟨(some 35), .bin .or .no (.t 32) (.t 34), none⟩, ⟨(some 5), .mv (.t 30), none⟩, ⟨(some 6), .mv (.t 35), none⟩] [0, 1, 0, 4, 15, 0, 32, 0, 128, 480, 31, 2047])
 (.seq (.reg [⟨(some 36), .mv (.t 5), none⟩, ⟨(some 37), .mv (.t 6), none⟩, ⟨(some 38), .call (.c (.fn 26 [])) [(.t 36), (.t 37)], none⟩, ⟨(some 39), .un .not (.t 38), none⟩, ⟨(some 40), .mv (.t 39), none⟩, ⟨(some 41), .mv (.t 5), (some (40, true))⟩, ⟨(some 42), .faddr 4 (.t 3), (some (40, true))⟩, ⟨(some 43), .load none (.t 42), (some (40, true))⟩, ⟨(some 44), .call (.c (.fn 26 [])) [(.t 41), (.t 43)], (some (40, true))⟩, ⟨(some 45), .un .not (.t 44), (some (40, true))⟩, ⟨(some 46), .pick (.t 40) (.t 45) (.c (.bool false)), none⟩, ⟨(some 47), .mv (.t 46), none⟩, ⟨(some 48), .mv (.t 6), (some (47, true))⟩, ⟨(some 49), .faddr 4 (.t 2), (some (47, true))⟩, ⟨(some 50), .load none (.t 49), (some (47, true))⟩, ⟨(some 51), .call (.c (.fn 26 [])) [(.t 48), (.t 50)], (some (47, true))⟩, ⟨(some 52), .un .not (.t 51), (some (47, true))⟩, ⟨(some 53), .pick (.t 47) (.t 52) (.c (.bool false)), none⟩, ⟨(some 4), .mv (.t 53), none⟩])
 .ret)))), [.tmp 4]⟩
theorem c11 : compF Try.prog Try.f11 = some m11 := by kernel_rfl
/-- weirgate/foot.Visible -/
def m15 : MFunc := ⟨23, (.seq (.reg [⟨(some 3), .box 7 (.t 0), none⟩, ⟨(some 6), .mv (.c (.bool false)), none⟩])
 (.seq (.reg [⟨(some 10), .load (some 7) (.t 3), none⟩, ⟨(some 11), .mv (.t 1), none⟩, ⟨(some 12), .mv (.t 2), none⟩, ⟨(some 13), .call (.c (.fn 9 [])) [(.t 10), (.t 11), (.t 12)], none⟩, ⟨(some 9), .mv (.t 13), none⟩, ⟨(some 14), .extract (.t 9) 0, none⟩, ⟨(some 15), .extract (.t 9) 1, none⟩, ⟨(some 7), .alloc [(.int .u32 0), (.int .u32 0), (.int .u32 0), (.int .u32 0), (.int .u32 0), (.bool false)], none⟩, ⟨none, .store 6 (.t 7) (.t 14), none⟩, ⟨(some 8), .mv (.t 15), none⟩])
 (.seq (.draw [⟨(some 16), .mv (.t 8), none⟩, ⟨(some 17), .mv (.t 16), none⟩, ⟨(some 18), .load (some 6) (.t 7), (some (17, true))⟩, ⟨(some 19), .load (some 7) (.t 3), (some (17, true))⟩, ⟨(some 20), .call (.c (.fn 21 [])) [(.t 19)], (some (17, true))⟩, ⟨(some 21), .call (.c (.fn 25 [])) [(.t 18), (.t 20)], (some (17, true))⟩, ⟨(some 22), .pick (.t 17) (.t 21) (.c (.bool false)), none⟩, ⟨(some 6), .mv (.t 22), none⟩] [0, 1, 3, 3, 11, 31, 63, 127])
 .ret))), [.tmp 6]⟩
theorem c15 : compF Try.prog Try.f15 = some m15 := by kernel_rfl
/-- weirgate/weirgateref09.Parse -/
def m19 : MFunc := ⟨48, (.seq (.reg [⟨(some 2), .mv (.c .nils), none⟩, ⟨(some 3), .alloc [(.int .i64 0), (.int .i64 0)], none⟩])
 (.seq (.reg [⟨(some 11), .mv (.t 0), none⟩, ⟨(some 12), .call (.c (.fn 34 [])) [(.t 11)], none⟩, ⟨(some 10), .mv (.t 12), none⟩, ⟨(some 13), .extract (.t 10) 0, none⟩, ⟨(some 14), .extract (.t 10) 1, none⟩, ⟨(some 5), .alloc [(.int .i64 0), (.int .i64 0)], none⟩, ⟨(some 4), .mv (.t 13), none⟩, ⟨none, .store 2 (.t 5) (.t 14), none⟩])
 (.seq (.seq (.reg [⟨(some 15), .faddr 0 (.t 5), none⟩, ⟨(some 16), .load none (.t 15), none⟩, ⟨(some 17), .bin .neq .no (.t 16) (.c (.int .i64 0)), none⟩])
 (.cond (.t 17)
   (.seq (.draw [⟨(some 18), .load (some 2) (.t 5), none⟩, ⟨(some 2), .mv (.c .nils), none⟩, ⟨none, .store 2 (.t 3) (.t 18), none⟩] [0, 0, 3])
   .ret)
   .skip))
 (.seq (.reg [⟨(some 19), .mv (.t 4), none⟩, ⟨(some 20), .build [.nils, (.int .i64 0), (.int .i64 0), (.int .i64 0), (.int .i64 0)] [(0, 1, (.t 19))], none⟩, ⟨(some 21), .box 5 (.t 20), none⟩, ⟨(some 6), .mv (.t 21), none⟩])
 (.seq (.reg [⟨(some 22), .mv (.t 6), none⟩, ⟨(some 23), .call (.c (.fn 35 [])) [(.t 22)], none⟩, ⟨(some 7), .alloc [(.int .i64 0), .nils, .nils, .nils, (.int .i64 0), .nils], none⟩, ⟨none, .store 6 (.t 7) (.t 23), none⟩])
 (.seq (.seq (.reg [⟨(some 24), .mv (.t 6), none⟩, ⟨(some 25), .nilc (.t 24), none⟩, ⟨(some 26), .faddr 3 (.t 25), none⟩, ⟨(some 27), .faddr 0 (.t 26), none⟩, ⟨(some 28), .load none (.t 27), none⟩, ⟨(some 29), .bin .neq .no (.t 28) (.c (.int .i64 0)), none⟩])
 (.cond (.t 29)
   (.seq (.draw [⟨(some 30), .mv (.t 6), none⟩, ⟨(some 31), .nilc (.t 30), none⟩, ⟨(some 32), .faddr 3 (.t 31), none⟩, ⟨(some 33), .load (some 2) (.t 32), none⟩, ⟨(some 2), .mv (.c .nils), none⟩, ⟨none, .store 2 (.t 3) (.t 33), none⟩] [0, 1, 3, 7, 0, 31])
   .ret)
   .skip))
 (.seq (.reg [⟨(some 34), .load (some 6) (.t 7), none⟩, ⟨(some 35), .call (.c (.fn 36 [])) [(.t 34), (.c .nils)], none⟩, ⟨(some 8), .mv (.t 35), none⟩])
 (.seq (.seq (.reg [⟨(some 36), .mv (.t 8), none⟩, ⟨(some 37), .len (.t 36), none⟩, ⟨(some 38), .bin .gtr .no (.t 37) (.c (.int .i64 800)), none⟩])
 (.cond (.t 38)
   (.seq (.reg [⟨(some 39), .build [(.int .i64 0), (.int .i64 0)] [(0, 1, (.c (.int .i64 12)))], none⟩, ⟨(some 2), .mv (.c .nils), none⟩, ⟨none, .store 2 (.t 3) (.t 39), none⟩])
   .ret)
   .skip))
 (.seq (.reg [⟨(some 40), .load (some 6) (.t 7), none⟩, ⟨(some 41), .call (.c (.fn 37 [])) [(.t 40), (.c (.int .i64 1))], none⟩, ⟨(some 9), .mv (.t 41), none⟩])
 (.seq (.seq (.reg [⟨(some 42), .mv (.t 9), none⟩, ⟨(some 43), .bin .geq .no (.t 42) (.c (.int .i64 0)), none⟩])
 (.cond (.t 43)
   (.seq (.reg [⟨(some 44), .mv (.t 9), none⟩, ⟨(some 45), .build [(.int .i64 0), (.int .i64 0)] [(0, 1, (.c (.int .i64 12))), (1, 1, (.t 44))], none⟩, ⟨(some 2), .mv (.c .nils), none⟩, ⟨none, .store 2 (.t 3) (.t 45), none⟩])
   .ret)
   .skip))
 (.seq (.reg [⟨(some 46), .mv (.t 8), none⟩, ⟨(some 47), .build [(.int .i64 0), (.int .i64 0)] [], none⟩, ⟨(some 2), .mv (.t 46), none⟩, ⟨none, .store 2 (.t 3) (.t 47), none⟩])
 .ret))))))))))), [.tmp 2, .cell 3 (some 2)]⟩
theorem c19 : compF Try.prog Try.f19 = some m19 := by kernel_rfl
/-- weirgate/weirgateref13.Make -/
def m20 : MFunc := ⟨270, (.seq (.reg [⟨(some 2), .alloc [.nils, (.int .i64 0), .nils, .nils, .nils, .nils, (.bool false)], none⟩, ⟨(some 3), .mv (.c (.bool false)), none⟩])
 (.seq (.reg [⟨(some 16), .mv (.t 0), none⟩, ⟨(some 17), .call (.c (.fn 38 [])) [(.t 16)], none⟩, ⟨(some 4), .alloc [(.int .i64 0), (.int .i64 0)], none⟩, ⟨none, .store 2 (.t 4) (.t 17), none⟩])
 (.seq (.seq (.reg [⟨(some 18), .faddr 0 (.t 4), none⟩, ⟨(some 19), .load none (.t 18), none⟩, ⟨(some 20), .bin .neq .no (.t 19) (.c (.int .i64 0)), none⟩])
 (.cond (.t 20)
   (.seq (.reg [⟨(some 21), .build [.nils, (.int .i64 0), .nils, .nils, .nils, .nils, (.bool false)] [], none⟩, ⟨none, .store 7 (.t 2) (.t 21), none⟩, ⟨(some 3), .mv (.c (.bool false)), none⟩])
   .ret)
   .skip))
 (.seq (.reg [⟨(some 22), .mv (.t 0), none⟩, ⟨(some 23), .build [.nils, (.int .i64 0), .nils, .nils, .nils, .nils, (.bool false)] [(0, 1, (.t 22))], none⟩, ⟨(some 5), .alloc [.nils, (.int .i64 0), .nils, .nils, .nils, .nils, (.bool false)], none⟩, ⟨none, .store 7 (.t 5) (.t 23), none⟩])
 (.seq (.seq (.reg [⟨(some 6), .mv (.c (.int .i64 0)), none⟩])
 (.block 0 (.loop (.seq (.seq (.reg [⟨(some 24), .mv (.t 6), none⟩, ⟨(some 25), .mv (.t 0), none⟩, ⟨(some 26), .iaddr 5 (.t 25) (.c (.int .i64 0)), none⟩, ⟨(some 27), .faddr 3 (.t 26), none⟩, ⟨(some 28), .load none (.t 27), none⟩, ⟨(some 29), .len (.t 28), none⟩, ⟨(some 30), .bin .lss .no (.t 24) (.t 29), none⟩])
   (.cond (.t 30)
     .skip
     (.exit 0)))
   (.seq (.block 1 (.seq (.reg [⟨(some 33), .mv (.t 0), none⟩, ⟨(some 34), .mv (.t 0), none⟩, ⟨(some 35), .iaddr 5 (.t 34) (.c (.int .i64 0)), none⟩, ⟨(some 36), .faddr 3 (.t 35), none⟩, ⟨(some 37), .load none (.t 36), none⟩, ⟨(some 38), .mv (.t 6), none⟩, ⟨(some 39), .iaddr 1 (.t 37) (.t 38), none⟩, ⟨(some 40), .load none (.t 39), none⟩, ⟨(some 41), .iaddr 5 (.t 33) (.t 40), none⟩, ⟨(some 42), .load (some 5) (.t 41), none⟩, ⟨(some 7), .alloc [(.int .i64 0), .nils, .nils, .nils, (.int .i64 0)], none⟩, ⟨none, .store 5 (.t 7) (.t 42), none⟩])
    (.seq (.reg [⟨(some 43), .faddr 0 (.t 7), none⟩, ⟨(some 44), .load none (.t 43), none⟩])
    (.block 2 (.seq (.reg [⟨(some 46), .bin .eql .no (.t 44) (.c (.int .i64 1)), none⟩, ⟨(some 45), .mv (.t 46), none⟩])
     (.cond (.t 45)
       (.draw [⟨(some 47), .faddr 2 (.t 5), none⟩, ⟨(some 48), .load none (.t 47), none⟩, ⟨(some 49), .faddr 1 (.t 7), none⟩, ⟨(some 50), .load none (.t 49), none⟩, ⟨(some 51), .iaddr 1 (.t 50) (.c (.int .i64 0)), none⟩, ⟨(some 52), .load none (.t 51), none⟩, ⟨(some 53), .faddr 2 (.t 7), none⟩, ⟨(some 54), .load none (.t 53), none⟩, ⟨(some 55), .iaddr 1 (.t 54) (.c (.int .i64 0)), none⟩, ⟨(some 56), .load none (.t 55), none⟩, ⟨(some 57), .faddr 2 (.t 7), none⟩, ⟨(some 58), .load none (.t 57), none⟩, ⟨(some 59), .iaddr 1 (.t 58) (.c (.int .i64 1)), none⟩, ⟨(some 60), .load none (.t 59), none⟩, ⟨(some 61), .faddr 2 (.t 7), none⟩, ⟨(some 62), .load none (.t 61), none⟩, ⟨(some 63), .iaddr 1 (.t 62) (.c (.int .i64 2)), none⟩, ⟨(some 64), .load none (.t 63), none⟩, ⟨(some 65), .bin .eql .no (.t 64) (.c (.int .i64 1)), none⟩, ⟨(some 66), .faddr 2 (.t 7), none⟩, ⟨(some 67), .load none (.t 66), none⟩, ⟨(some 68), .iaddr 1 (.t 67) (.c (.int .i64 3)), none⟩, ⟨(some 69), .load none (.t 68), none⟩, ⟨(some 70), .bin .eql .no (.t 69) (.c (.int .i64 1)), none⟩, ⟨(some 71), .build [(.str []), (.int .i64 0), (.int .i64 0), (.bool false), (.bool false)] [(0, 1, (.t 52)), (1, 1, (.t 56)), (2, 1, (.t 60)), (3, 1, (.t 65)), (4, 1, (.t 70))], none⟩, ⟨(some 72), .bslice 5 1 [(.str []), (.int .i64 0), (.int .i64 0), (.bool false), (.bool false)] [(0, 5, (.t 71))], none⟩, ⟨(some 73), .append 5 40 (.t 48) (.t 72), none⟩, ⟨(some 74), .faddr 2 (.t 5), none⟩, ⟨none, .store 1 (.t 74) (.t 73), none⟩] [0, 1, 0, 4, 12, 28, 0, 64, 192, 448, 0, 1024, 3072, 7168, 0, 16384, 49152, 114688, 245760, 0, 524288, 1572864, 3670016, 7864320, 16777212, 33554428, 67108863, 134217727, 268435455])
       (.seq (.reg [⟨(some 76), .bin .eql .no (.t 44) (.c (.int .i64 2)), none⟩, ⟨(some 75), .mv (.t 76), none⟩])
       (.cond (.t 75)
         (.draw [⟨(some 77), .faddr 3 (.t 5), none⟩, ⟨(some 78), .load none (.t 77), none⟩, ⟨(some 79), .faddr 1 (.t 7), none⟩, ⟨(some 80), .load none (.t 79), none⟩, ⟨(some 81), .iaddr 1 (.t 80) (.c (.int .i64 0)), none⟩, ⟨(some 82), .load none (.t 81), none⟩, ⟨(some 83), .faddr 2 (.t 7), none⟩, ⟨(some 84), .load none (.t 83), none⟩, ⟨(some 85), .iaddr 1 (.t 84) (.c (.int .i64 0)), none⟩, ⟨(some 86), .load none (.t 85), none⟩, ⟨(some 87), .faddr 2 (.t 7), none⟩, ⟨(some 88), .load none (.t 87), none⟩, ⟨(some 89), .iaddr 1 (.t 88) (.c (.int .i64 1)), none⟩, ⟨(some 90), .load none (.t 89), none⟩, ⟨(some 91), .build [(.str []), (.int .i64 0), (.int .i64 0)] [(0, 1, (.t 82)), (1, 1, (.t 86)), (2, 1, (.t 90))], none⟩, ⟨(some 92), .bslice 3 1 [(.str []), (.int .i64 0), (.int .i64 0)] [(0, 3, (.t 91))], none⟩, ⟨(some 93), .append 3 32 (.t 78) (.t 92), none⟩, ⟨(some 94), .faddr 3 (.t 5), none⟩, ⟨none, .store 1 (.t 94) (.t 93), none⟩] [0, 1, 0, 4, 12, 28, 0, 64, 192, 448, 0, 1024, 3072, 7168, 16380, 32764, 65535, 131071, 262143])
         (.seq (.reg [⟨(some 96), .bin .eql .no (.t 44) (.c (.int .i64 4)), none⟩, ⟨(some 95), .mv (.t 96), none⟩])
         (.cond (.t 95)
           (.draw [⟨(some 97), .faddr 5 (.t 5), none⟩, ⟨(some 98), .load none (.t 97), none⟩, ⟨(some 99), .faddr 3 (.t 7), none⟩, ⟨(some 100), .load none (.t 99), none⟩, ⟨(some 101), .iaddr 1 (.t 100) (.c (.int .i64 0)), none⟩, ⟨(some 102), .load none (.t 101), none⟩, ⟨(some 103), .bslice 1 1 [(.int .i64 0)] [(0, 1, (.t 102))], none⟩, ⟨(some 104), .append 1 8 (.t 98) (.t 103), none⟩, ⟨(some 105), .faddr 5 (.t 5), none⟩, ⟨none, .store 1 (.t 105) (.t 104), none⟩] [0, 1, 0, 4, 12, 28, 60, 127, 255, 511])
           (.seq (.reg [⟨(some 107), .bin .eql .no (.t 44) (.c (.int .i64 5)), none⟩, ⟨(some 106), .mv (.t 107), none⟩])
           (.cond (.t 106)
             (.reg [⟨(some 108), .faddr 6 (.t 5), none⟩, ⟨none, .store 1 (.t 108) (.c (.bool true)), none⟩])
             .skip))))))))))))
   (.reg [⟨(some 31), .mv (.t 6), none⟩, ⟨(some 32), .bin .add .no (.t 31) (.c (.int .i64 1)), none⟩, ⟨(some 6), .mv (.t 32), none⟩]))))))
 (.seq (.reg [⟨(some 109), .faddr 3 (.t 5), none⟩, ⟨(some 110), .load none (.t 109), none⟩, ⟨(some 111), .len (.t 110), none⟩, ⟨(some 112), .faddr 1 (.t 5), none⟩, ⟨none, .store 1 (.t 112) (.t 111), none⟩])
 (.seq (.reg [⟨(some 8), .mv (.c (.int .i64 0)), none⟩])
 (.seq (.seq (.reg [⟨(some 9), .mv (.c (.int .i64 0)), none⟩])
 (.block 3 (.loop (.seq (.seq (.reg [⟨(some 113), .mv (.t 9), none⟩, ⟨(some 114), .mv (.t 0), none⟩, ⟨(some 115), .iaddr 5 (.t 114) (.c (.int .i64 0)), none⟩, ⟨(some 116), .faddr 3 (.t 115), none⟩, ⟨(some 117), .load none (.t 116), none⟩, ⟨(some 118), .len (.t 117), none⟩, ⟨(some 119), .bin .lss .no (.t 113) (.t 118), none⟩])
   (.cond (.t 119)
     .skip
     (.exit 3)))
   (.seq (.block 4 (.seq (.reg [⟨(some 122), .mv (.t 0), none⟩, ⟨(some 123), .mv (.t 0), none⟩, ⟨(some 124), .iaddr 5 (.t 123) (.c (.int .i64 0)), none⟩, ⟨(some 125), .faddr 3 (.t 124), none⟩, ⟨(some 126), .load none (.t 125), none⟩, ⟨(some 127), .mv (.t 9), none⟩, ⟨(some 128), .iaddr 1 (.t 126) (.t 127), none⟩, ⟨(some 129), .load none (.t 128), none⟩, ⟨(some 130), .iaddr 5 (.t 122) (.t 129), none⟩, ⟨(some 131), .load (some 5) (.t 130), none⟩, ⟨(some 10), .alloc [(.int .i64 0), .nils, .nils, .nils, (.int .i64 0)], none⟩, ⟨none, .store 5 (.t 10) (.t 131), none⟩])
    (.seq (.seq (.reg [⟨(some 132), .faddr 0 (.t 10), none⟩, ⟨(some 133), .load none (.t 132), none⟩, ⟨(some 134), .bin .eql .no (.t 133) (.c (.int .i64 2)), none⟩])
    (.cond (.t 134)
      (.reg [⟨(some 135), .mv (.t 8), none⟩, ⟨(some 136), .bin .add .no (.t 135) (.c (.int .i64 1)), none⟩, ⟨(some 8), .mv (.t 136), none⟩])
      .skip))
    (.seq (.reg [⟨(some 11), .mv (.c (.int .i64 0)), none⟩])
    (.block 5 (.loop (.seq (.seq (.reg [⟨(some 137), .faddr 0 (.t 10), none⟩, ⟨(some 138), .load none (.t 137), none⟩, ⟨(some 139), .bin .eql .no (.t 138) (.c (.int .i64 3)), none⟩, ⟨(some 140), .mv (.t 139), none⟩, ⟨(some 141), .mv (.t 11), (some (140, true))⟩, ⟨(some 142), .faddr 2 (.t 10), (some (140, true))⟩, ⟨(some 143), .load none (.t 142), (some (140, true))⟩, ⟨(some 144), .iaddr 1 (.t 143) (.c (.int .i64 0)), (some (140, true))⟩, ⟨(some 145), .load none (.t 144), (some (140, true))⟩, ⟨(some 146), .bin .lss .no (.t 141) (.t 145), (some (140, true))⟩, ⟨(some 147), .pick (.t 140) (.t 146) (.c (.bool false)), none⟩])
      (.cond (.t 147)
        .skip
        (.exit 5)))
      (.seq (.block 6 (.seq (.reg [⟨(some 150), .faddr 1 (.t 10), none⟩, ⟨(some 151), .load none (.t 150), none⟩, ⟨(some 152), .iaddr 1 (.t 151) (.c (.int .i64 0)), none⟩, ⟨(some 153), .load none (.t 152), none⟩, ⟨(some 154), .mv (.t 11), none⟩, ⟨(some 155), .bslice 1 2 [(.bool false)] [(0, 1, (.c (.bool false))), (1, 1, (.c (.bool true)))], none⟩, ⟨(some 156), .build [(.str []), (.int .i64 0), .nils, (.int .i64 0), .nils, .nils, .nils, .nils] [(0, 1, (.t 153)), (1, 1, (.t 154)), (3, 1, (.c (.int .i64 2))), (4, 1, (.t 155))], none⟩, ⟨(some 12), .alloc [(.str []), (.int .i64 0), .nils, (.int .i64 0), .nils, .nils, .nils, .nils], none⟩, ⟨none, .store 8 (.t 12) (.t 156), none⟩])
       (.seq (.seq (.reg [⟨(some 13), .mv (.c (.int .i64 0)), none⟩])
       (.block 7 (.loop (.seq (.seq (.reg [⟨(some 157), .mv (.t 13), none⟩, ⟨(some 158), .mv (.t 8), none⟩, ⟨(some 159), .bin .lss .no (.t 157) (.t 158), none⟩])
         (.cond (.t 159)
           .skip
           (.exit 7)))
         (.seq (.block 8 (.seq (.draw [⟨(some 162), .faddr 6 (.t 12), none⟩, ⟨(some 163), .load none (.t 162), none⟩, ⟨(some 164), .faddr 3 (.t 5), none⟩, ⟨(some 165), .load none (.t 164), none⟩, ⟨(some 166), .mv (.t 13), none⟩, ⟨(some 167), .iaddr 3 (.t 165) (.t 166), none⟩, ⟨(some 168), .faddr 0 (.t 167), none⟩, ⟨(some 169), .load none (.t 168), none⟩, ⟨(some 170), .bslice 1 1 [(.str [])] [(0, 1, (.t 169))], none⟩, ⟨(some 171), .append 1 16 (.t 163) (.t 170), none⟩, ⟨(some 172), .faddr 6 (.t 12), none⟩, ⟨none, .store 1 (.t 172) (.t 171), none⟩] [0, 1, 0, 4, 0, 28, 60, 124, 252, 511, 1023, 2047])
          (.reg [⟨(some 173), .faddr 7 (.t 12), none⟩, ⟨(some 174), .load none (.t 173), none⟩, ⟨(some 175), .mv (.t 13), none⟩, ⟨(some 176), .bslice 1 1 [(.int .i64 0)] [(0, 1, (.t 175))], none⟩, ⟨(some 177), .append 1 8 (.t 174) (.t 176), none⟩, ⟨(some 178), .faddr 7 (.t 12), none⟩, ⟨none, .store 1 (.t 178) (.t 177), none⟩])))
         (.reg [⟨(some 160), .mv (.t 13), none⟩, ⟨(some 161), .bin .add .no (.t 160) (.c (.int .i64 1)), none⟩, ⟨(some 13), .mv (.t 161), none⟩]))))))
       (.seq (.reg [⟨(some 14), .mv (.c (.int .i64 0)), none⟩])
       (.seq (.block 9 (.loop (.seq (.seq (.reg [⟨(some 179), .mv (.t 14), none⟩, ⟨(some 180), .faddr 3 (.t 10), none⟩, ⟨(some 181), .load none (.t 180), none⟩, ⟨(some 182), .len (.t 181), none⟩, ⟨(some 183), .bin .lss .no (.t 179) (.t 182), none⟩, ⟨(some 184), .mv (.t 183), none⟩, ⟨(some 185), .mv (.t 0), (some (184, true))⟩, ⟨(some 186), .faddr 3 (.t 10), (some (184, true))⟩, ⟨(some 187), .load none (.t 186), (some (184, true))⟩, ⟨(some 188), .mv (.t 14), (some (184, true))⟩, ⟨(some 189), .iaddr 1 (.t 187) (.t 188), (some (184, true))⟩, ⟨(some 190), .load none (.t 189), (some (184, true))⟩, ⟨(some 191), .iaddr 5 (.t 185) (.t 190), (some (184, true))⟩, ⟨(some 192), .faddr 0 (.t 191), (some (184, true))⟩, ⟨(some 193), .load none (.t 192), (some (184, true))⟩, ⟨(some 194), .bin .eql .no (.t 193) (.c (.int .i64 2)), (some (184, true))⟩, ⟨(some 195), .pick (.t 184) (.t 194) (.c (.bool false)), none⟩])
         (.cond (.t 195)
           .skip
           (.exit 9)))
         (.block 10 (.seq (.reg [⟨(some 196), .mv (.t 0), none⟩, ⟨(some 197), .faddr 3 (.t 10), none⟩, ⟨(some 198), .load none (.t 197), none⟩, ⟨(some 199), .mv (.t 14), none⟩, ⟨(some 200), .iaddr 1 (.t 198) (.t 199), none⟩, ⟨(some 201), .load none (.t 200), none⟩, ⟨(some 202), .iaddr 5 (.t 196) (.t 201), none⟩, ⟨(some 203), .load (some 5) (.t 202), none⟩, ⟨(some 15), .alloc [(.int .i64 0), .nils, .nils, .nils, (.int .i64 0)], none⟩, ⟨none, .store 5 (.t 15) (.t 203), none⟩])
          (.seq (.reg [⟨(some 204), .faddr 2 (.t 12), none⟩, ⟨(some 205), .load none (.t 204), none⟩, ⟨(some 206), .faddr 3 (.t 5), none⟩, ⟨(some 207), .load none (.t 206), none⟩, ⟨(some 208), .len (.t 207), none⟩, ⟨(some 209), .bslice 1 1 [(.int .i64 0)] [(0, 1, (.t 208))], none⟩, ⟨(some 210), .append 1 8 (.t 205) (.t 209), none⟩, ⟨(some 211), .faddr 2 (.t 12), none⟩, ⟨none, .store 1 (.t 211) (.t 210), none⟩])
          (.seq (.draw [⟨(some 212), .faddr 6 (.t 12), none⟩, ⟨(some 213), .load none (.t 212), none⟩, ⟨(some 214), .faddr 1 (.t 15), none⟩, ⟨(some 215), .load none (.t 214), none⟩, ⟨(some 216), .iaddr 1 (.t 215) (.c (.int .i64 0)), none⟩, ⟨(some 217), .load none (.t 216), none⟩, ⟨(some 218), .bslice 1 1 [(.str [])] [(0, 1, (.t 217))], none⟩, ⟨(some 219), .append 1 16 (.t 213) (.t 218), none⟩, ⟨(some 220), .faddr 6 (.t 12), none⟩, ⟨none, .store 1 (.t 220) (.t 219), none⟩] [0, 1, 0, 4, 12, 28, 60, 127, 255, 511])
          (.seq (.reg [⟨(some 221), .faddr 7 (.t 12), none⟩, ⟨(some 222), .load none (.t 221), none⟩, ⟨(some 223), .faddr 3 (.t 5), none⟩, ⟨(some 224), .load none (.t 223), none⟩, ⟨(some 225), .len (.t 224), none⟩, ⟨(some 226), .bslice 1 1 [(.int .i64 0)] [(0, 1, (.t 225))], none⟩, ⟨(some 227), .append 1 8 (.t 222) (.t 226), none⟩, ⟨(some 228), .faddr 7 (.t 12), none⟩, ⟨none, .store 1 (.t 228) (.t 227), none⟩])
          (.seq (.draw [⟨(some 229), .faddr 3 (.t 5), none⟩, ⟨(some 230), .load none (.t 229), none⟩, ⟨(some 231), .faddr 1 (.t 15), none⟩, ⟨(some 232), .load none (.t 231), none⟩, ⟨(some 233), .iaddr 1 (.t 232) (.c (.int .i64 0)), none⟩, ⟨(some 234), .load none (.t 233), none⟩, ⟨(some 235), .faddr 2 (.t 15), none⟩, ⟨(some 236), .load none (.t 235), none⟩, ⟨(some 237), .iaddr 1 (.t 236) (.c (.int .i64 0)), none⟩, ⟨(some 238), .load none (.t 237), none⟩, ⟨(some 239), .faddr 2 (.t 15), none⟩, ⟨(some 240), .load none (.t 239), none⟩, ⟨(some 241), .iaddr 1 (.t 240) (.c (.int .i64 1)), none⟩, ⟨(some 242), .load none (.t 241), none⟩, ⟨(some 243), .build [(.str []), (.int .i64 0), (.int .i64 0)] [(0, 1, (.t 234)), (1, 1, (.t 238)), (2, 1, (.t 242))], none⟩, ⟨(some 244), .bslice 3 1 [(.str []), (.int .i64 0), (.int .i64 0)] [(0, 3, (.t 243))], none⟩, ⟨(some 245), .append 3 32 (.t 230) (.t 244), none⟩, ⟨(some 246), .faddr 3 (.t 5), none⟩, ⟨none, .store 1 (.t 246) (.t 245), none⟩] [0, 1, 0, 4, 12, 28, 0, 64, 192, 448, 0, 1024, 3072, 7168, 16380, 32764, 65535, 131071, 262143])
          (.reg [⟨(some 247), .mv (.t 14), none⟩, ⟨(some 248), .bin .add .no (.t 247) (.c (.int .i64 1)), none⟩, ⟨(some 14), .mv (.t 248), none⟩]))))))))))
       (.seq (.draw [⟨(some 249), .load (some 7) (.t 5), none⟩, ⟨(some 250), .load (some 8) (.t 12), none⟩, ⟨(some 251), .faddr 3 (.t 10), none⟩, ⟨(some 252), .load none (.t 251), none⟩, ⟨(some 253), .mv (.t 14), none⟩, ⟨(some 254), .cut 1 (.t 252) (some (.t 253)) none none, none⟩, ⟨(some 255), .mv (.t 0), none⟩, ⟨(some 256), .iaddr 5 (.t 255) (.c (.int .i64 0)), none⟩, ⟨(some 257), .faddr 3 (.t 256), none⟩, ⟨(some 258), .load none (.t 257), none⟩, ⟨(some 259), .mv (.t 9), none⟩, ⟨(some 260), .iaddr 1 (.t 258) (.t 259), none⟩, ⟨(some 261), .load none (.t 260), none⟩, ⟨(some 262), .call (.c (.fn 39 [])) [(.t 249), (.t 250), (.t 254), (.t 261), (.c (.int .i64 0)), (.c (.int .i64 1))], none⟩, ⟨none, .store 8 (.t 12) (.t 262), none⟩] [0, 0, 0, 4, 0, 28, 0, 64, 192, 448, 0, 1984, 4032, 8191, 16383])
       (.reg [⟨(some 263), .faddr 4 (.t 5), none⟩, ⟨(some 264), .load none (.t 263), none⟩, ⟨(some 265), .load (some 8) (.t 12), none⟩, ⟨(some 266), .bslice 8 1 [(.str []), (.int .i64 0), .nils, (.int .i64 0), .nils, .nils, .nils, .nils] [(0, 8, (.t 265))], none⟩, ⟨(some 267), .append 8 152 (.t 264) (.t 266), none⟩, ⟨(some 268), .faddr 4 (.t 5), none⟩, ⟨none, .store 1 (.t 268) (.t 267), none⟩])))))))
      (.reg [⟨(some 148), .mv (.t 11), none⟩, ⟨(some 149), .bin .add .no (.t 148) (.c (.int .i64 1)), none⟩, ⟨(some 11), .mv (.t 149), none⟩])))))))))
   (.reg [⟨(some 120), .mv (.t 9), none⟩, ⟨(some 121), .bin .add .no (.t 120) (.c (.int .i64 1)), none⟩, ⟨(some 9), .mv (.t 121), none⟩]))))))
 (.seq (.reg [⟨(some 269), .load (some 7) (.t 5), none⟩, ⟨none, .store 7 (.t 2) (.t 269), none⟩, ⟨(some 3), .mv (.c (.bool true)), none⟩])
 .ret))))))))), [.cell 2 (some 7), .tmp 3]⟩
theorem c20 : compF Try.prog Try.f20 = some m20 := by kernel_rfl
/-- weirgate/foot.Asked -/
def m21 : MFunc := ⟨24, (.seq (.reg [⟨(some 1), .box 7 (.t 0), none⟩, ⟨(some 2), .alloc [(.int .u32 0), (.int .u32 0), (.int .u32 0), (.int .u32 0), (.int .u32 0), (.bool false)], none⟩])
 (.seq (.reg [⟨(some 6), .load (some 7) (.t 1), none⟩, ⟨(some 7), .build [.nils, (.int .i64 0), .nils, .nils, .nils, .nils, (.bool false), .nilp, (.int .u32 0), (.int .u32 0), (.int .u32 0), (.int .u32 0), (.int .u32 0), (.bool false)] [(0, 7, (.t 6))], none⟩, ⟨(some 8), .box 14 (.t 7), none⟩, ⟨(some 3), .mv (.t 8), none⟩])
 (.seq (.seq (.reg [⟨(some 9), .faddr 5 (.t 1), none⟩, ⟨(some 10), .load none (.t 9), none⟩, ⟨(some 11), .len (.t 10), none⟩, ⟨(some 12), .mv (.c (.int .i64 0)), none⟩])
 (.block 0 (.loop (.seq (.reg [⟨(some 13), .bin .lss .no (.t 12) (.t 11), none⟩])
   (.seq (.cond (.t 13)
     .skip
     (.exit 0))
   (.seq (.block 1 (.seq (.reg [⟨(some 14), .iaddr 1 (.t 10) (.t 12), none⟩, ⟨(some 15), .load none (.t 14), none⟩, ⟨(some 5), .mv (.t 15), none⟩])
    (.reg [⟨(some 16), .mv (.t 3), none⟩, ⟨(some 17), .mv (.t 5), none⟩, ⟨(some 18), .call (.c (.fn 24 [])) [(.t 16), (.t 17)], none⟩])))
   (.reg [⟨(some 19), .bin .add .no (.t 12) (.c (.int .i64 1)), none⟩, ⟨(some 12), .mv (.t 19), none⟩])))))))
 (.seq (.reg [⟨(some 20), .mv (.t 3), none⟩, ⟨(some 21), .nilc (.t 20), none⟩, ⟨(some 22), .faddr 8 (.t 21), none⟩, ⟨(some 23), .load (some 6) (.t 22), none⟩, ⟨none, .store 6 (.t 2) (.t 23), none⟩])
 .ret)))), [.cell 2 (some 6)]⟩
theorem c21 : compF Try.prog Try.f21 = some m21 := by kernel_rfl
/-- (*weirgate/foot.reader).expr -/
def m24 : MFunc := ⟨80, (.seq (.reg [⟨(some 7), .mv (.t 0), none⟩, ⟨(some 8), .nilc (.t 7), none⟩, ⟨(some 9), .faddr 0 (.t 8), none⟩, ⟨(some 10), .faddr 0 (.t 9), none⟩, ⟨(some 11), .load none (.t 10), none⟩, ⟨(some 12), .mv (.t 1), none⟩, ⟨(some 13), .iaddr 5 (.t 11) (.t 12), none⟩, ⟨(some 14), .load (some 5) (.t 13), none⟩, ⟨(some 4), .alloc [(.int .i64 0), .nils, .nils, .nils, (.int .i64 0)], none⟩, ⟨none, .store 5 (.t 4) (.t 14), none⟩])
 (.seq (.seq (.reg [⟨(some 15), .faddr 0 (.t 4), none⟩, ⟨(some 16), .load none (.t 15), none⟩])
 (.block 0 (.seq (.reg [⟨(some 18), .bin .eql .no (.t 16) (.c (.int .i64 18)), none⟩, ⟨(some 17), .mv (.t 18), none⟩])
  (.cond (.t 17)
    (.draw [⟨(some 19), .mv (.t 0), none⟩, ⟨(some 20), .nilc (.t 19), none⟩, ⟨(some 21), .faddr 8 (.t 20), none⟩, ⟨(some 22), .faddr 0 (.t 21), none⟩, ⟨(some 23), .load none (.t 22), none⟩, ⟨(some 24), .mv (.t 0), none⟩, ⟨(some 25), .faddr 1 (.t 4), none⟩, ⟨(some 26), .load none (.t 25), none⟩, ⟨(some 27), .iaddr 1 (.t 26) (.c (.int .i64 0)), none⟩, ⟨(some 28), .load none (.t 27), none⟩, ⟨(some 29), .call (.c (.fn 42 [])) [(.t 24), (.t 28)], none⟩, ⟨(some 30), .bin .or .no (.t 23) (.t 29), none⟩, ⟨(some 31), .nilc (.t 19), none⟩, ⟨(some 32), .faddr 8 (.t 31), none⟩, ⟨(some 33), .faddr 0 (.t 32), none⟩, ⟨none, .store 1 (.t 33) (.t 30), none⟩] [0, 1, 3, 7, 15, 0, 0, 64, 192, 448, 992, 2047, 4095, 8191, 16383, 32767])
    (.seq (.reg [⟨(some 35), .bin .eql .no (.t 16) (.c (.int .i64 19)), none⟩, ⟨(some 34), .mv (.t 35), none⟩])
    (.cond (.t 34)
      (.draw [⟨(some 36), .mv (.t 0), none⟩, ⟨(some 37), .nilc (.t 36), none⟩, ⟨(some 38), .faddr 8 (.t 37), none⟩, ⟨(some 39), .faddr 4 (.t 38), none⟩, ⟨(some 40), .load none (.t 39), none⟩, ⟨(some 41), .mv (.t 0), none⟩, ⟨(some 42), .faddr 1 (.t 4), none⟩, ⟨(some 43), .load none (.t 42), none⟩, ⟨(some 44), .iaddr 1 (.t 43) (.c (.int .i64 0)), none⟩, ⟨(some 45), .load none (.t 44), none⟩, ⟨(some 46), .call (.c (.fn 43 [])) [(.t 41), (.t 45)], none⟩, ⟨(some 47), .bin .or .no (.t 40) (.t 46), none⟩, ⟨(some 48), .nilc (.t 36), none⟩, ⟨(some 49), .faddr 8 (.t 48), none⟩, ⟨(some 50), .faddr 4 (.t 49), none⟩, ⟨none, .store 1 (.t 50) (.t 47), none⟩] [0, 1, 3, 7, 15, 0, 0, 64, 192, 448, 992, 2047, 4095, 8191, 16383, 32767])
      (.seq (.reg [⟨(some 52), .bin .eql .no (.t 16) (.c (.int .i64 22)), none⟩, ⟨(some 51), .mv (.t 52), none⟩])
      (.cond (.t 51)
        (.reg [⟨(some 53), .mv (.t 0), none⟩, ⟨(some 54), .mv (.t 0), none⟩, ⟨(some 55), .nilc (.t 54), none⟩, ⟨(some 56), .faddr 8 (.t 55), none⟩, ⟨(some 57), .faddr 5 (.t 56), none⟩, ⟨(some 58), .load none (.t 57), none⟩, ⟨(some 59), .mv (.t 58), none⟩, ⟨(some 60), .faddr 2 (.t 4), (some (59, false))⟩, ⟨(some 61), .load none (.t 60), (some (59, false))⟩, ⟨(some 62), .iaddr 1 (.t 61) (.c (.int .i64 0)), (some (59, false))⟩, ⟨(some 63), .load none (.t 62), (some (59, false))⟩, ⟨(some 64), .bin .geq .no (.t 63) (.c (.int .i64 7)), (some (59, false))⟩, ⟨(some 65), .pick (.t 59) (.c (.bool true)) (.t 64), none⟩, ⟨(some 66), .nilc (.t 53), none⟩, ⟨(some 67), .faddr 8 (.t 66), none⟩, ⟨(some 68), .faddr 5 (.t 67), none⟩, ⟨none, .store 1 (.t 68) (.t 65), none⟩])
        .skip))))))))
 (.seq (.reg [⟨(some 69), .faddr 3 (.t 4), none⟩, ⟨(some 70), .load none (.t 69), none⟩, ⟨(some 71), .len (.t 70), none⟩, ⟨(some 72), .mv (.c (.int .i64 0)), none⟩])
 (.block 1 (.loop (.seq (.reg [⟨(some 73), .bin .lss .no (.t 72) (.t 71), none⟩])
   (.seq (.cond (.t 73)
     .skip
     (.exit 1))
   (.seq (.block 2 (.seq (.reg [⟨(some 74), .iaddr 1 (.t 70) (.t 72), none⟩, ⟨(some 75), .load none (.t 74), none⟩, ⟨(some 6), .mv (.t 75), none⟩])
    (.reg [⟨(some 76), .mv (.t 0), none⟩, ⟨(some 77), .mv (.t 6), none⟩, ⟨(some 78), .call (.c (.fn 24 [])) [(.t 76), (.t 77)], none⟩])))
   (.reg [⟨(some 79), .bin .add .no (.t 72) (.c (.int .i64 1)), none⟩, ⟨(some 72), .mv (.t 79), none⟩]))))))))), []⟩
theorem c24 : compF Try.prog Try.f24 = some m24 := by kernel_rfl
/-- weirgate/foot.hits -/
def m25 : MFunc := ⟨31, (.seq (.reg [⟨(some 2), .box 6 (.t 0), none⟩, ⟨(some 3), .box 6 (.t 1), none⟩, ⟨(some 4), .mv (.c (.bool false)), none⟩])
 (.seq (.reg [⟨(some 5), .faddr 1 (.t 2), none⟩, ⟨(some 6), .load none (.t 5), none⟩, ⟨(some 7), .faddr 0 (.t 3), none⟩, ⟨(some 8), .load none (.t 7), none⟩, ⟨(some 9), .faddr 1 (.t 3), none⟩, ⟨(some 10), .load none (.t 9), none⟩, ⟨(some 11), .bin .or .no (.t 8) (.t 10), none⟩, ⟨(some 12), .bin .and .no (.t 6) (.t 11), none⟩, ⟨(some 13), .bin .neq .no (.t 12) (.c (.int .u32 0)), none⟩, ⟨(some 14), .mv (.t 13), none⟩, ⟨(some 15), .faddr 2 (.t 2), (some (14, false))⟩, ⟨(some 16), .load none (.t 15), (some (14, false))⟩, ⟨(some 17), .faddr 3 (.t 2), (some (14, false))⟩, ⟨(some 18), .load none (.t 17), (some (14, false))⟩, ⟨(some 19), .bin .or .no (.t 16) (.t 18), (some (14, false))⟩, ⟨(some 20), .faddr 2 (.t 3), (some (14, false))⟩, ⟨(some 21), .load none (.t 20), (some (14, false))⟩, ⟨(some 22), .faddr 3 (.t 3), (some (14, false))⟩, ⟨(some 23), .load none (.t 22), (some (14, false))⟩, ⟨(some 24), .bin .or .no (.t 21) (.t 23), (some (14, false))⟩, ⟨(some 25), .faddr 4 (.t 3), (some (14, false))⟩, ⟨(some 26), .load none (.t 25), (some (14, false))⟩, ⟨(some 27), .bin .or .no (.t 24) (.t 26), (some (14, false))⟩, ⟨(some 28), .bin .and .no (.t 19) (.t 27), (some (14, false))⟩, ⟨(some 29), .bin .neq .no (.t 28) (.c (.int .u32 0)), (some (14, false))⟩, ⟨(some 30), .pick (.t 14) (.c (.bool true)) (.t 29), none⟩, ⟨(some 4), .mv (.t 30), none⟩])
 .ret)), [.tmp 4]⟩
theorem c25 : compF Try.prog Try.f25 = some m25 := by kernel_rfl
/-- weirgate/weirgateref18.meet -/
def m26 : MFunc := ⟨9, (.seq (.reg [⟨(some 4), .mv (.c (.bool false)), none⟩])
 (.seq (.reg [⟨(some 5), .mv (.t 0), none⟩, ⟨(some 6), .mv (.t 1), none⟩, ⟨(some 7), .bin .and .no (.t 5) (.t 6), none⟩, ⟨(some 8), .bin .neq .no (.t 7) (.c (.int .u32 0)), none⟩, ⟨(some 4), .mv (.t 8), none⟩])
 .ret)), [.tmp 4]⟩
theorem c26 : compF Try.prog Try.f26 = some m26 := by kernel_rfl
/-- weirgate/weirgateref06.Trim -/
def m29 : MFunc := ⟨34, (.seq (.reg [⟨(some 4), .mv (.c (.int .i64 0)), none⟩])
 (.seq (.seq (.reg [⟨(some 7), .mv (.t 1), none⟩, ⟨(some 8), .bin .lss .no (.t 7) (.c (.int .i64 1)), none⟩])
 (.cond (.t 8)
   (.reg [⟨(some 1), .mv (.c (.int .i64 1)), none⟩])
   .skip))
 (.seq (.seq (.reg [⟨(some 9), .mv (.t 1), none⟩, ⟨(some 10), .bin .gtr .no (.t 9) (.c (.int .i64 16)), none⟩])
 (.cond (.t 10)
   (.reg [⟨(some 1), .mv (.c (.int .i64 16)), none⟩])
   .skip))
 (.seq (.reg [⟨(some 5), .mv (.c (.int .i64 1)), none⟩])
 (.seq (.seq (.reg [⟨(some 6), .mv (.c (.int .i64 0)), none⟩])
 (.block 0 (.loop (.seq (.seq (.reg [⟨(some 11), .mv (.t 6), none⟩, ⟨(some 12), .mv (.t 1), none⟩, ⟨(some 13), .bin .lss .no (.t 11) (.t 12), none⟩])
   (.cond (.t 13)
     .skip
     (.exit 0)))
   (.seq (.block 1 (.reg [⟨(some 16), .mv (.t 5), none⟩, ⟨(some 17), .bin .mul .no (.t 16) (.c (.int .i64 2)), none⟩, ⟨(some 5), .mv (.t 17), none⟩]))
   (.reg [⟨(some 14), .mv (.t 6), none⟩, ⟨(some 15), .bin .add .no (.t 14) (.c (.int .i64 1)), none⟩, ⟨(some 6), .mv (.t 15), none⟩]))))))
 (.seq (.reg [⟨(some 18), .mv (.t 0), none⟩, ⟨(some 19), .mv (.t 5), none⟩, ⟨(some 20), .bin .rem .no (.t 18) (.t 19), none⟩, ⟨(some 0), .mv (.t 20), none⟩])
 (.seq (.seq (.reg [⟨(some 21), .mv (.t 0), none⟩, ⟨(some 22), .bin .lss .no (.t 21) (.c (.int .i64 0)), none⟩])
 (.cond (.t 22)
   (.reg [⟨(some 23), .mv (.t 0), none⟩, ⟨(some 24), .mv (.t 5), none⟩, ⟨(some 25), .bin .add .no (.t 23) (.t 24), none⟩, ⟨(some 0), .mv (.t 25), none⟩])
   .skip))
 (.seq (.seq (.reg [⟨(some 26), .mv (.t 0), none⟩, ⟨(some 27), .mv (.t 5), none⟩, ⟨(some 28), .bin .quo .no (.t 27) (.c (.int .i64 2)), none⟩, ⟨(some 29), .bin .geq .no (.t 26) (.t 28), none⟩])
 (.cond (.t 29)
   (.reg [⟨(some 30), .mv (.t 0), none⟩, ⟨(some 31), .mv (.t 5), none⟩, ⟨(some 32), .bin .sub .no (.t 30) (.t 31), none⟩, ⟨(some 0), .mv (.t 32), none⟩])
   .skip))
 (.seq (.reg [⟨(some 33), .mv (.t 0), none⟩, ⟨(some 4), .mv (.t 33), none⟩])
 .ret))))))))), [.tmp 4]⟩
theorem c29 : compF Try.prog Try.f29 = some m29 := by kernel_rfl
/-- weirgate/weirgateref08.Tokens -/
def m34 : MFunc := ⟨132, (.seq (.reg [⟨(some 2), .mv (.c .nils), none⟩, ⟨(some 3), .alloc [(.int .i64 0), (.int .i64 0)], none⟩])
 (.seq (.seq (.reg [⟨(some 8), .mv (.t 0), none⟩, ⟨(some 9), .lenS (.t 8), none⟩, ⟨(some 10), .bin .gtr .no (.t 9) (.c (.int .i64 4000)), none⟩])
 (.cond (.t 10)
   (.seq (.reg [⟨(some 11), .build [(.int .i64 0), (.int .i64 0)] [(0, 1, (.c (.int .i64 12)))], none⟩, ⟨(some 2), .mv (.c .nils), none⟩, ⟨none, .store 2 (.t 3) (.t 11), none⟩])
   .ret)
   .skip))
 (.seq (.reg [⟨(some 4), .mv (.c .nils), none⟩])
 (.seq (.reg [⟨(some 5), .mv (.c (.int .i64 0)), none⟩])
 (.seq (.block 0 (.loop (.seq (.seq (.reg [⟨(some 12), .mv (.t 5), none⟩, ⟨(some 13), .mv (.t 0), none⟩, ⟨(some 14), .lenS (.t 13), none⟩, ⟨(some 15), .bin .lss .no (.t 12) (.t 14), none⟩])
   (.cond (.t 15)
     .skip
     (.exit 0)))
   (.block 1 (.seq (.seq (.reg [⟨(some 16), .mv (.t 0), none⟩, ⟨(some 17), .mv (.t 5), none⟩, ⟨(some 18), .index (.t 16) (.t 17), none⟩, ⟨(some 19), .call (.c (.fn 47 [])) [(.c (.str [32, 9, 13, 10])), (.t 18)], none⟩])
    (.cond (.t 19)
      (.seq (.reg [⟨(some 20), .mv (.t 5), none⟩, ⟨(some 21), .bin .add .no (.t 20) (.c (.int .i64 1)), none⟩, ⟨(some 5), .mv (.t 21), none⟩])
      (.exit 1))
      .skip))
    (.seq (.seq (.reg [⟨(some 22), .mv (.t 0), none⟩, ⟨(some 23), .mv (.t 5), none⟩, ⟨(some 24), .call (.c (.fn 48 [])) [(.t 22), (.t 23)], none⟩, ⟨(some 25), .bin .eql .no (.t 24) (.c (.str [47, 47])), none⟩])
    (.cond (.t 25)
      (.seq (.block 2 (.loop (.seq (.seq (.reg [⟨(some 26), .mv (.t 5), none⟩, ⟨(some 27), .mv (.t 0), none⟩, ⟨(some 28), .lenS (.t 27), none⟩, ⟨(some 29), .bin .lss .no (.t 26) (.t 28), none⟩, ⟨(some 30), .mv (.t 29), none⟩, ⟨(some 31), .mv (.t 0), (some (30, true))⟩, ⟨(some 32), .mv (.t 5), (some (30, true))⟩, ⟨(some 33), .index (.t 31) (.t 32), (some (30, true))⟩, ⟨(some 34), .bin .neq .no (.t 33) (.c (.int .u8 10)), (some (30, true))⟩, ⟨(some 35), .pick (.t 30) (.t 34) (.c (.bool false)), none⟩])
        (.cond (.t 35)
          .skip
          (.exit 2)))
        (.block 3 (.reg [⟨(some 36), .mv (.t 5), none⟩, ⟨(some 37), .bin .add .no (.t 36) (.c (.int .i64 1)), none⟩, ⟨(some 5), .mv (.t 37), none⟩])))))
      (.exit 1))
      .skip))
    (.seq (.reg [⟨(some 38), .mv (.t 5), none⟩, ⟨(some 6), .mv (.t 38), none⟩, ⟨(some 7), .mv (.c (.int .i64 2)), none⟩])
    (.seq (.block 4 (.seq (.reg [⟨(some 40), .mv (.t 0), none⟩, ⟨(some 41), .mv (.t 5), none⟩, ⟨(some 42), .call (.c (.fn 48 [])) [(.t 40), (.t 41)], none⟩, ⟨(some 43), .bin .eql .no (.t 42) (.c (.str [61, 61])), none⟩, ⟨(some 44), .mv (.t 43), none⟩, ⟨(some 45), .mv (.t 0), (some (44, false))⟩, ⟨(some 46), .mv (.t 5), (some (44, false))⟩, ⟨(some 47), .call (.c (.fn 48 [])) [(.t 45), (.t 46)], (some (44, false))⟩, ⟨(some 48), .bin .eql .no (.t 47) (.c (.str [38, 38])), (some (44, false))⟩, ⟨(some 49), .pick (.t 44) (.c (.bool true)) (.t 48), none⟩, ⟨(some 50), .mv (.t 49), none⟩, ⟨(some 51), .mv (.t 0), (some (50, false))⟩, ⟨(some 52), .mv (.t 5), (some (50, false))⟩, ⟨(some 53), .call (.c (.fn 48 [])) [(.t 51), (.t 52)], (some (50, false))⟩, ⟨(some 54), .bin .eql .no (.t 53) (.c (.str [124, 124])), (some (50, false))⟩, ⟨(some 55), .pick (.t 50) (.c (.bool true)) (.t 54), none⟩, ⟨(some 39), .mv (.t 55), none⟩])
     (.cond (.t 39)
       (.reg [⟨(some 56), .mv (.t 5), none⟩, ⟨(some 57), .bin .add .no (.t 56) (.c (.int .i64 2)), none⟩, ⟨(some 6), .mv (.t 57), none⟩])
       (.seq (.reg [⟨(some 59), .mv (.t 0), none⟩, ⟨(some 60), .mv (.t 5), none⟩, ⟨(some 61), .index (.t 59) (.t 60), none⟩, ⟨(some 62), .call (.c (.fn 49 [])) [(.t 61)], none⟩, ⟨(some 58), .mv (.t 62), none⟩])
       (.cond (.t 58)
         (.seq (.reg [⟨(some 7), .mv (.c (.int .i64 0)), none⟩])
         (.block 5 (.loop (.seq (.seq (.reg [⟨(some 63), .mv (.t 6), none⟩, ⟨(some 64), .mv (.t 0), none⟩, ⟨(some 65), .lenS (.t 64), none⟩, ⟨(some 66), .bin .lss .no (.t 63) (.t 65), none⟩, ⟨(some 67), .mv (.t 66), none⟩, ⟨(some 68), .mv (.t 0), (some (67, true))⟩, ⟨(some 69), .mv (.t 6), (some (67, true))⟩, ⟨(some 70), .index (.t 68) (.t 69), (some (67, true))⟩, ⟨(some 71), .call (.c (.fn 50 [])) [(.t 70)], (some (67, true))⟩, ⟨(some 72), .pick (.t 67) (.t 71) (.c (.bool false)), none⟩])
           (.cond (.t 72)
             .skip
             (.exit 5)))
           (.block 6 (.reg [⟨(some 73), .mv (.t 6), none⟩, ⟨(some 74), .bin .add .no (.t 73) (.c (.int .i64 1)), none⟩, ⟨(some 6), .mv (.t 74), none⟩]))))))
         (.seq (.reg [⟨(some 76), .mv (.t 0), none⟩, ⟨(some 77), .mv (.t 5), none⟩, ⟨(some 78), .index (.t 76) (.t 77), none⟩, ⟨(some 79), .call (.c (.fn 51 [])) [(.t 78)], none⟩, ⟨(some 75), .mv (.t 79), none⟩])
         (.cond (.t 75)
           (.seq (.reg [⟨(some 7), .mv (.c (.int .i64 1)), none⟩])
           (.block 7 (.loop (.seq (.seq (.reg [⟨(some 80), .mv (.t 6), none⟩, ⟨(some 81), .mv (.t 0), none⟩, ⟨(some 82), .lenS (.t 81), none⟩, ⟨(some 83), .bin .lss .no (.t 80) (.t 82), none⟩, ⟨(some 84), .mv (.t 83), none⟩, ⟨(some 85), .mv (.t 0), (some (84, true))⟩, ⟨(some 86), .mv (.t 6), (some (84, true))⟩, ⟨(some 87), .index (.t 85) (.t 86), (some (84, true))⟩, ⟨(some 88), .call (.c (.fn 51 [])) [(.t 87)], (some (84, true))⟩, ⟨(some 89), .pick (.t 84) (.t 88) (.c (.bool false)), none⟩])
             (.cond (.t 89)
               .skip
               (.exit 7)))
             (.block 8 (.reg [⟨(some 90), .mv (.t 6), none⟩, ⟨(some 91), .bin .add .no (.t 90) (.c (.int .i64 1)), none⟩, ⟨(some 6), .mv (.t 91), none⟩]))))))
           (.seq (.reg [⟨(some 93), .mv (.t 0), none⟩, ⟨(some 94), .mv (.t 5), none⟩, ⟨(some 95), .index (.t 93) (.t 94), none⟩, ⟨(some 96), .call (.c (.fn 47 [])) [(.c (.str [123, 125, 91, 93, 40, 41, 59, 61, 60, 43, 45, 42, 47, 37, 33])), (.t 95)], none⟩, ⟨(some 92), .mv (.t 96), none⟩])
           (.cond (.t 92)
             (.reg [⟨(some 97), .mv (.t 5), none⟩, ⟨(some 98), .bin .add .no (.t 97) (.c (.int .i64 1)), none⟩, ⟨(some 6), .mv (.t 98), none⟩])
             .skip)))))))))
    (.seq (.seq (.reg [⟨(some 99), .mv (.t 6), none⟩, ⟨(some 100), .mv (.t 5), none⟩, ⟨(some 101), .bin .eql .no (.t 99) (.t 100), none⟩, ⟨(some 102), .mv (.t 101), none⟩, ⟨(some 103), .mv (.t 7), (some (102, false))⟩, ⟨(some 104), .bin .eql .no (.t 103) (.c (.int .i64 1)), (some (102, false))⟩, ⟨(some 105), .mv (.t 104), (some (102, false))⟩, ⟨(some 106), .mv (.t 6), (some (105, true))⟩, ⟨(some 107), .mv (.t 5), (some (105, true))⟩, ⟨(some 108), .bin .sub .no (.t 106) (.t 107), (some (105, true))⟩, ⟨(some 109), .bin .gtr .no (.t 108) (.c (.int .i64 6)), (some (105, true))⟩, ⟨(some 110), .pick (.t 105) (.t 109) (.c (.bool false)), (some (102, false))⟩, ⟨(some 111), .pick (.t 102) (.c (.bool true)) (.t 110), none⟩])
    (.cond (.t 111)
      (.seq (.reg [⟨(some 112), .mv (.t 5), none⟩, ⟨(some 113), .build [(.int .i64 0), (.int .i64 0)] [(0, 1, (.c (.int .i64 10))), (1, 1, (.t 112))], none⟩, ⟨(some 2), .mv (.c .nils), none⟩, ⟨none, .store 2 (.t 3) (.t 113), none⟩])
      .ret)
      .skip))
    (.seq (.reg [⟨(some 114), .mv (.t 4), none⟩, ⟨(some 115), .mv (.t 7), none⟩, ⟨(some 116), .mv (.t 0), none⟩, ⟨(some 117), .mv (.t 5), none⟩, ⟨(some 118), .mv (.t 6), none⟩, ⟨(some 119), .cutS (.t 116) (some (.t 117)) (some (.t 118)), none⟩, ⟨(some 120), .mv (.t 5), none⟩, ⟨(some 121), .build [(.int .i64 0), (.str []), (.int .i64 0)] [(0, 1, (.t 115)), (1, 1, (.t 119)), (2, 1, (.t 120))], none⟩, ⟨(some 122), .bslice 3 1 [(.int .i64 0), (.str []), (.int .i64 0)] [(0, 3, (.t 121))], none⟩, ⟨(some 123), .append 3 32 (.t 114) (.t 122), none⟩, ⟨(some 4), .mv (.t 123), none⟩])
    (.reg [⟨(some 124), .mv (.t 6), none⟩, ⟨(some 5), .mv (.t 124), none⟩])))))))))))
 (.seq (.reg [⟨(some 125), .mv (.t 4), none⟩, ⟨(some 126), .mv (.t 0), none⟩, ⟨(some 127), .lenS (.t 126), none⟩, ⟨(some 128), .build [(.int .i64 0), (.str []), (.int .i64 0)] [(0, 1, (.c (.int .i64 3))), (2, 1, (.t 127))], none⟩, ⟨(some 129), .bslice 3 1 [(.int .i64 0), (.str []), (.int .i64 0)] [(0, 3, (.t 128))], none⟩, ⟨(some 130), .append 3 32 (.t 125) (.t 129), none⟩, ⟨(some 131), .build [(.int .i64 0), (.int .i64 0)] [], none⟩, ⟨(some 2), .mv (.t 130), none⟩, ⟨none, .store 2 (.t 3) (.t 131), none⟩])
 .ret)))))), [.tmp 2, .cell 3 (some 2)]⟩
theorem c34 : compF Try.prog Try.f34 = some m34 := by kernel_rfl
/-- (*weirgate/weirgateref09.P).Program -/
def m35 : MFunc := ⟨22, (.seq (.reg [⟨(some 2), .alloc [(.int .i64 0), .nils, .nils, .nils, (.int .i64 0), .nils], none⟩])
 (.seq (.reg [⟨(some 4), .mv (.t 0), none⟩, ⟨(some 5), .call (.c (.fn 52 [])) [(.t 4), (.c (.int .i64 0))], none⟩, ⟨(some 3), .alloc [(.int .i64 0), .nils, .nils, .nils, (.int .i64 0), .nils], none⟩, ⟨none, .store 6 (.t 3) (.t 5), none⟩])
 (.seq (.block 0 (.loop (.seq (.seq (.reg [⟨(some 6), .mv (.t 0), none⟩, ⟨(some 7), .call (.c (.fn 53 [])) [(.t 6)], none⟩, ⟨(some 8), .mv (.t 7), none⟩, ⟨(some 9), .mv (.t 0), (some (8, true))⟩, ⟨(some 10), .call (.c (.fn 54 [])) [(.t 9)], (some (8, true))⟩, ⟨(some 11), .field none 0 (.t 10), (some (8, true))⟩, ⟨(some 12), .bin .neq .no (.t 11) (.c (.int .i64 3)), (some (8, true))⟩, ⟨(some 13), .pick (.t 8) (.t 12) (.c (.bool false)), none⟩])
   (.cond (.t 13)
     .skip
     (.exit 0)))
   (.block 1 (.draw [⟨(some 14), .faddr 5 (.t 3), none⟩, ⟨(some 15), .load none (.t 14), none⟩, ⟨(some 16), .mv (.t 0), none⟩, ⟨(some 17), .call (.c (.fn 55 [])) [(.t 16)], none⟩, ⟨(some 18), .bslice 6 1 [(.int .i64 0), .nils, .nils, .nils, (.int .i64 0), .nils] [(0, 6, (.t 17))], none⟩, ⟨(some 19), .append 6 112 (.t 15) (.t 18), none⟩, ⟨(some 20), .faddr 5 (.t 3), none⟩, ⟨none, .store 1 (.t 20) (.t 19), none⟩] [0, 1, 0, 4, 12, 31, 63, 127])))))
 (.seq (.reg [⟨(some 21), .load (some 6) (.t 3), none⟩, ⟨none, .store 6 (.t 2) (.t 21), none⟩])
 .ret)))), [.cell 2 (some 6)]⟩
theorem c35 : compF Try.prog Try.f35 = some m35 := by kernel_rfl
/-- weirgate/weirgateref09.lay -/
def m36 : MFunc := ⟨42, (.seq (.reg [⟨(some 2), .box 6 (.t 0), none⟩, ⟨(some 4), .mv (.c .nils), none⟩])
 (.seq (.reg [⟨(some 7), .mv (.t 1), none⟩, ⟨(some 8), .len (.t 7), none⟩, ⟨(some 5), .mv (.t 8), none⟩])
 (.seq (.reg [⟨(some 9), .mv (.t 1), none⟩, ⟨(some 10), .faddr 0 (.t 2), none⟩, ⟨(some 11), .load (some 5) (.t 10), none⟩, ⟨(some 12), .bslice 5 1 [(.int .i64 0), .nils, .nils, .nils, (.int .i64 0)] [(0, 5, (.t 11))], none⟩, ⟨(some 13), .append 5 88 (.t 9) (.t 12), none⟩, ⟨(some 1), .mv (.t 13), none⟩])
 (.seq (.seq (.reg [⟨(some 6), .mv (.c (.int .i64 0)), none⟩])
 (.block 0 (.loop (.seq (.seq (.reg [⟨(some 14), .mv (.t 6), none⟩, ⟨(some 15), .faddr 5 (.t 2), none⟩, ⟨(some 16), .load none (.t 15), none⟩, ⟨(some 17), .len (.t 16), none⟩, ⟨(some 18), .bin .lss .no (.t 14) (.t 17), none⟩])
   (.cond (.t 18)
     .skip
     (.exit 0)))
   (.seq (.block 1 (.seq (.reg [⟨(some 21), .mv (.t 1), none⟩, ⟨(some 22), .mv (.t 5), none⟩, ⟨(some 23), .mv (.t 1), none⟩, ⟨(some 24), .mv (.t 5), none⟩, ⟨(some 25), .iaddr 5 (.t 23) (.t 24), none⟩, ⟨(some 26), .faddr 3 (.t 25), none⟩, ⟨(some 27), .load none (.t 26), none⟩, ⟨(some 28), .mv (.t 1), none⟩, ⟨(some 29), .len (.t 28), none⟩, ⟨(some 30), .bslice 1 1 [(.int .i64 0)] [(0, 1, (.t 29))], none⟩, ⟨(some 31), .append 1 8 (.t 27) (.t 30), none⟩, ⟨(some 32), .iaddr 5 (.t 21) (.t 22), none⟩, ⟨(some 33), .faddr 3 (.t 32), none⟩, ⟨none, .store 1 (.t 33) (.t 31), none⟩])
    (.reg [⟨(some 34), .faddr 5 (.t 2), none⟩, ⟨(some 35), .load none (.t 34), none⟩, ⟨(some 36), .mv (.t 6), none⟩, ⟨(some 37), .iaddr 6 (.t 35) (.t 36), none⟩, ⟨(some 38), .load (some 6) (.t 37), none⟩, ⟨(some 39), .mv (.t 1), none⟩, ⟨(some 40), .call (.c (.fn 36 [])) [(.t 38), (.t 39)], none⟩, ⟨(some 1), .mv (.t 40), none⟩])))
   (.reg [⟨(some 19), .mv (.t 6), none⟩, ⟨(some 20), .bin .add .no (.t 19) (.c (.int .i64 1)), none⟩, ⟨(some 6), .mv (.t 20), none⟩]))))))
 (.seq (.reg [⟨(some 41), .mv (.t 1), none⟩, ⟨(some 4), .mv (.t 41), none⟩])
 .ret))))), [.tmp 4]⟩
theorem c36 : compF Try.prog Try.f36 = some m36 := by kernel_rfl
/-- weirgate/weirgateref09.deep -/
def m37 : MFunc := ⟨30, (.seq (.reg [⟨(some 2), .box 6 (.t 0), none⟩, ⟨(some 4), .mv (.c (.int .i64 0)), none⟩])
 (.seq (.seq (.reg [⟨(some 7), .mv (.t 1), none⟩, ⟨(some 8), .bin .gtr .no (.t 7) (.c (.int .i64 20)), none⟩])
 (.cond (.t 8)
   (.seq (.reg [⟨(some 9), .faddr 0 (.t 2), none⟩, ⟨(some 10), .faddr 4 (.t 9), none⟩, ⟨(some 11), .load none (.t 10), none⟩, ⟨(some 4), .mv (.t 11), none⟩])
   .ret)
   .skip))
 (.seq (.seq (.reg [⟨(some 5), .mv (.c (.int .i64 0)), none⟩])
 (.block 0 (.loop (.seq (.seq (.reg [⟨(some 12), .mv (.t 5), none⟩, ⟨(some 13), .faddr 5 (.t 2), none⟩, ⟨(some 14), .load none (.t 13), none⟩, ⟨(some 15), .len (.t 14), none⟩, ⟨(some 16), .bin .lss .no (.t 12) (.t 15), none⟩])
   (.cond (.t 16)
     .skip
     (.exit 0)))
   (.seq (.block 1 (.seq (.reg [⟨(some 19), .faddr 5 (.t 2), none⟩, ⟨(some 20), .load none (.t 19), none⟩, ⟨(some 21), .mv (.t 5), none⟩, ⟨(some 22), .iaddr 6 (.t 20) (.t 21), none⟩, ⟨(some 23), .load (some 6) (.t 22), none⟩, ⟨(some 24), .mv (.t 1), none⟩, ⟨(some 25), .bin .add .no (.t 24) (.c (.int .i64 1)), none⟩, ⟨(some 26), .call (.c (.fn 37 [])) [(.t 23), (.t 25)], none⟩, ⟨(some 6), .mv (.t 26), none⟩])
    (.seq (.reg [⟨(some 27), .mv (.t 6), none⟩, ⟨(some 28), .bin .geq .no (.t 27) (.c (.int .i64 0)), none⟩])
    (.cond (.t 28)
      (.seq (.reg [⟨(some 29), .mv (.t 6), none⟩, ⟨(some 4), .mv (.t 29), none⟩])
      .ret)
      .skip))))
   (.reg [⟨(some 17), .mv (.t 5), none⟩, ⟨(some 18), .bin .add .no (.t 17) (.c (.int .i64 1)), none⟩, ⟨(some 5), .mv (.t 18), none⟩]))))))
 (.seq (.reg [⟨(some 4), .mv (.c (.int .i64 (-1))), none⟩])
 .ret)))), [.tmp 4]⟩
theorem c37 : compF Try.prog Try.f37 = some m37 := by kernel_rfl
/-- weirgate/weirgateref12.Check -/
def m38 : MFunc := ⟨31, (.seq (.reg [⟨(some 2), .alloc [(.int .i64 0), (.int .i64 0)], none⟩])
 (.seq (.reg [⟨(some 6), .mv (.t 0), none⟩, ⟨(some 7), .call (.c (.fn 56 [])) [(.t 6)], none⟩, ⟨(some 3), .alloc [(.int .i64 0), (.int .i64 0)], none⟩, ⟨none, .store 2 (.t 3) (.t 7), none⟩])
 (.seq (.seq (.reg [⟨(some 8), .faddr 0 (.t 3), none⟩, ⟨(some 9), .load none (.t 8), none⟩, ⟨(some 10), .bin .neq .no (.t 9) (.c (.int .i64 0)), none⟩])
 (.cond (.t 10)
   (.seq (.reg [⟨(some 11), .load (some 2) (.t 3), none⟩, ⟨none, .store 2 (.t 2) (.t 11), none⟩])
   .ret)
   .skip))
 (.seq (.seq (.reg [⟨(some 4), .mv (.c (.int .i64 0)), none⟩])
 (.block 0 (.loop (.seq (.seq (.reg [⟨(some 12), .mv (.t 4), none⟩, ⟨(some 13), .mv (.t 0), none⟩, ⟨(some 14), .len (.t 13), none⟩, ⟨(some 15), .bin .lss .no (.t 12) (.t 14), none⟩])
   (.cond (.t 15)
     .skip
     (.exit 0)))
   (.seq (.block 1 (.seq (.reg [⟨(some 18), .mv (.t 0), none⟩, ⟨(some 19), .mv (.t 4), none⟩, ⟨(some 20), .call (.c (.fn 57 [])) [(.t 18), (.t 19)], none⟩, ⟨(some 5), .mv (.t 20), none⟩])
    (.seq (.reg [⟨(some 21), .mv (.t 5), none⟩, ⟨(some 22), .bin .neq .no (.t 21) (.c (.int .i64 0)), none⟩])
    (.cond (.t 22)
      (.seq (.reg [⟨(some 23), .mv (.t 5), none⟩, ⟨(some 24), .mv (.t 0), none⟩, ⟨(some 25), .mv (.t 4), none⟩, ⟨(some 26), .iaddr 5 (.t 24) (.t 25), none⟩, ⟨(some 27), .faddr 4 (.t 26), none⟩, ⟨(some 28), .load none (.t 27), none⟩, ⟨(some 29), .build [(.int .i64 0), (.int .i64 0)] [(0, 1, (.t 23)), (1, 1, (.t 28))], none⟩, ⟨none, .store 2 (.t 2) (.t 29), none⟩])
      .ret)
      .skip))))
   (.reg [⟨(some 16), .mv (.t 4), none⟩, ⟨(some 17), .bin .add .no (.t 16) (.c (.int .i64 1)), none⟩, ⟨(some 4), .mv (.t 17), none⟩]))))))
 (.seq (.reg [⟨(some 30), .build [(.int .i64 0), (.int .i64 0)] [], none⟩, ⟨none, .store 2 (.t 2) (.t 30), none⟩])
 .ret))))), [.cell 2 (some 2)]⟩
theorem c38 : compF Try.prog Try.f38 = some m38 := by kernel_rfl
/-- weirgate/weirgateref13.several -/
def m39 : MFunc := ⟨54, (.seq (.reg [⟨(some 6), .box 7 (.t 0), none⟩, ⟨(some 7), .box 8 (.t 1), none⟩, ⟨(some 12), .alloc [(.str []), (.int .i64 0), .nils, (.int .i64 0), .nils, .nils, .nils, .nils], none⟩])
 (.seq (.seq (.reg [⟨(some 14), .mv (.t 2), none⟩, ⟨(some 15), .len (.t 14), none⟩, ⟨(some 16), .bin .eql .no (.t 15) (.c (.int .i64 0)), none⟩])
 (.cond (.t 16)
   (.seq (.reg [⟨(some 17), .load (some 8) (.t 7), none⟩, ⟨(some 18), .mv (.t 4), none⟩, ⟨(some 19), .mv (.t 5), none⟩, ⟨(some 20), .mv (.t 3), none⟩, ⟨(some 21), .call (.c (.fn 58 [])) [(.t 17), (.t 18), (.t 19), (.c (.int .i64 0)), (.t 20), (.c (.int .i64 (-1))), (.c (.int .i64 (-1))), (.c (.int .i64 (-1)))], none⟩, ⟨none, .store 8 (.t 12) (.t 21), none⟩])
   .ret)
   .skip))
 (.seq (.seq (.reg [⟨(some 22), .mv (.t 2), none⟩, ⟨(some 23), .len (.t 22), none⟩, ⟨(some 24), .bin .eql .no (.t 23) (.c (.int .i64 1)), none⟩])
 (.cond (.t 24)
   (.seq (.draw [⟨(some 25), .load (some 7) (.t 6), none⟩, ⟨(some 26), .load (some 8) (.t 7), none⟩, ⟨(some 27), .mv (.t 2), none⟩, ⟨(some 28), .iaddr 1 (.t 27) (.c (.int .i64 0)), none⟩, ⟨(some 29), .load none (.t 28), none⟩, ⟨(some 30), .mv (.t 4), none⟩, ⟨(some 31), .mv (.t 5), none⟩, ⟨(some 32), .call (.c (.fn 59 [])) [(.t 25), (.t 26), (.t 29), (.t 30), (.t 31)], none⟩, ⟨none, .store 8 (.t 12) (.t 32), none⟩] [0, 0, 0, 4, 12, 0, 0, 127, 255])
   .ret)
   .skip))
 (.seq (.reg [⟨(some 34), .load (some 8) (.t 7), none⟩, ⟨(some 35), .call (.c (.fn 60 [])) [(.t 34)], none⟩, ⟨(some 33), .mv (.t 35), none⟩, ⟨(some 36), .extract (.t 33) 0, none⟩, ⟨(some 37), .extract (.t 33) 1, none⟩, ⟨none, .store 8 (.t 7) (.t 36), none⟩, ⟨(some 13), .mv (.t 37), none⟩])
 (.seq (.draw [⟨(some 38), .load (some 7) (.t 6), none⟩, ⟨(some 39), .load (some 8) (.t 7), none⟩, ⟨(some 40), .mv (.t 2), none⟩, ⟨(some 41), .iaddr 1 (.t 40) (.c (.int .i64 0)), none⟩, ⟨(some 42), .load none (.t 41), none⟩, ⟨(some 43), .mv (.t 4), none⟩, ⟨(some 44), .mv (.t 13), none⟩, ⟨(some 45), .call (.c (.fn 59 [])) [(.t 38), (.t 39), (.t 42), (.t 43), (.t 44)], none⟩, ⟨none, .store 8 (.t 7) (.t 45), none⟩] [0, 0, 0, 4, 12, 0, 0, 127, 255])
 (.seq (.draw [⟨(some 46), .load (some 7) (.t 6), none⟩, ⟨(some 47), .load (some 8) (.t 7), none⟩, ⟨(some 48), .mv (.t 2), none⟩, ⟨(some 49), .cut 1 (.t 48) (some (.c (.int .i64 1))) none none, none⟩, ⟨(some 50), .mv (.t 3), none⟩, ⟨(some 51), .mv (.t 13), none⟩, ⟨(some 52), .mv (.t 5), none⟩, ⟨(some 53), .call (.c (.fn 39 [])) [(.t 46), (.t 47), (.t 49), (.t 50), (.t 51), (.t 52)], none⟩, ⟨none, .store 8 (.t 12) (.t 53), none⟩] [0, 0, 0, 4, 0, 0, 0, 127, 255])
 .ret)))))), [.cell 12 (some 8)]⟩
theorem c39 : compF Try.prog Try.f39 = some m39 := by kernel_rfl
/-- (*weirgate/foot.reader).variable -/
def m42 : MFunc := ⟨37, (.seq (.reg [⟨(some 3), .box 1 (.t 1), none⟩, ⟨(some 4), .mv (.c (.int .u32 0)), none⟩])
 (.seq (.seq (.reg [⟨(some 5), .mv (.t 0), none⟩, ⟨(some 6), .nilc (.t 5), none⟩, ⟨(some 7), .faddr 7 (.t 6), none⟩, ⟨(some 8), .load none (.t 7), none⟩, ⟨(some 9), .bin .neq .ptr (.t 8) (.c .nilp), none⟩])
 (.cond (.t 9)
   (.seq (.draw [⟨(some 10), .mv (.t 0), none⟩, ⟨(some 11), .nilc (.t 10), none⟩, ⟨(some 12), .faddr 7 (.t 11), none⟩, ⟨(some 13), .load none (.t 12), none⟩, ⟨(some 14), .nilc (.t 13), none⟩, ⟨(some 15), .faddr 7 (.t 14), none⟩, ⟨(some 16), .load none (.t 15), none⟩, ⟨(some 17), .mv (.t 0), none⟩, ⟨(some 18), .nilc (.t 17), none⟩, ⟨(some 19), .faddr 7 (.t 18), none⟩, ⟨(some 20), .load none (.t 19), none⟩, ⟨(some 21), .nilc (.t 20), none⟩, ⟨(some 22), .faddr 6 (.t 21), none⟩, ⟨(some 23), .load none (.t 22), none⟩, ⟨(some 24), .load none (.t 3), none⟩, ⟨(some 25), .call (.c (.fn 67 [])) [(.t 23), (.t 24)], none⟩, ⟨(some 26), .iaddr 1 (.t 16) (.t 25), none⟩, ⟨(some 27), .load none (.t 26), none⟩, ⟨(some 28), .bin .shl .no (.c (.int .u32 1)) (.t 27), none⟩, ⟨(some 4), .mv (.t 28), none⟩] [0, 1, 3, 7, 15, 31, 63, 0, 128, 384, 896, 1920, 3968, 8064, 0, 32640, 65535, 131071, 262143, 524287])
   .ret)
   .skip))
 (.seq (.reg [⟨(some 29), .mv (.t 0), none⟩, ⟨(some 30), .nilc (.t 29), none⟩, ⟨(some 31), .faddr 0 (.t 30), none⟩, ⟨(some 32), .faddr 3 (.t 31), none⟩, ⟨(some 33), .load none (.t 32), none⟩, ⟨(some 34), .mkfn 69 [(.t 3)], none⟩, ⟨(some 35), .call (.c (.fn 68 [])) [(.t 33), (.t 34)], none⟩, ⟨(some 36), .bin .shl .no (.c (.int .u32 1)) (.t 35), none⟩, ⟨(some 4), .mv (.t 36), none⟩])
 .ret))), [.tmp 4]⟩
theorem c42 : compF Try.prog Try.f42 = some m42 := by kernel_rfl
/-- (*weirgate/foot.reader).channel -/
def m43 : MFunc := ⟨13, (.seq (.reg [⟨(some 3), .box 1 (.t 1), none⟩, ⟨(some 4), .mv (.c (.int .u32 0)), none⟩])
 (.seq (.reg [⟨(some 5), .mv (.t 0), none⟩, ⟨(some 6), .nilc (.t 5), none⟩, ⟨(some 7), .faddr 0 (.t 6), none⟩, ⟨(some 8), .faddr 2 (.t 7), none⟩, ⟨(some 9), .load none (.t 8), none⟩, ⟨(some 10), .mkfn 71 [(.t 3)], none⟩, ⟨(some 11), .call (.c (.fn 70 [])) [(.t 9), (.t 10)], none⟩, ⟨(some 12), .bin .shl .no (.c (.int .u32 1)) (.t 11), none⟩, ⟨(some 4), .mv (.t 12), none⟩])
 .ret)), [.tmp 4]⟩
theorem c43 : compF Try.prog Try.f43 = some m43 := by kernel_rfl
/-- weirgate/weirgateref08.has -/
def m47 : MFunc := ⟨17, (.seq (.reg [⟨(some 4), .mv (.c (.bool false)), none⟩])
 (.seq (.seq (.reg [⟨(some 5), .mv (.c (.int .i64 0)), none⟩])
 (.block 0 (.loop (.seq (.seq (.reg [⟨(some 6), .mv (.t 5), none⟩, ⟨(some 7), .mv (.t 0), none⟩, ⟨(some 8), .lenS (.t 7), none⟩, ⟨(some 9), .bin .lss .no (.t 6) (.t 8), none⟩])
   (.cond (.t 9)
     .skip
     (.exit 0)))
   (.seq (.block 1 (.seq (.reg [⟨(some 12), .mv (.t 0), none⟩, ⟨(some 13), .mv (.t 5), none⟩, ⟨(some 14), .index (.t 12) (.t 13), none⟩, ⟨(some 15), .mv (.t 1), none⟩, ⟨(some 16), .bin .eql .no (.t 14) (.t 15), none⟩])
    (.cond (.t 16)
      (.seq (.reg [⟨(some 4), .mv (.c (.bool true)), none⟩])
      .ret)
      .skip)))
   (.reg [⟨(some 10), .mv (.t 5), none⟩, ⟨(some 11), .bin .add .no (.t 10) (.c (.int .i64 1)), none⟩, ⟨(some 5), .mv (.t 11), none⟩]))))))
 (.seq (.reg [⟨(some 4), .mv (.c (.bool false)), none⟩])
 .ret))), [.tmp 4]⟩
theorem c47 : compF Try.prog Try.f47 = some m47 := by kernel_rfl
/-- weirgate/weirgateref08.two -/
def m48 : MFunc := ⟨15, (.seq (.reg [⟨(some 4), .mv (.c (.str [])), none⟩])
 (.seq (.seq (.reg [⟨(some 5), .mv (.t 1), none⟩, ⟨(some 6), .bin .add .no (.t 5) (.c (.int .i64 2)), none⟩, ⟨(some 7), .mv (.t 0), none⟩, ⟨(some 8), .lenS (.t 7), none⟩, ⟨(some 9), .bin .leq .no (.t 6) (.t 8), none⟩])
 (.cond (.t 9)
   (.seq (.reg [⟨(some 10), .mv (.t 0), none⟩, ⟨(some 11), .mv (.t 1), none⟩, ⟨(some 12), .mv (.t 1), none⟩, ⟨(some 13), .bin .add .no (.t 12) (.c (.int .i64 2)), none⟩, ⟨(some 14), .cutS (.t 10) (some (.t 11)) (some (.t 13)), none⟩, ⟨(some 4), .mv (.t 14), none⟩])
   .ret)
   .skip))
 (.seq (.reg [⟨(some 4), .mv (.c (.str [])), none⟩])
 .ret))), [.tmp 4]⟩
theorem c48 : compF Try.prog Try.f48 = some m48 := by kernel_rfl
/-- weirgate/weirgateref08.letter -/
def m49 : MFunc := ⟨17, (.seq (.reg [⟨(some 2), .mv (.c (.bool false)), none⟩])
 (.seq (.reg [⟨(some 3), .mv (.t 0), none⟩, ⟨(some 4), .bin .geq .no (.t 3) (.c (.int .u8 65)), none⟩, ⟨(some 5), .mv (.t 4), none⟩, ⟨(some 6), .mv (.t 0), (some (5, true))⟩, ⟨(some 7), .bin .leq .no (.t 6) (.c (.int .u8 90)), (some (5, true))⟩, ⟨(some 8), .pick (.t 5) (.t 7) (.c (.bool false)), none⟩, ⟨(some 9), .mv (.t 8), none⟩, ⟨(some 10), .mv (.t 0), (some (9, false))⟩, ⟨(some 11), .bin .geq .no (.t 10) (.c (.int .u8 97)), (some (9, false))⟩, ⟨(some 12), .mv (.t 11), (some (9, false))⟩, ⟨(some 13), .mv (.t 0), (some (12, true))⟩, ⟨(some 14), .bin .leq .no (.t 13) (.c (.int .u8 122)), (some (12, true))⟩, ⟨(some 15), .pick (.t 12) (.t 14) (.c (.bool false)), (some (9, false))⟩, ⟨(some 16), .pick (.t 9) (.c (.bool true)) (.t 15), none⟩, ⟨(some 2), .mv (.t 16), none⟩])
 .ret)), [.tmp 2]⟩
theorem c49 : compF Try.prog Try.f49 = some m49 := by kernel_rfl
/-- weirgate/weirgateref08.word -/
def m50 : MFunc := ⟨13, (.seq (.reg [⟨(some 2), .mv (.c (.bool false)), none⟩])
 (.seq (.reg [⟨(some 3), .mv (.t 0), none⟩, ⟨(some 4), .call (.c (.fn 49 [])) [(.t 3)], none⟩, ⟨(some 5), .mv (.t 4), none⟩, ⟨(some 6), .mv (.t 0), (some (5, false))⟩, ⟨(some 7), .call (.c (.fn 51 [])) [(.t 6)], (some (5, false))⟩, ⟨(some 8), .pick (.t 5) (.c (.bool true)) (.t 7), none⟩, ⟨(some 9), .mv (.t 8), none⟩, ⟨(some 10), .mv (.t 0), (some (9, false))⟩, ⟨(some 11), .bin .eql .no (.t 10) (.c (.int .u8 95)), (some (9, false))⟩, ⟨(some 12), .pick (.t 9) (.c (.bool true)) (.t 11), none⟩, ⟨(some 2), .mv (.t 12), none⟩])
 .ret)), [.tmp 2]⟩
theorem c50 : compF Try.prog Try.f50 = some m50 := by kernel_rfl
/-- weirgate/weirgateref08.digit -/
def m51 : MFunc := ⟨9, (.seq (.reg [⟨(some 2), .mv (.c (.bool false)), none⟩])
 (.seq (.reg [⟨(some 3), .mv (.t 0), none⟩, ⟨(some 4), .bin .geq .no (.t 3) (.c (.int .u8 48)), none⟩, ⟨(some 5), .mv (.t 4), none⟩, ⟨(some 6), .mv (.t 0), (some (5, true))⟩, ⟨(some 7), .bin .leq .no (.t 6) (.c (.int .u8 57)), (some (5, true))⟩, ⟨(some 8), .pick (.t 5) (.t 7) (.c (.bool false)), none⟩, ⟨(some 2), .mv (.t 8), none⟩])
 .ret)), [.tmp 2]⟩
theorem c51 : compF Try.prog Try.f51 = some m51 := by kernel_rfl
/-- (*weirgate/weirgateref09.P).begin -/
def m52 : MFunc := ⟨11, (.seq (.reg [⟨(some 4), .alloc [(.int .i64 0), .nils, .nils, .nils, (.int .i64 0), .nils], none⟩])
 (.seq (.reg [⟨(some 5), .mv (.t 1), none⟩, ⟨(some 6), .mv (.t 0), none⟩, ⟨(some 7), .call (.c (.fn 54 [])) [(.t 6)], none⟩, ⟨(some 8), .field none 2 (.t 7), none⟩, ⟨(some 9), .build [(.int .i64 0), .nils, .nils, .nils, (.int .i64 0)] [(0, 1, (.t 5)), (4, 1, (.t 8))], none⟩, ⟨(some 10), .build [(.int .i64 0), .nils, .nils, .nils, (.int .i64 0), .nils] [(0, 5, (.t 9))], none⟩, ⟨none, .store 6 (.t 4) (.t 10), none⟩])
 .ret)), [.cell 4 (some 6)]⟩
theorem c52 : compF Try.prog Try.f52 = some m52 := by kernel_rfl
/-- (*weirgate/weirgateref09.P).ok -/
def m53 : MFunc := ⟨9, (.seq (.reg [⟨(some 2), .mv (.c (.bool false)), none⟩])
 (.seq (.reg [⟨(some 3), .mv (.t 0), none⟩, ⟨(some 4), .nilc (.t 3), none⟩, ⟨(some 5), .faddr 3 (.t 4), none⟩, ⟨(some 6), .faddr 0 (.t 5), none⟩, ⟨(some 7), .load none (.t 6), none⟩, ⟨(some 8), .bin .eql .no (.t 7) (.c (.int .i64 0)), none⟩, ⟨(some 2), .mv (.t 8), none⟩])
 .ret)), [.tmp 2]⟩
theorem c53 : compF Try.prog Try.f53 = some m53 := by kernel_rfl
/-- (*weirgate/weirgateref09.P).now -/
def m54 : MFunc := ⟨13, (.seq (.reg [⟨(some 2), .alloc [(.int .i64 0), (.str []), (.int .i64 0)], none⟩])
 (.seq (.draw [⟨(some 3), .mv (.t 0), none⟩, ⟨(some 4), .nilc (.t 3), none⟩, ⟨(some 5), .faddr 0 (.t 4), none⟩, ⟨(some 6), .load none (.t 5), none⟩, ⟨(some 7), .mv (.t 0), none⟩, ⟨(some 8), .nilc (.t 7), none⟩, ⟨(some 9), .faddr 1 (.t 8), none⟩, ⟨(some 10), .load none (.t 9), none⟩, ⟨(some 11), .iaddr 3 (.t 6) (.t 10), none⟩, ⟨(some 12), .load (some 3) (.t 11), none⟩, ⟨none, .store 3 (.t 2) (.t 12), none⟩] [0, 1, 3, 7, 0, 16, 48, 112, 255, 511, 1023])
 .ret)), [.cell 2 (some 3)]⟩
theorem c54 : compF Try.prog Try.f54 = some m54 := by kernel_rfl
/-- (*weirgate/weirgateref09.P).item -/
def m55 : MFunc := ⟨85, (.seq (.reg [⟨(some 2), .alloc [(.int .i64 0), .nils, .nils, .nils, (.int .i64 0), .nils], none⟩])
 (.seq (.reg [⟨(some 4), .mv (.t 0), none⟩, ⟨(some 5), .call (.c (.fn 52 [])) [(.t 4), (.c (.int .i64 5))], none⟩, ⟨(some 3), .alloc [(.int .i64 0), .nils, .nils, .nils, (.int .i64 0), .nils], none⟩, ⟨none, .store 6 (.t 3) (.t 5), none⟩])
 (.seq (.seq (.reg [⟨(some 6), .mv (.t 0), none⟩, ⟨(some 7), .call (.c (.fn 72 [])) [(.t 6), (.c (.str [118, 97, 114]))], none⟩])
 (.cond (.t 7)
   (.seq (.reg [⟨(some 8), .mv (.t 0), none⟩, ⟨(some 9), .call (.c (.fn 73 [])) [(.t 8)], none⟩, ⟨none, .store 6 (.t 2) (.t 9), none⟩])
   .ret)
   .skip))
 (.seq (.seq (.reg [⟨(some 10), .mv (.t 0), none⟩, ⟨(some 11), .call (.c (.fn 72 [])) [(.t 10), (.c (.str [112, 114, 111, 99]))], none⟩])
 (.cond (.t 11)
   (.seq (.reg [⟨(some 12), .mv (.t 0), none⟩, ⟨(some 13), .call (.c (.fn 74 [])) [(.t 12)], none⟩, ⟨none, .store 6 (.t 2) (.t 13), none⟩])
   .ret)
   .skip))
 (.seq (.seq (.reg [⟨(some 14), .mv (.t 0), none⟩, ⟨(some 15), .call (.c (.fn 75 [])) [(.t 14), (.c (.str [99, 104, 97, 110]))], none⟩])
 (.cond (.t 15)
   (.seq (.reg [⟨(some 16), .faddr 0 (.t 3), none⟩, ⟨(some 17), .faddr 0 (.t 16), none⟩, ⟨none, .store 1 (.t 17) (.c (.int .i64 1)), none⟩])
   (.seq (.draw [⟨(some 18), .faddr 0 (.t 3), none⟩, ⟨(some 19), .faddr 1 (.t 18), none⟩, ⟨(some 20), .load none (.t 19), none⟩, ⟨(some 21), .mv (.t 0), none⟩, ⟨(some 22), .call (.c (.fn 76 [])) [(.t 21)], none⟩, ⟨(some 23), .bslice 1 1 [(.str [])] [(0, 1, (.t 22))], none⟩, ⟨(some 24), .append 1 16 (.t 20) (.t 23), none⟩, ⟨(some 25), .faddr 0 (.t 3), none⟩, ⟨(some 26), .faddr 1 (.t 25), none⟩, ⟨none, .store 1 (.t 26) (.t 24), none⟩] [0, 1, 3, 0, 8, 24, 63, 127, 255, 511])
   (.seq (.reg [⟨(some 27), .mv (.t 0), none⟩, ⟨(some 28), .call (.c (.fn 77 [])) [(.t 27), (.c (.str [91]))], none⟩])
   (.seq (.draw [⟨(some 29), .faddr 0 (.t 3), none⟩, ⟨(some 30), .faddr 2 (.t 29), none⟩, ⟨(some 31), .load none (.t 30), none⟩, ⟨(some 32), .mv (.t 0), none⟩, ⟨(some 33), .call (.c (.fn 78 [])) [(.t 32)], none⟩, ⟨(some 34), .bslice 1 1 [(.int .i64 0)] [(0, 1, (.t 33))], none⟩, ⟨(some 35), .append 1 8 (.t 31) (.t 34), none⟩, ⟨(some 36), .faddr 0 (.t 3), none⟩, ⟨(some 37), .faddr 2 (.t 36), none⟩, ⟨none, .store 1 (.t 37) (.t 35), none⟩] [0, 1, 3, 0, 8, 24, 63, 127, 255, 511])
   (.seq (.reg [⟨(some 38), .mv (.t 0), none⟩, ⟨(some 39), .call (.c (.fn 77 [])) [(.t 38), (.c (.str [93]))], none⟩])
   (.seq (.reg [⟨(some 40), .mv (.t 0), none⟩, ⟨(some 41), .call (.c (.fn 77 [])) [(.t 40), (.c (.str [111, 102]))], none⟩])
   (.seq (.draw [⟨(some 42), .faddr 0 (.t 3), none⟩, ⟨(some 43), .faddr 2 (.t 42), none⟩, ⟨(some 44), .load none (.t 43), none⟩, ⟨(some 45), .mv (.t 0), none⟩, ⟨(some 46), .call (.c (.fn 78 [])) [(.t 45)], none⟩, ⟨(some 47), .bslice 1 1 [(.int .i64 0)] [(0, 1, (.t 46))], none⟩, ⟨(some 48), .append 1 8 (.t 44) (.t 47), none⟩, ⟨(some 49), .faddr 0 (.t 3), none⟩, ⟨(some 50), .faddr 2 (.t 49), none⟩, ⟨none, .store 1 (.t 50) (.t 48), none⟩] [0, 1, 3, 0, 8, 24, 63, 127, 255, 511])
   (.seq (.draw [⟨(some 51), .faddr 0 (.t 3), none⟩, ⟨(some 52), .faddr 2 (.t 51), none⟩, ⟨(some 53), .load none (.t 52), none⟩, ⟨(some 54), .mv (.t 0), none⟩, ⟨(some 55), .call (.c (.fn 79 [])) [(.t 54), (.c (.str [108, 111, 115, 115, 121]))], none⟩, ⟨(some 56), .bslice 1 1 [(.int .i64 0)] [(0, 1, (.t 55))], none⟩, ⟨(some 57), .append 1 8 (.t 53) (.t 56), none⟩, ⟨(some 58), .faddr 0 (.t 3), none⟩, ⟨(some 59), .faddr 2 (.t 58), none⟩, ⟨none, .store 1 (.t 59) (.t 57), none⟩] [0, 1, 3, 0, 8, 24, 63, 127, 255, 511])
   (.draw [⟨(some 60), .faddr 0 (.t 3), none⟩, ⟨(some 61), .faddr 2 (.t 60), none⟩, ⟨(some 62), .load none (.t 61), none⟩, ⟨(some 63), .mv (.t 0), none⟩, ⟨(some 64), .call (.c (.fn 79 [])) [(.t 63), (.c (.str [99, 111, 112, 121, 105, 110, 103]))], none⟩, ⟨(some 65), .bslice 1 1 [(.int .i64 0)] [(0, 1, (.t 64))], none⟩, ⟨(some 66), .append 1 8 (.t 62) (.t 65), none⟩, ⟨(some 67), .faddr 0 (.t 3), none⟩, ⟨(some 68), .faddr 2 (.t 67), none⟩, ⟨none, .store 1 (.t 68) (.t 66), none⟩] [0, 1, 3, 0, 8, 24, 63, 127, 255, 511])))))))))
   (.seq (.reg [⟨(some 69), .mv (.t 0), none⟩, ⟨(some 70), .call (.c (.fn 75 [])) [(.t 69), (.c (.str [115, 97, 102, 101]))], none⟩])
   (.cond (.t 70)
     (.seq (.reg [⟨(some 71), .faddr 0 (.t 3), none⟩, ⟨(some 72), .faddr 0 (.t 71), none⟩, ⟨none, .store 1 (.t 72) (.c (.int .i64 4)), none⟩])
     (.draw [⟨(some 73), .faddr 5 (.t 3), none⟩, ⟨(some 74), .load none (.t 73), none⟩, ⟨(some 75), .mv (.t 0), none⟩, ⟨(some 76), .call (.c (.fn 80 [])) [(.t 75)], none⟩, ⟨(some 77), .bslice 6 1 [(.int .i64 0), .nils, .nils, .nils, (.int .i64 0), .nils] [(0, 6, (.t 76))], none⟩, ⟨(some 78), .append 6 112 (.t 74) (.t 77), none⟩, ⟨(some 79), .faddr 5 (.t 3), none⟩, ⟨none, .store 1 (.t 79) (.t 78), none⟩] [0, 1, 0, 4, 12, 31, 63, 127]))
     (.reg [⟨(some 80), .mv (.t 0), none⟩, ⟨(some 81), .call (.c (.fn 77 [])) [(.t 80), (.c (.str [100, 101, 97, 100, 108, 111, 99, 107]))], none⟩])))))
 (.seq (.reg [⟨(some 82), .mv (.t 0), none⟩, ⟨(some 83), .call (.c (.fn 77 [])) [(.t 82), (.c (.str [59]))], none⟩])
 (.seq (.reg [⟨(some 84), .load (some 6) (.t 3), none⟩, ⟨none, .store 6 (.t 2) (.t 84), none⟩])
 .ret))))))), [.cell 2 (some 6)]⟩
theorem c55 : compF Try.prog Try.f55 = some m55 := by kernel_rfl
/-- weirgate/weirgateref11.Check -/
def m56 : MFunc := ⟨20, (.seq (.reg [⟨(some 2), .alloc [(.int .i64 0), (.int .i64 0)], none⟩])
 (.seq (.seq (.reg [⟨(some 3), .mv (.c (.int .i64 0)), none⟩])
 (.block 0 (.loop (.seq (.seq (.reg [⟨(some 4), .mv (.t 3), none⟩, ⟨(some 5), .mv (.t 0), none⟩, ⟨(some 6), .len (.t 5), none⟩, ⟨(some 7), .bin .lss .no (.t 4) (.t 6), none⟩])
   (.cond (.t 7)
     .skip
     (.exit 0)))
   (.seq (.block 1 (.seq (.reg [⟨(some 10), .mv (.t 0), none⟩, ⟨(some 11), .mv (.t 3), none⟩, ⟨(some 12), .call (.c (.fn 81 [])) [(.t 10), (.t 11)], none⟩])
    (.cond (.t 12)
      (.seq (.reg [⟨(some 13), .mv (.t 0), none⟩, ⟨(some 14), .mv (.t 3), none⟩, ⟨(some 15), .iaddr 5 (.t 13) (.t 14), none⟩, ⟨(some 16), .faddr 4 (.t 15), none⟩, ⟨(some 17), .load none (.t 16), none⟩, ⟨(some 18), .build [(.int .i64 0), (.int .i64 0)] [(0, 1, (.c (.int .i64 20))), (1, 1, (.t 17))], none⟩, ⟨none, .store 2 (.t 2) (.t 18), none⟩])
      .ret)
      .skip)))
   (.reg [⟨(some 8), .mv (.t 3), none⟩, ⟨(some 9), .bin .add .no (.t 8) (.c (.int .i64 1)), none⟩, ⟨(some 3), .mv (.t 9), none⟩]))))))
 (.seq (.reg [⟨(some 19), .build [(.int .i64 0), (.int .i64 0)] [], none⟩, ⟨none, .store 2 (.t 2) (.t 19), none⟩])
 .ret))), [.cell 2 (some 2)]⟩
theorem c56 : compF Try.prog Try.f56 = some m56 := by kernel_rfl
/-- weirgate/weirgateref12.wrong -/
def m57 : MFunc := ⟨124, (.seq (.reg [⟨(some 4), .mv (.c (.int .i64 0)), none⟩])
 (.seq (.reg [⟨(some 8), .mv (.t 0), none⟩, ⟨(some 9), .mv (.t 1), none⟩, ⟨(some 10), .iaddr 5 (.t 8) (.t 9), none⟩, ⟨(some 11), .load (some 5) (.t 10), none⟩, ⟨(some 5), .alloc [(.int .i64 0), .nils, .nils, .nils, (.int .i64 0)], none⟩, ⟨none, .store 5 (.t 5) (.t 11), none⟩])
 (.seq (.reg [⟨(some 6), .mv (.c (.bool false)), none⟩])
 (.seq (.seq (.reg [⟨(some 12), .faddr 0 (.t 5), none⟩, ⟨(some 13), .load none (.t 12), none⟩])
 (.block 0 (.seq (.reg [⟨(some 15), .bin .eql .no (.t 13) (.c (.int .i64 1)), none⟩, ⟨(some 14), .mv (.t 15), none⟩])
  (.cond (.t 14)
    (.reg [⟨(some 16), .faddr 2 (.t 5), none⟩, ⟨(some 17), .load none (.t 16), none⟩, ⟨(some 18), .iaddr 1 (.t 17) (.c (.int .i64 0)), none⟩, ⟨(some 19), .load none (.t 18), none⟩, ⟨(some 20), .bin .lss .no (.t 19) (.c (.int .i64 1)), none⟩, ⟨(some 21), .mv (.t 20), none⟩, ⟨(some 22), .faddr 2 (.t 5), (some (21, false))⟩, ⟨(some 23), .load none (.t 22), (some (21, false))⟩, ⟨(some 24), .iaddr 1 (.t 23) (.c (.int .i64 0)), (some (21, false))⟩, ⟨(some 25), .load none (.t 24), (some (21, false))⟩, ⟨(some 26), .bin .gtr .no (.t 25) (.c (.int .i64 3)), (some (21, false))⟩, ⟨(some 27), .pick (.t 21) (.c (.bool true)) (.t 26), none⟩, ⟨(some 28), .mv (.t 27), none⟩, ⟨(some 29), .faddr 2 (.t 5), (some (28, false))⟩, ⟨(some 30), .load none (.t 29), (some (28, false))⟩, ⟨(some 31), .iaddr 1 (.t 30) (.c (.int .i64 1)), (some (28, false))⟩, ⟨(some 32), .load none (.t 31), (some (28, false))⟩, ⟨(some 33), .bin .lss .no (.t 32) (.c (.int .i64 1)), (some (28, false))⟩, ⟨(some 34), .pick (.t 28) (.c (.bool true)) (.t 33), none⟩, ⟨(some 35), .mv (.t 34), none⟩, ⟨(some 36), .faddr 2 (.t 5), (some (35, false))⟩, ⟨(some 37), .load none (.t 36), (some (35, false))⟩, ⟨(some 38), .iaddr 1 (.t 37) (.c (.int .i64 1)), (some (35, false))⟩, ⟨(some 39), .load none (.t 38), (some (35, false))⟩, ⟨(some 40), .bin .gtr .no (.t 39) (.c (.int .i64 8)), (some (35, false))⟩, ⟨(some 41), .pick (.t 35) (.c (.bool true)) (.t 40), none⟩, ⟨(some 42), .mv (.t 41), none⟩, ⟨(some 43), .mv (.t 0), (some (42, false))⟩, ⟨(some 44), .mv (.t 1), (some (42, false))⟩, ⟨(some 45), .call (.c (.fn 82 [])) [(.t 43), (.t 44), (.c (.int .i64 1))], (some (42, false))⟩, ⟨(some 46), .bin .gtr .no (.t 45) (.c (.int .i64 3)), (some (42, false))⟩, ⟨(some 47), .pick (.t 42) (.c (.bool true)) (.t 46), none⟩, ⟨(some 6), .mv (.t 47), none⟩])
    (.seq (.reg [⟨(some 49), .bin .eql .no (.t 13) (.c (.int .i64 2)), none⟩, ⟨(some 48), .mv (.t 49), none⟩])
    (.cond (.t 48)
      (.draw [⟨(some 50), .faddr 2 (.t 5), none⟩, ⟨(some 51), .load none (.t 50), none⟩, ⟨(some 52), .iaddr 1 (.t 51) (.c (.int .i64 0)), none⟩, ⟨(some 53), .load none (.t 52), none⟩, ⟨(some 54), .bin .lss .no (.t 53) (.c (.int .i64 1)), none⟩, ⟨(some 55), .mv (.t 54), none⟩, ⟨(some 56), .faddr 2 (.t 5), (some (55, false))⟩, ⟨(some 57), .load none (.t 56), (some (55, false))⟩, ⟨(some 58), .iaddr 1 (.t 57) (.c (.int .i64 0)), (some (55, false))⟩, ⟨(some 59), .load none (.t 58), (some (55, false))⟩, ⟨(some 60), .bin .gtr .no (.t 59) (.c (.int .i64 8)), (some (55, false))⟩, ⟨(some 61), .pick (.t 55) (.c (.bool true)) (.t 60), none⟩, ⟨(some 62), .mv (.t 61), none⟩, ⟨(some 63), .faddr 2 (.t 5), (some (62, false))⟩, ⟨(some 64), .load none (.t 63), (some (62, false))⟩, ⟨(some 65), .iaddr 1 (.t 64) (.c (.int .i64 1)), (some (62, false))⟩, ⟨(some 66), .load none (.t 65), (some (62, false))⟩, ⟨(some 67), .faddr 2 (.t 5), (some (62, false))⟩, ⟨(some 68), .load none (.t 67), (some (62, false))⟩, ⟨(some 69), .iaddr 1 (.t 68) (.c (.int .i64 0)), (some (62, false))⟩, ⟨(some 70), .load none (.t 69), (some (62, false))⟩, ⟨(some 71), .call (.c (.fn 29 [])) [(.t 66), (.t 70)], (some (62, false))⟩, ⟨(some 72), .faddr 2 (.t 5), (some (62, false))⟩, ⟨(some 73), .load none (.t 72), (some (62, false))⟩, ⟨(some 74), .iaddr 1 (.t 73) (.c (.int .i64 1)), (some (62, false))⟩, ⟨(some 75), .load none (.t 74), (some (62, false))⟩, ⟨(some 76), .bin .neq .no (.t 71) (.t 75), (some (62, false))⟩, ⟨(some 77), .pick (.t 62) (.c (.bool true)) (.t 76), none⟩, ⟨(some 78), .mv (.t 77), none⟩, ⟨(some 79), .mv (.t 0), (some (78, false))⟩, ⟨(some 80), .mv (.t 1), (some (78, false))⟩, ⟨(some 81), .call (.c (.fn 82 [])) [(.t 79), (.t 80), (.c (.int .i64 2))], (some (78, false))⟩, ⟨(some 82), .bin .gtr .no (.t 81) (.c (.int .i64 8)), (some (78, false))⟩, ⟨(some 83), .pick (.t 78) (.c (.bool true)) (.t 82), none⟩, ⟨(some 6), .mv (.t 83), none⟩] [0, 1, 3, 7, 15, 31, 63, 127, 255, 511, 1023, 2047, 4095, 8191, 16383, 32767, 65535, 8191, 139263, 401407, 925695, 2097151, 8191, 4202495, 12591103, 29368319, 67108863, 134217727, 268435455, 536870911, 536870911, 2147483647, 4294967295, 8589934591, 17179869183])
      (.seq (.reg [⟨(some 85), .bin .eql .no (.t 13) (.c (.int .i64 3)), none⟩, ⟨(some 84), .mv (.t 85), none⟩])
      (.cond (.t 84)
        (.reg [⟨(some 86), .faddr 2 (.t 5), none⟩, ⟨(some 87), .load none (.t 86), none⟩, ⟨(some 88), .iaddr 1 (.t 87) (.c (.int .i64 0)), none⟩, ⟨(some 89), .load none (.t 88), none⟩, ⟨(some 90), .bin .lss .no (.t 89) (.c (.int .i64 1)), none⟩, ⟨(some 91), .mv (.t 90), none⟩, ⟨(some 92), .mv (.t 0), (some (91, false))⟩, ⟨(some 93), .mv (.t 1), (some (91, false))⟩, ⟨(some 94), .call (.c (.fn 82 [])) [(.t 92), (.t 93), (.c (.int .i64 3))], (some (91, false))⟩, ⟨(some 95), .bin .gtr .no (.t 94) (.c (.int .i64 4)), (some (91, false))⟩, ⟨(some 96), .pick (.t 91) (.c (.bool true)) (.t 95), none⟩, ⟨(some 6), .mv (.t 96), none⟩])
        (.seq (.reg [⟨(some 98), .bin .eql .no (.t 13) (.c (.int .i64 13)), none⟩, ⟨(some 97), .mv (.t 98), none⟩])
        (.cond (.t 97)
          (.seq (.reg [⟨(some 7), .mv (.c (.int .i64 0)), none⟩])
          (.block 1 (.loop (.seq (.seq (.reg [⟨(some 99), .mv (.t 7), none⟩, ⟨(some 100), .mv (.t 1), none⟩, ⟨(some 101), .bin .lss .no (.t 99) (.t 100), none⟩])
            (.cond (.t 101)
              .skip
              (.exit 1)))
            (.seq (.block 2 (.seq (.reg [⟨(some 104), .mv (.t 0), none⟩, ⟨(some 105), .mv (.t 7), none⟩, ⟨(some 106), .iaddr 5 (.t 104) (.t 105), none⟩, ⟨(some 107), .faddr 0 (.t 106), none⟩, ⟨(some 108), .load none (.t 107), none⟩, ⟨(some 109), .bin .eql .no (.t 108) (.c (.int .i64 13)), none⟩, ⟨(some 110), .mv (.t 109), none⟩, ⟨(some 111), .mv (.t 0), (some (110, true))⟩, ⟨(some 112), .mv (.t 1), (some (110, true))⟩, ⟨(some 113), .mv (.t 7), (some (110, true))⟩, ⟨(some 114), .call (.c (.fn 83 [])) [(.t 111), (.t 112), (.t 113)], (some (110, true))⟩, ⟨(some 115), .pick (.t 110) (.t 114) (.c (.bool false)), none⟩])
             (.cond (.t 115)
               (.seq (.reg [⟨(some 4), .mv (.c (.int .i64 21)), none⟩])
               .ret)
               .skip)))
            (.reg [⟨(some 102), .mv (.t 7), none⟩, ⟨(some 103), .bin .add .no (.t 102) (.c (.int .i64 1)), none⟩, ⟨(some 7), .mv (.t 103), none⟩]))))))
          (.seq (.reg [⟨(some 117), .bin .eql .no (.t 13) (.c (.int .i64 17)), none⟩, ⟨(some 116), .mv (.t 117), none⟩])
          (.cond (.t 116)
            (.reg [⟨(some 118), .faddr 2 (.t 5), none⟩, ⟨(some 119), .load none (.t 118), none⟩, ⟨(some 120), .iaddr 1 (.t 119) (.c (.int .i64 0)), none⟩, ⟨(some 121), .load none (.t 120), none⟩, ⟨(some 122), .bin .gtr .no (.t 121) (.c (.int .i64 127)), none⟩, ⟨(some 6), .mv (.t 122), none⟩])
            .skip))))))))))))
 (.seq (.seq (.reg [⟨(some 123), .mv (.t 6), none⟩])
 (.cond (.t 123)
   (.seq (.reg [⟨(some 4), .mv (.c (.int .i64 22)), none⟩])
   .ret)
   .skip))
 (.seq (.reg [⟨(some 4), .mv (.c (.int .i64 0)), none⟩])
 .ret)))))), [.tmp 4]⟩
theorem c57 : compF Try.prog Try.f57 = some m57 := by kernel_rfl
/-- weirgate/weirgateref13.put -/
def m58 : MFunc := ⟨33, (.seq (.reg [⟨(some 8), .box 8 (.t 0), none⟩, ⟨(some 16), .alloc [(.str []), (.int .i64 0), .nils, (.int .i64 0), .nils, .nils, .nils, .nils], none⟩])
 (.seq (.reg [⟨(some 17), .bslice 8 0 [(.int .i64 0), (.int .i64 0), (.int .i64 0), (.int .i64 0), (.int .i64 0), (.int .i64 0), (.bool false), (.int .i64 0)] [], none⟩, ⟨(some 18), .faddr 5 (.t 8), none⟩, ⟨(some 19), .load none (.t 18), none⟩, ⟨(some 20), .append 8 64 (.t 17) (.t 19), none⟩, ⟨(some 21), .mv (.t 1), none⟩, ⟨(some 22), .mv (.t 2), none⟩, ⟨(some 23), .mv (.t 3), none⟩, ⟨(some 24), .mv (.t 5), none⟩, ⟨(some 25), .mv (.t 6), none⟩, ⟨(some 26), .mv (.t 7), none⟩, ⟨(some 27), .mv (.t 4), none⟩, ⟨(some 28), .build [(.int .i64 0), (.int .i64 0), (.int .i64 0), (.int .i64 0), (.int .i64 0), (.int .i64 0), (.bool false), (.int .i64 0)] [(0, 1, (.t 21)), (1, 1, (.t 22)), (2, 1, (.t 23)), (3, 1, (.t 24)), (4, 1, (.t 25)), (5, 1, (.t 26)), (7, 1, (.t 27))], none⟩, ⟨(some 29), .bslice 8 1 [(.int .i64 0), (.int .i64 0), (.int .i64 0), (.int .i64 0), (.int .i64 0), (.int .i64 0), (.bool false), (.int .i64 0)] [(0, 8, (.t 28))], none⟩, ⟨(some 30), .append 8 64 (.t 20) (.t 29), none⟩, ⟨(some 31), .faddr 5 (.t 8), none⟩, ⟨none, .store 1 (.t 31) (.t 30), none⟩])
 (.seq (.reg [⟨(some 32), .load (some 8) (.t 8), none⟩, ⟨none, .store 8 (.t 16) (.t 32), none⟩])
 .ret))), [.cell 16 (some 8)]⟩
theorem c58 : compF Try.prog Try.f58 = some m58 := by kernel_rfl
/-- weirgate/weirgateref13.stat -/
def m59 : MFunc := ⟨335, (.seq (.reg [⟨(some 5), .box 7 (.t 0), none⟩, ⟨(some 6), .box 8 (.t 1), none⟩, ⟨(some 10), .alloc [(.str []), (.int .i64 0), .nils, (.int .i64 0), .nils, .nils, .nils, .nils], none⟩])
 (.seq (.reg [⟨(some 22), .faddr 0 (.t 5), none⟩, ⟨(some 23), .load none (.t 22), none⟩, ⟨(some 24), .mv (.t 2), none⟩, ⟨(some 25), .iaddr 5 (.t 23) (.t 24), none⟩, ⟨(some 26), .load (some 5) (.t 25), none⟩, ⟨(some 11), .alloc [(.int .i64 0), .nils, .nils, .nils, (.int .i64 0)], none⟩, ⟨none, .store 5 (.t 11) (.t 26), none⟩])
 (.seq (.seq (.reg [⟨(some 27), .faddr 0 (.t 11), none⟩, ⟨(some 28), .load none (.t 27), none⟩])
 (.block 0 (.seq (.reg [⟨(some 30), .bin .eql .no (.t 28) (.c (.int .i64 6)), none⟩, ⟨(some 29), .mv (.t 30), none⟩])
  (.cond (.t 29)
    (.seq (.draw [⟨(some 31), .load (some 8) (.t 6), none⟩, ⟨(some 32), .mv (.t 3), none⟩, ⟨(some 33), .mv (.t 4), none⟩, ⟨(some 34), .mv (.t 2), none⟩, ⟨(some 35), .faddr 3 (.t 11), none⟩, ⟨(some 36), .load none (.t 35), none⟩, ⟨(some 37), .iaddr 1 (.t 36) (.c (.int .i64 0)), none⟩, ⟨(some 38), .load none (.t 37), none⟩, ⟨(some 39), .faddr 7 (.t 6), none⟩, ⟨(some 40), .load none (.t 39), none⟩, ⟨(some 41), .faddr 6 (.t 6), none⟩, ⟨(some 42), .load none (.t 41), none⟩, ⟨(some 43), .faddr 1 (.t 11), none⟩, ⟨(some 44), .load none (.t 43), none⟩, ⟨(some 45), .iaddr 1 (.t 44) (.c (.int .i64 0)), none⟩, ⟨(some 46), .load none (.t 45), none⟩, ⟨(some 47), .call (.c (.fn 84 [])) [(.t 42), (.t 46)], none⟩, ⟨(some 48), .iaddr 1 (.t 40) (.t 47), none⟩, ⟨(some 49), .load none (.t 48), none⟩, ⟨(some 50), .call (.c (.fn 58 [])) [(.t 31), (.t 32), (.t 33), (.c (.int .i64 1)), (.t 34), (.t 38), (.t 49), (.c (.int .i64 (-1)))], none⟩, ⟨none, .store 8 (.t 10) (.t 50), none⟩] [0, 0, 0, 0, 0, 16, 48, 112, 0, 256, 0, 1024, 0, 4096, 12288, 28672, 64512, 130816, 261888, 524287, 1048575])
    .ret)
    (.seq (.reg [⟨(some 52), .bin .eql .no (.t 28) (.c (.int .i64 7)), none⟩, ⟨(some 51), .mv (.t 52), none⟩])
    (.cond (.t 51)
      (.seq (.draw [⟨(some 53), .load (some 8) (.t 6), none⟩, ⟨(some 54), .mv (.t 3), none⟩, ⟨(some 55), .mv (.t 4), none⟩, ⟨(some 56), .mv (.t 2), none⟩, ⟨(some 57), .faddr 3 (.t 11), none⟩, ⟨(some 58), .load none (.t 57), none⟩, ⟨(some 59), .iaddr 1 (.t 58) (.c (.int .i64 0)), none⟩, ⟨(some 60), .load none (.t 59), none⟩, ⟨(some 61), .load (some 7) (.t 5), none⟩, ⟨(some 62), .faddr 1 (.t 11), none⟩, ⟨(some 63), .load none (.t 62), none⟩, ⟨(some 64), .iaddr 1 (.t 63) (.c (.int .i64 0)), none⟩, ⟨(some 65), .load none (.t 64), none⟩, ⟨(some 66), .call (.c (.fn 85 [])) [(.t 61), (.t 65)], none⟩, ⟨(some 67), .call (.c (.fn 58 [])) [(.t 53), (.t 54), (.t 55), (.c (.int .i64 2)), (.t 56), (.t 60), (.c (.int .i64 (-1))), (.t 66)], none⟩, ⟨none, .store 8 (.t 10) (.t 67), none⟩] [0, 0, 0, 0, 0, 16, 48, 112, 0, 0, 512, 1536, 3584, 7936, 16383, 32767])
      .ret)
      (.seq (.reg [⟨(some 69), .bin .eql .no (.t 28) (.c (.int .i64 8)), none⟩, ⟨(some 68), .mv (.t 69), none⟩])
      (.cond (.t 68)
        (.seq (.draw [⟨(some 70), .load (some 8) (.t 6), none⟩, ⟨(some 71), .mv (.t 3), none⟩, ⟨(some 72), .faddr 2 (.t 11), none⟩, ⟨(some 73), .load none (.t 72), none⟩, ⟨(some 74), .iaddr 1 (.t 73) (.c (.int .i64 0)), none⟩, ⟨(some 75), .load none (.t 74), none⟩, ⟨(some 76), .call (.c (.fn 86 [])) [(.t 70), (.t 71), (.t 75)], none⟩, ⟨none, .store 8 (.t 6) (.t 76), none⟩] [0, 0, 0, 4, 12, 28, 63, 127])
        (.seq (.draw [⟨(some 77), .load (some 8) (.t 6), none⟩, ⟨(some 78), .mv (.t 3), none⟩, ⟨(some 79), .mv (.t 4), none⟩, ⟨(some 80), .mv (.t 2), none⟩, ⟨(some 81), .faddr 7 (.t 6), none⟩, ⟨(some 82), .load none (.t 81), none⟩, ⟨(some 83), .faddr 6 (.t 6), none⟩, ⟨(some 84), .load none (.t 83), none⟩, ⟨(some 85), .faddr 1 (.t 11), none⟩, ⟨(some 86), .load none (.t 85), none⟩, ⟨(some 87), .iaddr 1 (.t 86) (.c (.int .i64 1)), none⟩, ⟨(some 88), .load none (.t 87), none⟩, ⟨(some 89), .call (.c (.fn 84 [])) [(.t 84), (.t 88)], none⟩, ⟨(some 90), .iaddr 1 (.t 82) (.t 89), none⟩, ⟨(some 91), .load none (.t 90), none⟩, ⟨(some 92), .load (some 7) (.t 5), none⟩, ⟨(some 93), .faddr 1 (.t 11), none⟩, ⟨(some 94), .load none (.t 93), none⟩, ⟨(some 95), .iaddr 1 (.t 94) (.c (.int .i64 0)), none⟩, ⟨(some 96), .load none (.t 95), none⟩, ⟨(some 97), .call (.c (.fn 85 [])) [(.t 92), (.t 96)], none⟩, ⟨(some 98), .call (.c (.fn 58 [])) [(.t 77), (.t 78), (.t 79), (.c (.int .i64 3)), (.t 80), (.c (.int .i64 (-1))), (.t 91), (.t 97)], none⟩, ⟨none, .store 8 (.t 10) (.t 98), none⟩] [0, 0, 0, 0, 0, 16, 0, 64, 0, 256, 768, 1792, 4032, 8176, 16368, 0, 0, 65536, 196608, 458752, 1023936, 2097151, 4194303])
        .ret))
        (.seq (.reg [⟨(some 100), .bin .eql .no (.t 28) (.c (.int .i64 9)), none⟩, ⟨(some 99), .mv (.t 100), none⟩])
        (.cond (.t 99)
          (.seq (.draw [⟨(some 101), .load (some 8) (.t 6), none⟩, ⟨(some 102), .mv (.t 3), none⟩, ⟨(some 103), .faddr 2 (.t 11), none⟩, ⟨(some 104), .load none (.t 103), none⟩, ⟨(some 105), .iaddr 1 (.t 104) (.c (.int .i64 0)), none⟩, ⟨(some 106), .load none (.t 105), none⟩, ⟨(some 107), .call (.c (.fn 86 [])) [(.t 101), (.t 102), (.t 106)], none⟩, ⟨none, .store 8 (.t 6) (.t 107), none⟩] [0, 0, 0, 4, 12, 28, 63, 127])
          (.seq (.draw [⟨(some 108), .load (some 8) (.t 6), none⟩, ⟨(some 109), .mv (.t 3), none⟩, ⟨(some 110), .mv (.t 4), none⟩, ⟨(some 111), .mv (.t 2), none⟩, ⟨(some 112), .faddr 3 (.t 11), none⟩, ⟨(some 113), .load none (.t 112), none⟩, ⟨(some 114), .iaddr 1 (.t 113) (.c (.int .i64 0)), none⟩, ⟨(some 115), .load none (.t 114), none⟩, ⟨(some 116), .call (.c (.fn 58 [])) [(.t 108), (.t 109), (.t 110), (.c (.int .i64 4)), (.t 111), (.t 115), (.c (.int .i64 (-1))), (.c (.int .i64 (-1)))], none⟩, ⟨none, .store 8 (.t 10) (.t 116), none⟩] [0, 0, 0, 0, 0, 16, 48, 112, 255, 511])
          .ret))
          (.seq (.reg [⟨(some 118), .bin .eql .no (.t 28) (.c (.int .i64 10)), none⟩, ⟨(some 117), .mv (.t 118), none⟩])
          (.cond (.t 117)
            (.seq (.draw [⟨(some 119), .load (some 8) (.t 6), none⟩, ⟨(some 120), .mv (.t 3), none⟩, ⟨(some 121), .faddr 2 (.t 11), none⟩, ⟨(some 122), .load none (.t 121), none⟩, ⟨(some 123), .iaddr 1 (.t 122) (.c (.int .i64 0)), none⟩, ⟨(some 124), .load none (.t 123), none⟩, ⟨(some 125), .call (.c (.fn 86 [])) [(.t 119), (.t 120), (.t 124)], none⟩, ⟨none, .store 8 (.t 6) (.t 125), none⟩] [0, 0, 0, 4, 12, 28, 63, 127])
            (.seq (.seq (.reg [⟨(some 12), .mv (.c (.int .i64 0)), none⟩])
            (.block 1 (.loop (.seq (.seq (.reg [⟨(some 126), .mv (.t 12), none⟩, ⟨(some 127), .faddr 3 (.t 11), none⟩, ⟨(some 128), .load none (.t 127), none⟩, ⟨(some 129), .len (.t 128), none⟩, ⟨(some 130), .bin .lss .no (.t 126) (.t 129), none⟩])
              (.cond (.t 130)
                .skip
                (.exit 1)))
              (.seq (.block 2 (.seq (.draw [⟨(some 133), .faddr 0 (.t 5), none⟩, ⟨(some 134), .load none (.t 133), none⟩, ⟨(some 135), .faddr 3 (.t 11), none⟩, ⟨(some 136), .load none (.t 135), none⟩, ⟨(some 137), .mv (.t 12), none⟩, ⟨(some 138), .iaddr 1 (.t 136) (.t 137), none⟩, ⟨(some 139), .load none (.t 138), none⟩, ⟨(some 140), .iaddr 5 (.t 134) (.t 139), none⟩, ⟨(some 141), .load (some 5) (.t 140), none⟩, ⟨(some 13), .alloc [(.int .i64 0), .nils, .nils, .nils, (.int .i64 0)], none⟩, ⟨none, .store 5 (.t 13) (.t 141), none⟩] [0, 1, 0, 4, 0, 28, 60, 127, 255, 0, 1023])
               (.seq (.reg [⟨(some 142), .mv (.t 3), none⟩, ⟨(some 14), .mv (.t 142), none⟩])
               (.seq (.seq (.draw [⟨(some 143), .faddr 3 (.t 13), none⟩, ⟨(some 144), .load none (.t 143), none⟩, ⟨(some 145), .len (.t 144), none⟩, ⟨(some 146), .bin .gtr .no (.t 145) (.c (.int .i64 0)), none⟩, ⟨(some 147), .mv (.t 146), none⟩, ⟨(some 148), .faddr 0 (.t 5), (some (147, true))⟩, ⟨(some 149), .load none (.t 148), (some (147, true))⟩, ⟨(some 150), .faddr 3 (.t 13), (some (147, true))⟩, ⟨(some 151), .load none (.t 150), (some (147, true))⟩, ⟨(some 152), .iaddr 1 (.t 151) (.c (.int .i64 0)), (some (147, true))⟩, ⟨(some 153), .load none (.t 152), (some (147, true))⟩, ⟨(some 154), .iaddr 5 (.t 149) (.t 153), (some (147, true))⟩, ⟨(some 155), .faddr 0 (.t 154), (some (147, true))⟩, ⟨(some 156), .load none (.t 155), (some (147, true))⟩, ⟨(some 157), .bin .eql .no (.t 156) (.c (.int .i64 12)), (some (147, true))⟩, ⟨(some 158), .pick (.t 147) (.t 157) (.c (.bool false)), none⟩] [0, 1, 3, 7, 15, 31, 63, 31, 159, 415, 927, 2047, 4095, 8191, 16383, 32767])
               (.cond (.t 158)
                 (.seq (.reg [⟨(some 160), .load (some 8) (.t 6), none⟩, ⟨(some 161), .call (.c (.fn 60 [])) [(.t 160)], none⟩, ⟨(some 159), .mv (.t 161), none⟩, ⟨(some 162), .extract (.t 159) 0, none⟩, ⟨(some 163), .extract (.t 159) 1, none⟩, ⟨none, .store 8 (.t 6) (.t 162), none⟩, ⟨(some 14), .mv (.t 163), none⟩])
                 (.draw [⟨(some 164), .load (some 8) (.t 6), none⟩, ⟨(some 165), .mv (.t 3), none⟩, ⟨(some 166), .mv (.t 14), none⟩, ⟨(some 167), .faddr 3 (.t 11), none⟩, ⟨(some 168), .load none (.t 167), none⟩, ⟨(some 169), .mv (.t 12), none⟩, ⟨(some 170), .iaddr 1 (.t 168) (.t 169), none⟩, ⟨(some 171), .load none (.t 170), none⟩, ⟨(some 172), .call (.c (.fn 58 [])) [(.t 164), (.t 165), (.t 166), (.c (.int .i64 0)), (.t 171), (.c (.int .i64 (-1))), (.c (.int .i64 (-1))), (.c (.int .i64 (-1)))], none⟩, ⟨none, .store 8 (.t 6) (.t 172), none⟩] [0, 0, 0, 0, 8, 0, 56, 120, 255, 511]))
                 .skip))
               (.draw [⟨(some 173), .load (some 7) (.t 5), none⟩, ⟨(some 174), .load (some 8) (.t 6), none⟩, ⟨(some 175), .faddr 3 (.t 11), none⟩, ⟨(some 176), .load none (.t 175), none⟩, ⟨(some 177), .mv (.t 12), none⟩, ⟨(some 178), .iaddr 1 (.t 176) (.t 177), none⟩, ⟨(some 179), .load none (.t 178), none⟩, ⟨(some 180), .mv (.t 14), none⟩, ⟨(some 181), .mv (.t 4), none⟩, ⟨(some 182), .call (.c (.fn 87 [])) [(.t 173), (.t 174), (.t 179), (.t 180), (.t 181)], none⟩, ⟨none, .store 8 (.t 6) (.t 182), none⟩] [0, 0, 0, 4, 0, 28, 60, 0, 0, 511, 1023])))))
              (.reg [⟨(some 131), .mv (.t 12), none⟩, ⟨(some 132), .bin .add .no (.t 131) (.c (.int .i64 1)), none⟩, ⟨(some 12), .mv (.t 132), none⟩]))))))
            (.seq (.reg [⟨(some 183), .load (some 8) (.t 6), none⟩, ⟨none, .store 8 (.t 10) (.t 183), none⟩])
            .ret)))
            (.seq (.reg [⟨(some 185), .bin .eql .no (.t 28) (.c (.int .i64 11)), none⟩, ⟨(some 184), .mv (.t 185), none⟩])
            (.cond (.t 184)
              (.seq (.reg [⟨(some 187), .load (some 8) (.t 6), none⟩, ⟨(some 188), .call (.c (.fn 60 [])) [(.t 187)], none⟩, ⟨(some 186), .mv (.t 188), none⟩, ⟨(some 189), .extract (.t 186) 0, none⟩, ⟨(some 190), .extract (.t 186) 1, none⟩, ⟨(some 15), .alloc [(.str []), (.int .i64 0), .nils, (.int .i64 0), .nils, .nils, .nils, .nils], none⟩, ⟨none, .store 8 (.t 15) (.t 189), none⟩, ⟨(some 16), .mv (.t 190), none⟩])
              (.seq (.draw [⟨(some 191), .load (some 8) (.t 15), none⟩, ⟨(some 192), .mv (.t 3), none⟩, ⟨(some 193), .mv (.t 16), none⟩, ⟨(some 194), .mv (.t 2), none⟩, ⟨(some 195), .faddr 3 (.t 11), none⟩, ⟨(some 196), .load none (.t 195), none⟩, ⟨(some 197), .iaddr 1 (.t 196) (.c (.int .i64 0)), none⟩, ⟨(some 198), .load none (.t 197), none⟩, ⟨(some 199), .call (.c (.fn 58 [])) [(.t 191), (.t 192), (.t 193), (.c (.int .i64 4)), (.t 194), (.t 198), (.c (.int .i64 (-1))), (.c (.int .i64 (-1)))], none⟩, ⟨none, .store 8 (.t 15) (.t 199), none⟩] [0, 0, 0, 0, 0, 16, 48, 112, 255, 511])
              (.seq (.draw [⟨(some 200), .load (some 7) (.t 5), none⟩, ⟨(some 201), .load (some 8) (.t 15), none⟩, ⟨(some 202), .faddr 3 (.t 11), none⟩, ⟨(some 203), .load none (.t 202), none⟩, ⟨(some 204), .iaddr 1 (.t 203) (.c (.int .i64 1)), none⟩, ⟨(some 205), .load none (.t 204), none⟩, ⟨(some 206), .mv (.t 16), none⟩, ⟨(some 207), .mv (.t 4), none⟩, ⟨(some 208), .call (.c (.fn 87 [])) [(.t 200), (.t 201), (.t 205), (.t 206), (.t 207)], none⟩, ⟨none, .store 8 (.t 15) (.t 208), none⟩] [0, 0, 0, 4, 12, 28, 0, 0, 255, 511])
              (.seq (.seq (.reg [⟨(some 209), .faddr 3 (.t 11), none⟩, ⟨(some 210), .load none (.t 209), none⟩, ⟨(some 211), .len (.t 210), none⟩, ⟨(some 212), .bin .eql .no (.t 211) (.c (.int .i64 2)), none⟩])
              (.cond (.t 212)
                (.seq (.draw [⟨(some 213), .load (some 8) (.t 15), none⟩, ⟨(some 214), .mv (.t 3), none⟩, ⟨(some 215), .mv (.t 4), none⟩, ⟨(some 216), .mv (.t 2), none⟩, ⟨(some 217), .faddr 3 (.t 11), none⟩, ⟨(some 218), .load none (.t 217), none⟩, ⟨(some 219), .iaddr 1 (.t 218) (.c (.int .i64 0)), none⟩, ⟨(some 220), .load none (.t 219), none⟩, ⟨(some 221), .call (.c (.fn 58 [])) [(.t 213), (.t 214), (.t 215), (.c (.int .i64 5)), (.t 216), (.t 220), (.c (.int .i64 (-1))), (.c (.int .i64 (-1)))], none⟩, ⟨none, .store 8 (.t 10) (.t 221), none⟩] [0, 0, 0, 0, 0, 16, 48, 112, 255, 511])
                .ret)
                .skip))
              (.seq (.reg [⟨(some 223), .load (some 8) (.t 15), none⟩, ⟨(some 224), .call (.c (.fn 60 [])) [(.t 223)], none⟩, ⟨(some 222), .mv (.t 224), none⟩, ⟨(some 225), .extract (.t 222) 0, none⟩, ⟨(some 226), .extract (.t 222) 1, none⟩, ⟨none, .store 8 (.t 15) (.t 225), none⟩, ⟨(some 17), .mv (.t 226), none⟩])
              (.seq (.draw [⟨(some 227), .load (some 8) (.t 15), none⟩, ⟨(some 228), .mv (.t 3), none⟩, ⟨(some 229), .mv (.t 17), none⟩, ⟨(some 230), .mv (.t 2), none⟩, ⟨(some 231), .faddr 3 (.t 11), none⟩, ⟨(some 232), .load none (.t 231), none⟩, ⟨(some 233), .iaddr 1 (.t 232) (.c (.int .i64 0)), none⟩, ⟨(some 234), .load none (.t 233), none⟩, ⟨(some 235), .call (.c (.fn 58 [])) [(.t 227), (.t 228), (.t 229), (.c (.int .i64 5)), (.t 230), (.t 234), (.c (.int .i64 (-1))), (.c (.int .i64 (-1)))], none⟩, ⟨none, .store 8 (.t 15) (.t 235), none⟩] [0, 0, 0, 0, 0, 16, 48, 112, 255, 511])
              (.seq (.draw [⟨(some 236), .load (some 7) (.t 5), none⟩, ⟨(some 237), .load (some 8) (.t 15), none⟩, ⟨(some 238), .faddr 3 (.t 11), none⟩, ⟨(some 239), .load none (.t 238), none⟩, ⟨(some 240), .iaddr 1 (.t 239) (.c (.int .i64 2)), none⟩, ⟨(some 241), .load none (.t 240), none⟩, ⟨(some 242), .mv (.t 17), none⟩, ⟨(some 243), .mv (.t 4), none⟩, ⟨(some 244), .call (.c (.fn 87 [])) [(.t 236), (.t 237), (.t 241), (.t 242), (.t 243)], none⟩, ⟨none, .store 8 (.t 10) (.t 244), none⟩] [0, 0, 0, 4, 12, 28, 0, 0, 255, 511])
              .ret)))))))
              (.seq (.reg [⟨(some 246), .bin .eql .no (.t 28) (.c (.int .i64 12)), none⟩, ⟨(some 245), .mv (.t 246), none⟩])
              (.cond (.t 245)
                (.seq (.reg [⟨(some 248), .load (some 8) (.t 6), none⟩, ⟨(some 249), .call (.c (.fn 60 [])) [(.t 248)], none⟩, ⟨(some 247), .mv (.t 249), none⟩, ⟨(some 250), .extract (.t 247) 0, none⟩, ⟨(some 251), .extract (.t 247) 1, none⟩, ⟨(some 18), .alloc [(.str []), (.int .i64 0), .nils, (.int .i64 0), .nils, .nils, .nils, .nils], none⟩, ⟨none, .store 8 (.t 18) (.t 250), none⟩, ⟨(some 19), .mv (.t 251), none⟩])
                (.seq (.draw [⟨(some 252), .load (some 8) (.t 18), none⟩, ⟨(some 253), .mv (.t 3), none⟩, ⟨(some 254), .mv (.t 19), none⟩, ⟨(some 255), .mv (.t 2), none⟩, ⟨(some 256), .faddr 3 (.t 11), none⟩, ⟨(some 257), .load none (.t 256), none⟩, ⟨(some 258), .iaddr 1 (.t 257) (.c (.int .i64 0)), none⟩, ⟨(some 259), .load none (.t 258), none⟩, ⟨(some 260), .call (.c (.fn 58 [])) [(.t 252), (.t 253), (.t 254), (.c (.int .i64 4)), (.t 255), (.t 259), (.c (.int .i64 (-1))), (.c (.int .i64 (-1)))], none⟩, ⟨none, .store 8 (.t 18) (.t 260), none⟩] [0, 0, 0, 0, 0, 16, 48, 112, 255, 511])
                (.seq (.draw [⟨(some 261), .load (some 8) (.t 18), none⟩, ⟨(some 262), .mv (.t 3), none⟩, ⟨(some 263), .mv (.t 4), none⟩, ⟨(some 264), .mv (.t 2), none⟩, ⟨(some 265), .faddr 3 (.t 11), none⟩, ⟨(some 266), .load none (.t 265), none⟩, ⟨(some 267), .iaddr 1 (.t 266) (.c (.int .i64 0)), none⟩, ⟨(some 268), .load none (.t 267), none⟩, ⟨(some 269), .call (.c (.fn 58 [])) [(.t 261), (.t 262), (.t 263), (.c (.int .i64 5)), (.t 264), (.t 268), (.c (.int .i64 (-1))), (.c (.int .i64 (-1)))], none⟩, ⟨none, .store 8 (.t 18) (.t 269), none⟩] [0, 0, 0, 0, 0, 16, 48, 112, 255, 511])
                (.seq (.draw [⟨(some 270), .load (some 7) (.t 5), none⟩, ⟨(some 271), .load (some 8) (.t 18), none⟩, ⟨(some 272), .faddr 3 (.t 11), none⟩, ⟨(some 273), .load none (.t 272), none⟩, ⟨(some 274), .iaddr 1 (.t 273) (.c (.int .i64 1)), none⟩, ⟨(some 275), .load none (.t 274), none⟩, ⟨(some 276), .mv (.t 19), none⟩, ⟨(some 277), .mv (.t 3), none⟩, ⟨(some 278), .call (.c (.fn 87 [])) [(.t 270), (.t 271), (.t 275), (.t 276), (.t 277)], none⟩, ⟨none, .store 8 (.t 10) (.t 278), none⟩] [0, 0, 0, 4, 12, 28, 0, 0, 255, 511])
                .ret))))
                (.seq (.reg [⟨(some 280), .bin .eql .no (.t 28) (.c (.int .i64 13)), none⟩, ⟨(some 279), .mv (.t 280), none⟩])
                (.cond (.t 279)
                  (.seq (.reg [⟨(some 281), .faddr 5 (.t 6), none⟩, ⟨(some 282), .load none (.t 281), none⟩, ⟨(some 283), .len (.t 282), none⟩, ⟨(some 20), .mv (.t 283), none⟩])
                  (.seq (.draw [⟨(some 284), .load (some 7) (.t 5), none⟩, ⟨(some 285), .load (some 8) (.t 6), none⟩, ⟨(some 286), .faddr 3 (.t 11), none⟩, ⟨(some 287), .load none (.t 286), none⟩, ⟨(some 288), .iaddr 1 (.t 287) (.c (.int .i64 0)), none⟩, ⟨(some 289), .load none (.t 288), none⟩, ⟨(some 290), .mv (.t 3), none⟩, ⟨(some 291), .mv (.t 4), none⟩, ⟨(some 292), .call (.c (.fn 87 [])) [(.t 284), (.t 285), (.t 289), (.t 290), (.t 291)], none⟩, ⟨none, .store 8 (.t 6) (.t 292), none⟩] [0, 0, 0, 4, 12, 28, 0, 0, 255, 511])
                  (.seq (.seq (.reg [⟨(some 293), .mv (.t 20), none⟩, ⟨(some 21), .mv (.t 293), none⟩])
                  (.block 3 (.loop (.seq (.seq (.reg [⟨(some 294), .mv (.t 21), none⟩, ⟨(some 295), .faddr 5 (.t 6), none⟩, ⟨(some 296), .load none (.t 295), none⟩, ⟨(some 297), .len (.t 296), none⟩, ⟨(some 298), .bin .lss .no (.t 294) (.t 297), none⟩])
                    (.cond (.t 298)
                      .skip
                      (.exit 3)))
                    (.seq (.block 4 (.draw [⟨(some 301), .faddr 5 (.t 6), none⟩, ⟨(some 302), .load none (.t 301), none⟩, ⟨(some 303), .mv (.t 21), none⟩, ⟨(some 304), .faddr 5 (.t 6), none⟩, ⟨(some 305), .load none (.t 304), none⟩, ⟨(some 306), .mv (.t 21), none⟩, ⟨(some 307), .iaddr 8 (.t 305) (.t 306), none⟩, ⟨(some 308), .faddr 1 (.t 307), none⟩, ⟨(some 309), .load none (.t 308), none⟩, ⟨(some 310), .mv (.t 4), none⟩, ⟨(some 311), .bin .neq .no (.t 309) (.t 310), none⟩, ⟨(some 312), .mv (.t 311), none⟩, ⟨(some 313), .faddr 5 (.t 6), (some (312, true))⟩, ⟨(some 314), .load none (.t 313), (some (312, true))⟩, ⟨(some 315), .mv (.t 21), (some (312, true))⟩, ⟨(some 316), .iaddr 8 (.t 314) (.t 315), (some (312, true))⟩, ⟨(some 317), .faddr 1 (.t 316), (some (312, true))⟩, ⟨(some 318), .load none (.t 317), (some (312, true))⟩, ⟨(some 319), .bin .neq .no (.t 318) (.c (.int .i64 1)), (some (312, true))⟩, ⟨(some 320), .pick (.t 312) (.t 319) (.c (.bool false)), none⟩, ⟨(some 321), .iaddr 8 (.t 302) (.t 303), none⟩, ⟨(some 322), .faddr 6 (.t 321), none⟩, ⟨none, .store 1 (.t 322) (.t 320), none⟩] [0, 1, 0, 0, 8, 0, 56, 120, 248, 0, 1016, 2040, 4088, 8184, 4088, 32760, 65528, 131064, 262136, 524280, 1048575, 2097151, 4194303]))
                    (.reg [⟨(some 299), .mv (.t 21), none⟩, ⟨(some 300), .bin .add .no (.t 299) (.c (.int .i64 1)), none⟩, ⟨(some 21), .mv (.t 300), none⟩]))))))
                  (.seq (.reg [⟨(some 323), .load (some 8) (.t 6), none⟩, ⟨none, .store 8 (.t 10) (.t 323), none⟩])
                  .ret))))
                  (.seq (.reg [⟨(some 325), .bin .eql .no (.t 28) (.c (.int .i64 15)), none⟩, ⟨(some 324), .mv (.t 325), none⟩])
                  (.cond (.t 324)
                    (.seq (.reg [⟨(some 326), .load (some 8) (.t 6), none⟩, ⟨(some 327), .mv (.t 3), none⟩, ⟨(some 328), .mv (.t 2), none⟩, ⟨(some 329), .call (.c (.fn 58 [])) [(.t 326), (.t 327), (.c (.int .i64 1)), (.c (.int .i64 0)), (.t 328), (.c (.int .i64 (-1))), (.c (.int .i64 (-1))), (.c (.int .i64 (-1)))], none⟩, ⟨none, .store 8 (.t 10) (.t 329), none⟩])
                    .ret)
                    .skip))))))))))))))))))))
 (.seq (.reg [⟨(some 330), .load (some 8) (.t 6), none⟩, ⟨(some 331), .mv (.t 3), none⟩, ⟨(some 332), .mv (.t 4), none⟩, ⟨(some 333), .mv (.t 2), none⟩, ⟨(some 334), .call (.c (.fn 58 [])) [(.t 330), (.t 331), (.t 332), (.c (.int .i64 0)), (.t 333), (.c (.int .i64 (-1))), (.c (.int .i64 (-1))), (.c (.int .i64 (-1)))], none⟩, ⟨none, .store 8 (.t 10) (.t 334), none⟩])
 .ret)))), [.cell 10 (some 8)]⟩
theorem c59 : compF Try.prog Try.f59 = some m59 := by kernel_rfl
/-- weirgate/weirgateref13.place -/
def m60 : MFunc := ⟨19, (.seq (.reg [⟨(some 1), .box 8 (.t 0), none⟩, ⟨(some 2), .alloc [(.str []), (.int .i64 0), .nils, (.int .i64 0), .nils, .nils, .nils, .nils], none⟩, ⟨(some 3), .mv (.c (.int .i64 0)), none⟩])
 (.seq (.reg [⟨(some 4), .faddr 3 (.t 1), none⟩, ⟨(some 5), .load none (.t 4), none⟩, ⟨(some 6), .bin .add .no (.t 5) (.c (.int .i64 1)), none⟩, ⟨(some 7), .faddr 3 (.t 1), none⟩, ⟨none, .store 1 (.t 7) (.t 6), none⟩])
 (.seq (.reg [⟨(some 8), .bslice 1 0 [(.bool false)] [], none⟩, ⟨(some 9), .faddr 4 (.t 1), none⟩, ⟨(some 10), .load none (.t 9), none⟩, ⟨(some 11), .append 1 1 (.t 8) (.t 10), none⟩, ⟨(some 12), .bslice 1 1 [(.bool false)] [(0, 1, (.c (.bool false)))], none⟩, ⟨(some 13), .append 1 1 (.t 11) (.t 12), none⟩, ⟨(some 14), .faddr 4 (.t 1), none⟩, ⟨none, .store 1 (.t 14) (.t 13), none⟩])
 (.seq (.draw [⟨(some 15), .load (some 8) (.t 1), none⟩, ⟨(some 16), .faddr 3 (.t 1), none⟩, ⟨(some 17), .load none (.t 16), none⟩, ⟨(some 18), .bin .sub .no (.t 17) (.c (.int .i64 1)), none⟩, ⟨none, .store 8 (.t 2) (.t 15), none⟩, ⟨(some 3), .mv (.t 18), none⟩] [0, 0, 2, 6, 1, 31])
 .ret)))), [.cell 2 (some 8), .tmp 3]⟩
theorem c60 : compF Try.prog Try.f60 = some m60 := by kernel_rfl
/-- slices.Index[[]string,string] -/
def m67 : MFunc := ⟨19, (.seq (.reg [⟨(some 4), .mv (.c (.int .i64 0)), none⟩])
 (.seq (.seq (.reg [⟨(some 6), .mv (.t 0), none⟩, ⟨(some 7), .len (.t 6), none⟩, ⟨(some 8), .mv (.c (.int .i64 0)), none⟩])
 (.block 0 (.loop (.seq (.reg [⟨(some 9), .bin .lss .no (.t 8) (.t 7), none⟩])
   (.seq (.cond (.t 9)
     .skip
     (.exit 0))
   (.seq (.block 1 (.seq (.reg [⟨(some 10), .mv (.t 8), none⟩, ⟨(some 5), .mv (.t 10), none⟩])
    (.seq (.reg [⟨(some 11), .mv (.t 1), none⟩, ⟨(some 12), .mv (.t 0), none⟩, ⟨(some 13), .mv (.t 5), none⟩, ⟨(some 14), .iaddr 1 (.t 12) (.t 13), none⟩, ⟨(some 15), .load none (.t 14), none⟩, ⟨(some 16), .bin .eql .no (.t 11) (.t 15), none⟩])
    (.cond (.t 16)
      (.seq (.reg [⟨(some 17), .mv (.t 5), none⟩, ⟨(some 4), .mv (.t 17), none⟩])
      .ret)
      .skip))))
   (.reg [⟨(some 18), .bin .add .no (.t 8) (.c (.int .i64 1)), none⟩, ⟨(some 8), .mv (.t 18), none⟩])))))))
 (.seq (.reg [⟨(some 4), .mv (.c (.int .i64 (-1))), none⟩])
 .ret))), [.tmp 4]⟩
theorem c67 : compF Try.prog Try.f67 = some m67 := by kernel_rfl
/-- slices.IndexFunc[[]weirgate/api.Var,weirgate/api.Var] -/
def m68 : MFunc := ⟨19, (.seq (.reg [⟨(some 4), .mv (.c (.int .i64 0)), none⟩])
 (.seq (.seq (.reg [⟨(some 6), .mv (.t 0), none⟩, ⟨(some 7), .len (.t 6), none⟩, ⟨(some 8), .mv (.c (.int .i64 0)), none⟩])
 (.block 0 (.loop (.seq (.reg [⟨(some 9), .bin .lss .no (.t 8) (.t 7), none⟩])
   (.seq (.cond (.t 9)
     .skip
     (.exit 0))
   (.seq (.block 1 (.seq (.reg [⟨(some 10), .mv (.t 8), none⟩, ⟨(some 5), .mv (.t 10), none⟩])
    (.seq (.reg [⟨(some 11), .mv (.t 1), none⟩, ⟨(some 12), .mv (.t 0), none⟩, ⟨(some 13), .mv (.t 5), none⟩, ⟨(some 14), .iaddr 3 (.t 12) (.t 13), none⟩, ⟨(some 15), .load (some 3) (.t 14), none⟩, ⟨(some 16), .call (.t 11) [(.t 15)], none⟩])
    (.cond (.t 16)
      (.seq (.reg [⟨(some 17), .mv (.t 5), none⟩, ⟨(some 4), .mv (.t 17), none⟩])
      .ret)
      .skip))))
   (.reg [⟨(some 18), .bin .add .no (.t 8) (.c (.int .i64 1)), none⟩, ⟨(some 8), .mv (.t 18), none⟩])))))))
 (.seq (.reg [⟨(some 4), .mv (.c (.int .i64 (-1))), none⟩])
 .ret))), [.tmp 4]⟩
theorem c68 : compF Try.prog Try.f68 = some m68 := by kernel_rfl
/-- (*weirgate/foot.reader).variable$1 -/
def m69 : MFunc := ⟨8, (.seq (.reg [⟨(some 2), .box 3 (.t 0), none⟩, ⟨(some 3), .mv (.c (.bool false)), none⟩])
 (.seq (.reg [⟨(some 4), .faddr 0 (.t 2), none⟩, ⟨(some 5), .load none (.t 4), none⟩, ⟨(some 6), .load none (.t 1), none⟩, ⟨(some 7), .bin .eql .no (.t 5) (.t 6), none⟩, ⟨(some 3), .mv (.t 7), none⟩])
 .ret)), [.tmp 3]⟩
theorem c69 : compF Try.prog Try.f69 = some m69 := by kernel_rfl
/-- slices.IndexFunc[[]weirgate/api.Chan,weirgate/api.Chan] -/
def m70 : MFunc := ⟨19, (.seq (.reg [⟨(some 4), .mv (.c (.int .i64 0)), none⟩])
 (.seq (.seq (.reg [⟨(some 6), .mv (.t 0), none⟩, ⟨(some 7), .len (.t 6), none⟩, ⟨(some 8), .mv (.c (.int .i64 0)), none⟩])
 (.block 0 (.loop (.seq (.reg [⟨(some 9), .bin .lss .no (.t 8) (.t 7), none⟩])
   (.seq (.cond (.t 9)
     .skip
     (.exit 0))
   (.seq (.block 1 (.seq (.reg [⟨(some 10), .mv (.t 8), none⟩, ⟨(some 5), .mv (.t 10), none⟩])
    (.seq (.reg [⟨(some 11), .mv (.t 1), none⟩, ⟨(some 12), .mv (.t 0), none⟩, ⟨(some 13), .mv (.t 5), none⟩, ⟨(some 14), .iaddr 5 (.t 12) (.t 13), none⟩, ⟨(some 15), .load (some 5) (.t 14), none⟩, ⟨(some 16), .call (.t 11) [(.t 15)], none⟩])
    (.cond (.t 16)
      (.seq (.reg [⟨(some 17), .mv (.t 5), none⟩, ⟨(some 4), .mv (.t 17), none⟩])
      .ret)
      .skip))))
   (.reg [⟨(some 18), .bin .add .no (.t 8) (.c (.int .i64 1)), none⟩, ⟨(some 8), .mv (.t 18), none⟩])))))))
 (.seq (.reg [⟨(some 4), .mv (.c (.int .i64 (-1))), none⟩])
 .ret))), [.tmp 4]⟩
theorem c70 : compF Try.prog Try.f70 = some m70 := by kernel_rfl
/-- (*weirgate/foot.reader).channel$1 -/
def m71 : MFunc := ⟨8, (.seq (.reg [⟨(some 2), .box 5 (.t 0), none⟩, ⟨(some 3), .mv (.c (.bool false)), none⟩])
 (.seq (.reg [⟨(some 4), .faddr 0 (.t 2), none⟩, ⟨(some 5), .load none (.t 4), none⟩, ⟨(some 6), .load none (.t 1), none⟩, ⟨(some 7), .bin .eql .no (.t 5) (.t 6), none⟩, ⟨(some 3), .mv (.t 7), none⟩])
 .ret)), [.tmp 3]⟩
theorem c71 : compF Try.prog Try.f71 = some m71 := by kernel_rfl
/-- (*weirgate/weirgateref09.P).sees -/
def m72 : MFunc := ⟨30, (.seq (.reg [⟨(some 4), .mv (.c (.bool false)), none⟩])
 (.seq (.reg [⟨(some 6), .mv (.t 0), none⟩, ⟨(some 7), .call (.c (.fn 54 [])) [(.t 6)], none⟩, ⟨(some 5), .alloc [(.int .i64 0), (.str []), (.int .i64 0)], none⟩, ⟨none, .store 3 (.t 5) (.t 7), none⟩])
 (.seq (.reg [⟨(some 8), .mv (.t 0), none⟩, ⟨(some 9), .call (.c (.fn 53 [])) [(.t 8)], none⟩, ⟨(some 10), .mv (.t 9), none⟩, ⟨(some 11), .faddr 1 (.t 5), (some (10, true))⟩, ⟨(some 12), .load none (.t 11), (some (10, true))⟩, ⟨(some 13), .mv (.t 1), (some (10, true))⟩, ⟨(some 14), .bin .eql .no (.t 12) (.t 13), (some (10, true))⟩, ⟨(some 15), .pick (.t 10) (.t 14) (.c (.bool false)), none⟩, ⟨(some 16), .mv (.t 15), none⟩, ⟨(some 17), .faddr 0 (.t 5), (some (16, true))⟩, ⟨(some 18), .load none (.t 17), (some (16, true))⟩, ⟨(some 19), .bin .eql .no (.t 18) (.c (.int .i64 2)), (some (16, true))⟩, ⟨(some 20), .mv (.t 19), (some (16, true))⟩, ⟨(some 21), .faddr 0 (.t 5), (some (20, false))⟩, ⟨(some 22), .load none (.t 21), (some (20, false))⟩, ⟨(some 23), .bin .eql .no (.t 22) (.c (.int .i64 0)), (some (20, false))⟩, ⟨(some 24), .mv (.t 23), (some (20, false))⟩, ⟨(some 25), .mv (.t 1), (some (24, true))⟩, ⟨(some 26), .call (.c (.fn 89 [])) [(.t 25)], (some (24, true))⟩, ⟨(some 27), .pick (.t 24) (.t 26) (.c (.bool false)), (some (20, false))⟩, ⟨(some 28), .pick (.t 20) (.c (.bool true)) (.t 27), (some (16, true))⟩, ⟨(some 29), .pick (.t 16) (.t 28) (.c (.bool false)), none⟩, ⟨(some 4), .mv (.t 29), none⟩])
 .ret))), [.tmp 4]⟩
theorem c72 : compF Try.prog Try.f72 = some m72 := by kernel_rfl
/-- (*weirgate/weirgateref09.P).variable -/
def m73 : MFunc := ⟨40, (.seq (.reg [⟨(some 2), .alloc [(.int .i64 0), .nils, .nils, .nils, (.int .i64 0), .nils], none⟩])
 (.seq (.reg [⟨(some 6), .mv (.t 0), none⟩, ⟨(some 7), .call (.c (.fn 52 [])) [(.t 6), (.c (.int .i64 2))], none⟩, ⟨(some 3), .alloc [(.int .i64 0), .nils, .nils, .nils, (.int .i64 0), .nils], none⟩, ⟨none, .store 6 (.t 3) (.t 7), none⟩])
 (.seq (.reg [⟨(some 8), .mv (.t 0), none⟩, ⟨(some 9), .call (.c (.fn 77 [])) [(.t 8), (.c (.str [118, 97, 114]))], none⟩])
 (.seq (.draw [⟨(some 10), .faddr 0 (.t 3), none⟩, ⟨(some 11), .faddr 1 (.t 10), none⟩, ⟨(some 12), .load none (.t 11), none⟩, ⟨(some 13), .mv (.t 0), none⟩, ⟨(some 14), .call (.c (.fn 76 [])) [(.t 13)], none⟩, ⟨(some 15), .bslice 1 1 [(.str [])] [(0, 1, (.t 14))], none⟩, ⟨(some 16), .append 1 16 (.t 12) (.t 15), none⟩, ⟨(some 17), .faddr 0 (.t 3), none⟩, ⟨(some 18), .faddr 1 (.t 17), none⟩, ⟨none, .store 1 (.t 18) (.t 16), none⟩] [0, 1, 3, 0, 8, 24, 63, 127, 255, 511])
 (.seq (.reg [⟨(some 19), .mv (.t 0), none⟩, ⟨(some 20), .call (.c (.fn 77 [])) [(.t 19), (.c (.str [111, 102]))], none⟩])
 (.seq (.reg [⟨(some 21), .mv (.t 0), none⟩, ⟨(some 22), .call (.c (.fn 78 [])) [(.t 21)], none⟩, ⟨(some 4), .mv (.t 22), none⟩])
 (.seq (.reg [⟨(some 5), .mv (.c (.int .i64 0)), none⟩])
 (.seq (.seq (.reg [⟨(some 23), .mv (.t 0), none⟩, ⟨(some 24), .call (.c (.fn 75 [])) [(.t 23), (.c (.str [61]))], none⟩])
 (.cond (.t 24)
   (.seq (.reg [⟨(some 25), .mv (.t 0), none⟩, ⟨(some 26), .call (.c (.fn 75 [])) [(.t 25), (.c (.str [45]))], none⟩])
   (.cond (.t 26)
     (.reg [⟨(some 27), .mv (.t 0), none⟩, ⟨(some 28), .call (.c (.fn 78 [])) [(.t 27)], none⟩, ⟨(some 29), .un .neg (.t 28), none⟩, ⟨(some 5), .mv (.t 29), none⟩])
     (.reg [⟨(some 30), .mv (.t 0), none⟩, ⟨(some 31), .call (.c (.fn 78 [])) [(.t 30)], none⟩, ⟨(some 5), .mv (.t 31), none⟩])))
   .skip))
 (.seq (.reg [⟨(some 32), .mv (.t 4), none⟩, ⟨(some 33), .mv (.t 5), none⟩, ⟨(some 34), .bslice 1 2 [(.int .i64 0)] [(0, 1, (.t 32)), (1, 1, (.t 33))], none⟩, ⟨(some 35), .faddr 0 (.t 3), none⟩, ⟨(some 36), .faddr 2 (.t 35), none⟩, ⟨none, .store 1 (.t 36) (.t 34), none⟩])
 (.seq (.reg [⟨(some 37), .mv (.t 0), none⟩, ⟨(some 38), .call (.c (.fn 77 [])) [(.t 37), (.c (.str [59]))], none⟩])
 (.seq (.reg [⟨(some 39), .load (some 6) (.t 3), none⟩, ⟨none, .store 6 (.t 2) (.t 39), none⟩])
 .ret))))))))))), [.cell 2 (some 6)]⟩
theorem c73 : compF Try.prog Try.f73 = some m73 := by kernel_rfl
/-- (*weirgate/weirgateref09.P).process -/
def m74 : MFunc := ⟨51, (.seq (.reg [⟨(some 2), .alloc [(.int .i64 0), .nils, .nils, .nils, (.int .i64 0), .nils], none⟩])
 (.seq (.reg [⟨(some 5), .mv (.t 0), none⟩, ⟨(some 6), .call (.c (.fn 52 [])) [(.t 5), (.c (.int .i64 3))], none⟩, ⟨(some 3), .alloc [(.int .i64 0), .nils, .nils, .nils, (.int .i64 0), .nils], none⟩, ⟨none, .store 6 (.t 3) (.t 6), none⟩])
 (.seq (.reg [⟨(some 7), .mv (.t 0), none⟩, ⟨(some 8), .call (.c (.fn 77 [])) [(.t 7), (.c (.str [112, 114, 111, 99]))], none⟩])
 (.seq (.draw [⟨(some 9), .faddr 0 (.t 3), none⟩, ⟨(some 10), .faddr 1 (.t 9), none⟩, ⟨(some 11), .load none (.t 10), none⟩, ⟨(some 12), .mv (.t 0), none⟩, ⟨(some 13), .call (.c (.fn 76 [])) [(.t 12)], none⟩, ⟨(some 14), .bslice 1 1 [(.str [])] [(0, 1, (.t 13))], none⟩, ⟨(some 15), .append 1 16 (.t 11) (.t 14), none⟩, ⟨(some 16), .faddr 0 (.t 3), none⟩, ⟨(some 17), .faddr 1 (.t 16), none⟩, ⟨none, .store 1 (.t 17) (.t 15), none⟩] [0, 1, 3, 0, 8, 24, 63, 127, 255, 511])
 (.seq (.reg [⟨(some 4), .mv (.c (.int .i64 1)), none⟩])
 (.seq (.seq (.reg [⟨(some 18), .mv (.t 0), none⟩, ⟨(some 19), .call (.c (.fn 75 [])) [(.t 18), (.c (.str [42]))], none⟩])
 (.cond (.t 19)
   (.reg [⟨(some 20), .mv (.t 0), none⟩, ⟨(some 21), .call (.c (.fn 78 [])) [(.t 20)], none⟩, ⟨(some 4), .mv (.t 21), none⟩])
   .skip))
 (.seq (.reg [⟨(some 22), .mv (.t 4), none⟩, ⟨(some 23), .bslice 1 1 [(.int .i64 0)] [(0, 1, (.t 22))], none⟩, ⟨(some 24), .faddr 0 (.t 3), none⟩, ⟨(some 25), .faddr 2 (.t 24), none⟩, ⟨none, .store 1 (.t 25) (.t 23), none⟩])
 (.seq (.reg [⟨(some 26), .mv (.t 0), none⟩, ⟨(some 27), .call (.c (.fn 77 [])) [(.t 26), (.c (.str [123]))], none⟩])
 (.seq (.block 0 (.loop (.seq (.seq (.reg [⟨(some 28), .mv (.t 0), none⟩, ⟨(some 29), .call (.c (.fn 72 [])) [(.t 28), (.c (.str [118, 97, 114]))], none⟩])
   (.cond (.t 29)
     .skip
     (.exit 0)))
   (.block 1 (.draw [⟨(some 30), .faddr 5 (.t 3), none⟩, ⟨(some 31), .load none (.t 30), none⟩, ⟨(some 32), .mv (.t 0), none⟩, ⟨(some 33), .call (.c (.fn 73 [])) [(.t 32)], none⟩, ⟨(some 34), .len (.t 31), none⟩, ⟨(some 35), .bslice 6 1 [(.int .i64 0), .nils, .nils, .nils, (.int .i64 0), .nils] [(0, 6, (.c (.agg [(.int .i64 0), .nils, .nils, .nils, (.int .i64 0), .nils])))], none⟩, ⟨(some 36), .append 6 112 (.t 31) (.t 35), none⟩, ⟨(some 37), .iaddr 6 (.t 36) (.t 34), none⟩, ⟨none, .store 6 (.t 37) (.t 33), none⟩, ⟨(some 38), .faddr 5 (.t 3), none⟩, ⟨none, .store 1 (.t 38) (.t 36), none⟩] [0, 1, 0, 4, 3, 0, 63, 127, 255, 127, 639])))))
 (.seq (.reg [⟨(some 39), .mv (.t 0), none⟩, ⟨(some 40), .call (.c (.fn 90 [])) [(.t 39)], none⟩])
 (.seq (.reg [⟨(some 41), .mv (.t 0), none⟩, ⟨(some 42), .call (.c (.fn 91 [])) [(.t 41), (.t 3)], none⟩])
 (.seq (.reg [⟨(some 43), .mv (.t 0), none⟩, ⟨(some 44), .nilc (.t 43), none⟩, ⟨(some 45), .faddr 2 (.t 44), none⟩, ⟨(some 46), .load none (.t 45), none⟩, ⟨(some 47), .bin .sub .no (.t 46) (.c (.int .i64 1)), none⟩, ⟨(some 48), .nilc (.t 43), none⟩, ⟨(some 49), .faddr 2 (.t 48), none⟩, ⟨none, .store 1 (.t 49) (.t 47), none⟩])
 (.seq (.reg [⟨(some 50), .load (some 6) (.t 3), none⟩, ⟨none, .store 6 (.t 2) (.t 50), none⟩])
 .ret))))))))))))), [.cell 2 (some 6)]⟩
theorem c74 : compF Try.prog Try.f74 = some m74 := by kernel_rfl
/-- (*weirgate/weirgateref09.P).take -/
def m75 : MFunc := ⟨16, (.seq (.reg [⟨(some 4), .mv (.c (.bool false)), none⟩])
 (.seq (.seq (.reg [⟨(some 5), .mv (.t 0), none⟩, ⟨(some 6), .mv (.t 1), none⟩, ⟨(some 7), .call (.c (.fn 72 [])) [(.t 5), (.t 6)], none⟩, ⟨(some 8), .un .not (.t 7), none⟩])
 (.cond (.t 8)
   (.seq (.reg [⟨(some 4), .mv (.c (.bool false)), none⟩])
   .ret)
   .skip))
 (.seq (.reg [⟨(some 9), .mv (.t 0), none⟩, ⟨(some 10), .nilc (.t 9), none⟩, ⟨(some 11), .faddr 1 (.t 10), none⟩, ⟨(some 12), .load none (.t 11), none⟩, ⟨(some 13), .bin .add .no (.t 12) (.c (.int .i64 1)), none⟩, ⟨(some 14), .nilc (.t 9), none⟩, ⟨(some 15), .faddr 1 (.t 14), none⟩, ⟨none, .store 1 (.t 15) (.t 13), none⟩])
 (.seq (.reg [⟨(some 4), .mv (.c (.bool true)), none⟩])
 .ret)))), [.tmp 4]⟩
theorem c75 : compF Try.prog Try.f75 = some m75 := by kernel_rfl
/-- (*weirgate/weirgateref09.P).name -/
def m76 : MFunc := ⟨31, (.seq (.reg [⟨(some 2), .mv (.c (.str [])), none⟩])
 (.seq (.reg [⟨(some 4), .mv (.t 0), none⟩, ⟨(some 5), .call (.c (.fn 54 [])) [(.t 4)], none⟩, ⟨(some 3), .alloc [(.int .i64 0), (.str []), (.int .i64 0)], none⟩, ⟨none, .store 3 (.t 3) (.t 5), none⟩])
 (.seq (.seq (.reg [⟨(some 6), .faddr 0 (.t 3), none⟩, ⟨(some 7), .load none (.t 6), none⟩, ⟨(some 8), .bin .neq .no (.t 7) (.c (.int .i64 0)), none⟩, ⟨(some 9), .mv (.t 8), none⟩, ⟨(some 10), .faddr 1 (.t 3), (some (9, false))⟩, ⟨(some 11), .load none (.t 10), (some (9, false))⟩, ⟨(some 12), .call (.c (.fn 88 [])) [(.t 11)], (some (9, false))⟩, ⟨(some 13), .un .not (.t 12), (some (9, false))⟩, ⟨(some 14), .pick (.t 9) (.c (.bool true)) (.t 13), none⟩, ⟨(some 15), .mv (.t 14), none⟩, ⟨(some 16), .mv (.t 0), (some (15, false))⟩, ⟨(some 17), .call (.c (.fn 53 [])) [(.t 16)], (some (15, false))⟩, ⟨(some 18), .un .not (.t 17), (some (15, false))⟩, ⟨(some 19), .pick (.t 15) (.c (.bool true)) (.t 18), none⟩])
 (.cond (.t 19)
   (.seq (.reg [⟨(some 20), .mv (.t 0), none⟩, ⟨(some 21), .call (.c (.fn 92 [])) [(.t 20), (.c (.int .i64 11))], none⟩])
   (.seq (.reg [⟨(some 2), .mv (.c (.str [])), none⟩])
   .ret))
   .skip))
 (.seq (.reg [⟨(some 22), .mv (.t 0), none⟩, ⟨(some 23), .nilc (.t 22), none⟩, ⟨(some 24), .faddr 1 (.t 23), none⟩, ⟨(some 25), .load none (.t 24), none⟩, ⟨(some 26), .bin .add .no (.t 25) (.c (.int .i64 1)), none⟩, ⟨(some 27), .nilc (.t 22), none⟩, ⟨(some 28), .faddr 1 (.t 27), none⟩, ⟨none, .store 1 (.t 28) (.t 26), none⟩])
 (.seq (.reg [⟨(some 29), .faddr 1 (.t 3), none⟩, ⟨(some 30), .load none (.t 29), none⟩, ⟨(some 2), .mv (.t 30), none⟩])
 .ret))))), [.tmp 2]⟩
theorem c76 : compF Try.prog Try.f76 = some m76 := by kernel_rfl
/-- (*weirgate/weirgateref09.P).must -/
def m77 : MFunc := ⟨10, (.seq (.reg [⟨(some 4), .mv (.t 0), none⟩, ⟨(some 5), .mv (.t 1), none⟩, ⟨(some 6), .call (.c (.fn 75 [])) [(.t 4), (.t 5)], none⟩, ⟨(some 7), .un .not (.t 6), none⟩])
 (.cond (.t 7)
   (.reg [⟨(some 8), .mv (.t 0), none⟩, ⟨(some 9), .call (.c (.fn 92 [])) [(.t 8), (.c (.int .i64 11))], none⟩])
   .skip)), []⟩
theorem c77 : compF Try.prog Try.f77 = some m77 := by kernel_rfl
/-- (*weirgate/weirgateref09.P).num -/
def m78 : MFunc := ⟨42, (.seq (.reg [⟨(some 2), .mv (.c (.int .i64 0)), none⟩])
 (.seq (.reg [⟨(some 6), .mv (.t 0), none⟩, ⟨(some 7), .call (.c (.fn 54 [])) [(.t 6)], none⟩, ⟨(some 3), .alloc [(.int .i64 0), (.str []), (.int .i64 0)], none⟩, ⟨none, .store 3 (.t 3) (.t 7), none⟩])
 (.seq (.seq (.reg [⟨(some 8), .faddr 0 (.t 3), none⟩, ⟨(some 9), .load none (.t 8), none⟩, ⟨(some 10), .bin .neq .no (.t 9) (.c (.int .i64 1)), none⟩, ⟨(some 11), .mv (.t 10), none⟩, ⟨(some 12), .mv (.t 0), (some (11, false))⟩, ⟨(some 13), .call (.c (.fn 53 [])) [(.t 12)], (some (11, false))⟩, ⟨(some 14), .un .not (.t 13), (some (11, false))⟩, ⟨(some 15), .pick (.t 11) (.c (.bool true)) (.t 14), none⟩])
 (.cond (.t 15)
   (.seq (.reg [⟨(some 16), .mv (.t 0), none⟩, ⟨(some 17), .call (.c (.fn 92 [])) [(.t 16), (.c (.int .i64 11))], none⟩])
   (.seq (.reg [⟨(some 2), .mv (.c (.int .i64 0)), none⟩])
   .ret))
   .skip))
 (.seq (.reg [⟨(some 18), .mv (.t 0), none⟩, ⟨(some 19), .nilc (.t 18), none⟩, ⟨(some 20), .faddr 1 (.t 19), none⟩, ⟨(some 21), .load none (.t 20), none⟩, ⟨(some 22), .bin .add .no (.t 21) (.c (.int .i64 1)), none⟩, ⟨(some 23), .nilc (.t 18), none⟩, ⟨(some 24), .faddr 1 (.t 23), none⟩, ⟨none, .store 1 (.t 24) (.t 22), none⟩])
 (.seq (.reg [⟨(some 4), .mv (.c (.int .i64 0)), none⟩])
 (.seq (.seq (.reg [⟨(some 5), .mv (.c (.int .i64 0)), none⟩])
 (.block 0 (.loop (.seq (.seq (.reg [⟨(some 25), .mv (.t 5), none⟩, ⟨(some 26), .faddr 1 (.t 3), none⟩, ⟨(some 27), .load none (.t 26), none⟩, ⟨(some 28), .lenS (.t 27), none⟩, ⟨(some 29), .bin .lss .no (.t 25) (.t 28), none⟩])
   (.cond (.t 29)
     .skip
     (.exit 0)))
   (.seq (.block 1 (.reg [⟨(some 32), .mv (.t 4), none⟩, ⟨(some 33), .bin .mul .no (.c (.int .i64 10)) (.t 32), none⟩, ⟨(some 34), .faddr 1 (.t 3), none⟩, ⟨(some 35), .load none (.t 34), none⟩, ⟨(some 36), .mv (.t 5), none⟩, ⟨(some 37), .index (.t 35) (.t 36), none⟩, ⟨(some 38), .bin .sub .no (.t 37) (.c (.int .u8 48)), none⟩, ⟨(some 39), .convI .i64 (.t 38), none⟩, ⟨(some 40), .bin .add .no (.t 33) (.t 39), none⟩, ⟨(some 4), .mv (.t 40), none⟩]))
   (.reg [⟨(some 30), .mv (.t 5), none⟩, ⟨(some 31), .bin .add .no (.t 30) (.c (.int .i64 1)), none⟩, ⟨(some 5), .mv (.t 31), none⟩]))))))
 (.seq (.reg [⟨(some 41), .mv (.t 4), none⟩, ⟨(some 2), .mv (.t 41), none⟩])
 .ret))))))), [.tmp 2]⟩
theorem c78 : compF Try.prog Try.f78 = some m78 := by kernel_rfl
/-- (*weirgate/weirgateref09.P).flag -/
def m79 : MFunc := ⟨8, (.seq (.reg [⟨(some 4), .mv (.c (.int .i64 0)), none⟩])
 (.seq (.seq (.reg [⟨(some 5), .mv (.t 0), none⟩, ⟨(some 6), .mv (.t 1), none⟩, ⟨(some 7), .call (.c (.fn 75 [])) [(.t 5), (.t 6)], none⟩])
 (.cond (.t 7)
   (.seq (.reg [⟨(some 4), .mv (.c (.int .i64 1)), none⟩])
   .ret)
   .skip))
 (.seq (.reg [⟨(some 4), .mv (.c (.int .i64 0)), none⟩])
 .ret))), [.tmp 4]⟩
theorem c79 : compF Try.prog Try.f79 = some m79 := by kernel_rfl
/-- (*weirgate/weirgateref09.P).Expr -/
def m80 : MFunc := ⟨13, (.seq (.reg [⟨(some 2), .alloc [(.int .i64 0), .nils, .nils, .nils, (.int .i64 0), .nils], none⟩])
 (.seq (.reg [⟨(some 4), .mv (.t 0), none⟩, ⟨(some 5), .call (.c (.fn 93 [])) [(.t 4)], none⟩, ⟨(some 3), .alloc [(.int .i64 0), .nils, .nils, .nils, (.int .i64 0), .nils], none⟩, ⟨none, .store 6 (.t 3) (.t 5), none⟩])
 (.seq (.block 0 (.loop (.seq (.seq (.reg [⟨(some 6), .mv (.t 0), none⟩, ⟨(some 7), .call (.c (.fn 75 [])) [(.t 6), (.c (.str [124, 124]))], none⟩])
   (.cond (.t 7)
     .skip
     (.exit 0)))
   (.block 1 (.draw [⟨(some 8), .load (some 6) (.t 3), none⟩, ⟨(some 9), .mv (.t 0), none⟩, ⟨(some 10), .call (.c (.fn 93 [])) [(.t 9)], none⟩, ⟨(some 11), .call (.c (.fn 94 [])) [(.c (.int .i64 0)), (.t 8), (.t 10)], none⟩, ⟨none, .store 6 (.t 3) (.t 11), none⟩] [0, 0, 2, 7, 15])))))
 (.seq (.reg [⟨(some 12), .load (some 6) (.t 3), none⟩, ⟨none, .store 6 (.t 2) (.t 12), none⟩])
 .ret)))), [.cell 2 (some 6)]⟩
theorem c80 : compF Try.prog Try.f80 = some m80 := by kernel_rfl
/-- weirgate/weirgateref11.bad -/
def m81 : MFunc := ⟨84, (.seq (.reg [⟨(some 4), .mv (.c (.bool false)), none⟩])
 (.seq (.reg [⟨(some 10), .mv (.t 0), none⟩, ⟨(some 11), .mv (.t 1), none⟩, ⟨(some 12), .iaddr 5 (.t 10) (.t 11), none⟩, ⟨(some 13), .load (some 5) (.t 12), none⟩, ⟨(some 5), .alloc [(.int .i64 0), .nils, .nils, .nils, (.int .i64 0)], none⟩, ⟨none, .store 5 (.t 5) (.t 13), none⟩])
 (.seq (.reg [⟨(some 14), .mv (.t 0), none⟩, ⟨(some 15), .mv (.t 1), none⟩, ⟨(some 16), .call (.c (.fn 95 [])) [(.t 14), (.t 15), (.c (.int .i64 1))], none⟩, ⟨(some 17), .mv (.t 0), none⟩, ⟨(some 18), .mv (.t 1), none⟩, ⟨(some 19), .call (.c (.fn 95 [])) [(.t 17), (.t 18), (.c (.int .i64 2))], none⟩, ⟨(some 20), .mv (.t 0), none⟩, ⟨(some 21), .mv (.t 1), none⟩, ⟨(some 22), .call (.c (.fn 95 [])) [(.t 20), (.t 21), (.c (.int .i64 3))], none⟩, ⟨(some 6), .mv (.t 16), none⟩, ⟨(some 7), .mv (.t 19), none⟩, ⟨(some 8), .mv (.t 22), none⟩])
 (.seq (.seq (.reg [⟨(some 23), .faddr 0 (.t 5), none⟩, ⟨(some 24), .load none (.t 23), none⟩])
 (.block 0 (.seq (.seq (.reg [⟨(some 26), .bin .eql .no (.t 24) (.c (.int .i64 1)), none⟩, ⟨(some 25), .mv (.t 26), none⟩])
  (.cond (.t 25)
    .skip
    (.seq (.reg [⟨(some 27), .bin .eql .no (.t 24) (.c (.int .i64 2)), none⟩, ⟨(some 25), .mv (.t 27), none⟩])
    (.cond (.t 25)
      .skip
      (.reg [⟨(some 28), .bin .eql .no (.t 24) (.c (.int .i64 3)), none⟩, ⟨(some 25), .mv (.t 28), none⟩])))))
  (.cond (.t 25)
    (.seq (.reg [⟨(some 29), .faddr 1 (.t 5), none⟩, ⟨(some 30), .load none (.t 29), none⟩, ⟨(some 31), .iaddr 1 (.t 30) (.c (.int .i64 0)), none⟩, ⟨(some 32), .load none (.t 31), none⟩, ⟨(some 9), .mv (.t 32), none⟩])
    (.seq (.reg [⟨(some 33), .mv (.t 6), none⟩, ⟨(some 34), .mv (.t 9), none⟩, ⟨(some 35), .call (.c (.fn 96 [])) [(.t 33), (.t 34)], none⟩, ⟨(some 36), .mv (.t 35), none⟩, ⟨(some 37), .mv (.t 7), (some (36, false))⟩, ⟨(some 38), .mv (.t 9), (some (36, false))⟩, ⟨(some 39), .call (.c (.fn 96 [])) [(.t 37), (.t 38)], (some (36, false))⟩, ⟨(some 40), .pick (.t 36) (.c (.bool true)) (.t 39), none⟩, ⟨(some 41), .mv (.t 40), none⟩, ⟨(some 42), .mv (.t 8), (some (41, false))⟩, ⟨(some 43), .mv (.t 9), (some (41, false))⟩, ⟨(some 44), .call (.c (.fn 96 [])) [(.t 42), (.t 43)], (some (41, false))⟩, ⟨(some 45), .pick (.t 41) (.c (.bool true)) (.t 44), none⟩, ⟨(some 4), .mv (.t 45), none⟩])
    .ret))
    (.seq (.seq (.reg [⟨(some 47), .bin .eql .no (.t 24) (.c (.int .i64 6)), none⟩, ⟨(some 46), .mv (.t 47), none⟩])
    (.cond (.t 46)
      .skip
      (.reg [⟨(some 48), .bin .eql .no (.t 24) (.c (.int .i64 18)), none⟩, ⟨(some 46), .mv (.t 48), none⟩])))
    (.cond (.t 46)
      (.seq (.reg [⟨(some 49), .mv (.t 7), none⟩, ⟨(some 50), .faddr 1 (.t 5), none⟩, ⟨(some 51), .load none (.t 50), none⟩, ⟨(some 52), .iaddr 1 (.t 51) (.c (.int .i64 0)), none⟩, ⟨(some 53), .load none (.t 52), none⟩, ⟨(some 54), .call (.c (.fn 96 [])) [(.t 49), (.t 53)], none⟩, ⟨(some 55), .un .not (.t 54), none⟩, ⟨(some 4), .mv (.t 55), none⟩])
      .ret)
      (.seq (.seq (.reg [⟨(some 57), .bin .eql .no (.t 24) (.c (.int .i64 7)), none⟩, ⟨(some 56), .mv (.t 57), none⟩])
      (.cond (.t 56)
        .skip
        (.reg [⟨(some 58), .bin .eql .no (.t 24) (.c (.int .i64 19)), none⟩, ⟨(some 56), .mv (.t 58), none⟩])))
      (.cond (.t 56)
        (.seq (.reg [⟨(some 59), .mv (.t 6), none⟩, ⟨(some 60), .faddr 1 (.t 5), none⟩, ⟨(some 61), .load none (.t 60), none⟩, ⟨(some 62), .iaddr 1 (.t 61) (.c (.int .i64 0)), none⟩, ⟨(some 63), .load none (.t 62), none⟩, ⟨(some 64), .call (.c (.fn 96 [])) [(.t 59), (.t 63)], none⟩, ⟨(some 65), .un .not (.t 64), none⟩, ⟨(some 4), .mv (.t 65), none⟩])
        .ret)
        (.seq (.reg [⟨(some 67), .bin .eql .no (.t 24) (.c (.int .i64 8)), none⟩, ⟨(some 66), .mv (.t 67), none⟩])
        (.cond (.t 66)
          (.seq (.reg [⟨(some 68), .mv (.t 6), none⟩, ⟨(some 69), .faddr 1 (.t 5), none⟩, ⟨(some 70), .load none (.t 69), none⟩, ⟨(some 71), .iaddr 1 (.t 70) (.c (.int .i64 0)), none⟩, ⟨(some 72), .load none (.t 71), none⟩, ⟨(some 73), .call (.c (.fn 96 [])) [(.t 68), (.t 72)], none⟩, ⟨(some 74), .un .not (.t 73), none⟩, ⟨(some 75), .mv (.t 74), none⟩, ⟨(some 76), .mv (.t 7), (some (75, false))⟩, ⟨(some 77), .faddr 1 (.t 5), (some (75, false))⟩, ⟨(some 78), .load none (.t 77), (some (75, false))⟩, ⟨(some 79), .iaddr 1 (.t 78) (.c (.int .i64 1)), (some (75, false))⟩, ⟨(some 80), .load none (.t 79), (some (75, false))⟩, ⟨(some 81), .call (.c (.fn 96 [])) [(.t 76), (.t 80)], (some (75, false))⟩, ⟨(some 82), .un .not (.t 81), (some (75, false))⟩, ⟨(some 83), .pick (.t 75) (.c (.bool true)) (.t 82), none⟩, ⟨(some 4), .mv (.t 83), none⟩])
          .ret)
          .skip))))))))))
 (.seq (.reg [⟨(some 4), .mv (.c (.bool false)), none⟩])
 .ret))))), [.tmp 4]⟩
theorem c81 : compF Try.prog Try.f81 = some m81 := by kernel_rfl
/-- weirgate/weirgateref12.sum -/
def m82 : MFunc := ⟨36, (.seq (.reg [⟨(some 6), .mv (.c (.int .i64 0)), none⟩])
 (.seq (.reg [⟨(some 7), .mv (.c (.int .i64 0)), none⟩])
 (.seq (.seq (.reg [⟨(some 8), .mv (.c (.int .i64 0)), none⟩])
 (.block 0 (.loop (.seq (.seq (.reg [⟨(some 9), .mv (.t 8), none⟩, ⟨(some 10), .mv (.t 1), none⟩, ⟨(some 11), .bin .leq .no (.t 9) (.t 10), none⟩, ⟨(some 12), .mv (.t 11), none⟩, ⟨(some 13), .mv (.t 7), (some (12, true))⟩, ⟨(some 14), .bin .lss .no (.t 13) (.c (.int .i64 100)), (some (12, true))⟩, ⟨(some 15), .pick (.t 12) (.t 14) (.c (.bool false)), none⟩])
   (.cond (.t 15)
     .skip
     (.exit 0)))
   (.seq (.block 1 (.seq (.seq (.reg [⟨(some 18), .mv (.t 0), none⟩, ⟨(some 19), .mv (.t 8), none⟩, ⟨(some 20), .iaddr 5 (.t 18) (.t 19), none⟩, ⟨(some 21), .faddr 0 (.t 20), none⟩, ⟨(some 22), .load none (.t 21), none⟩, ⟨(some 23), .mv (.t 2), none⟩, ⟨(some 24), .bin .neq .no (.t 22) (.t 23), none⟩])
    (.cond (.t 24)
      (.exit 1)
      .skip))
    (.seq (.reg [⟨(some 25), .mv (.t 2), none⟩, ⟨(some 26), .bin .eql .no (.t 25) (.c (.int .i64 1)), none⟩])
    (.cond (.t 26)
      (.reg [⟨(some 27), .mv (.t 7), none⟩, ⟨(some 28), .bin .add .no (.t 27) (.c (.int .i64 1)), none⟩, ⟨(some 7), .mv (.t 28), none⟩])
      (.reg [⟨(some 29), .mv (.t 7), none⟩, ⟨(some 30), .mv (.t 0), none⟩, ⟨(some 31), .mv (.t 8), none⟩, ⟨(some 32), .call (.c (.fn 97 [])) [(.t 30), (.t 31)], none⟩, ⟨(some 33), .minmax false [(.t 32), (.c (.int .i64 100))], none⟩, ⟨(some 34), .bin .add .no (.t 29) (.t 33), none⟩, ⟨(some 7), .mv (.t 34), none⟩])))))
   (.reg [⟨(some 16), .mv (.t 8), none⟩, ⟨(some 17), .bin .add .no (.t 16) (.c (.int .i64 1)), none⟩, ⟨(some 8), .mv (.t 17), none⟩]))))))
 (.seq (.reg [⟨(some 35), .mv (.t 7), none⟩, ⟨(some 6), .mv (.t 35), none⟩])
 .ret)))), [.tmp 6]⟩
theorem c82 : compF Try.prog Try.f82 = some m82 := by kernel_rfl
/-- weirgate/weirgateref12.inside -/
def m83 : MFunc := ⟨36, (.seq (.reg [⟨(some 6), .mv (.c (.bool false)), none⟩])
 (.seq (.seq (.reg [⟨(some 7), .mv (.c (.int .i64 0)), none⟩])
 (.block 0 (.loop (.seq (.seq (.reg [⟨(some 9), .mv (.t 7), none⟩, ⟨(some 10), .mv (.t 0), none⟩, ⟨(some 11), .mv (.t 2), none⟩, ⟨(some 12), .iaddr 5 (.t 10) (.t 11), none⟩, ⟨(some 13), .faddr 3 (.t 12), none⟩, ⟨(some 14), .load none (.t 13), none⟩, ⟨(some 15), .len (.t 14), none⟩, ⟨(some 16), .bin .lss .no (.t 9) (.t 15), none⟩])
   (.cond (.t 16)
     .skip
     (.exit 0)))
   (.seq (.block 1 (.seq (.reg [⟨(some 19), .mv (.t 0), none⟩, ⟨(some 20), .mv (.t 2), none⟩, ⟨(some 21), .iaddr 5 (.t 19) (.t 20), none⟩, ⟨(some 22), .faddr 3 (.t 21), none⟩, ⟨(some 23), .load none (.t 22), none⟩, ⟨(some 24), .mv (.t 7), none⟩, ⟨(some 25), .iaddr 1 (.t 23) (.t 24), none⟩, ⟨(some 26), .load none (.t 25), none⟩, ⟨(some 8), .mv (.t 26), none⟩])
    (.seq (.reg [⟨(some 27), .mv (.t 8), none⟩, ⟨(some 28), .mv (.t 1), none⟩, ⟨(some 29), .bin .eql .no (.t 27) (.t 28), none⟩, ⟨(some 30), .mv (.t 29), none⟩, ⟨(some 31), .mv (.t 0), (some (30, false))⟩, ⟨(some 32), .mv (.t 1), (some (30, false))⟩, ⟨(some 33), .mv (.t 8), (some (30, false))⟩, ⟨(some 34), .call (.c (.fn 83 [])) [(.t 31), (.t 32), (.t 33)], (some (30, false))⟩, ⟨(some 35), .pick (.t 30) (.c (.bool true)) (.t 34), none⟩])
    (.cond (.t 35)
      (.seq (.reg [⟨(some 6), .mv (.c (.bool true)), none⟩])
      .ret)
      .skip))))
   (.reg [⟨(some 17), .mv (.t 7), none⟩, ⟨(some 18), .bin .add .no (.t 17) (.c (.int .i64 1)), none⟩, ⟨(some 7), .mv (.t 18), none⟩]))))))
 (.seq (.reg [⟨(some 6), .mv (.c (.bool false)), none⟩])
 .ret))), [.tmp 6]⟩
theorem c83 : compF Try.prog Try.f83 = some m83 := by kernel_rfl
/-- weirgate/weirgateref13.find -/
def m84 : MFunc := ⟨19, (.seq (.reg [⟨(some 4), .mv (.c (.int .i64 0)), none⟩])
 (.seq (.seq (.reg [⟨(some 5), .mv (.c (.int .i64 0)), none⟩])
 (.block 0 (.loop (.seq (.seq (.reg [⟨(some 6), .mv (.t 5), none⟩, ⟨(some 7), .mv (.t 0), none⟩, ⟨(some 8), .len (.t 7), none⟩, ⟨(some 9), .bin .lss .no (.t 6) (.t 8), none⟩])
   (.cond (.t 9)
     .skip
     (.exit 0)))
   (.seq (.block 1 (.seq (.reg [⟨(some 12), .mv (.t 0), none⟩, ⟨(some 13), .mv (.t 5), none⟩, ⟨(some 14), .iaddr 1 (.t 12) (.t 13), none⟩, ⟨(some 15), .load none (.t 14), none⟩, ⟨(some 16), .mv (.t 1), none⟩, ⟨(some 17), .bin .eql .no (.t 15) (.t 16), none⟩])
    (.cond (.t 17)
      (.seq (.reg [⟨(some 18), .mv (.t 5), none⟩, ⟨(some 4), .mv (.t 18), none⟩])
      .ret)
      .skip)))
   (.reg [⟨(some 10), .mv (.t 5), none⟩, ⟨(some 11), .bin .add .no (.t 10) (.c (.int .i64 1)), none⟩, ⟨(some 5), .mv (.t 11), none⟩]))))))
 (.seq (.reg [⟨(some 4), .mv (.c (.int .i64 0)), none⟩])
 .ret))), [.tmp 4]⟩
theorem c84 : compF Try.prog Try.f84 = some m84 := by kernel_rfl
/-- weirgate/weirgateref13.channel -/
def m85 : MFunc := ⟨22, (.seq (.reg [⟨(some 2), .box 7 (.t 0), none⟩, ⟨(some 4), .mv (.c (.int .i64 0)), none⟩])
 (.seq (.seq (.reg [⟨(some 5), .mv (.c (.int .i64 0)), none⟩])
 (.block 0 (.loop (.seq (.seq (.reg [⟨(some 6), .mv (.t 5), none⟩, ⟨(some 7), .faddr 2 (.t 2), none⟩, ⟨(some 8), .load none (.t 7), none⟩, ⟨(some 9), .len (.t 8), none⟩, ⟨(some 10), .bin .lss .no (.t 6) (.t 9), none⟩])
   (.cond (.t 10)
     .skip
     (.exit 0)))
   (.seq (.block 1 (.seq (.reg [⟨(some 13), .faddr 2 (.t 2), none⟩, ⟨(some 14), .load none (.t 13), none⟩, ⟨(some 15), .mv (.t 5), none⟩, ⟨(some 16), .iaddr 5 (.t 14) (.t 15), none⟩, ⟨(some 17), .faddr 0 (.t 16), none⟩, ⟨(some 18), .load none (.t 17), none⟩, ⟨(some 19), .mv (.t 1), none⟩, ⟨(some 20), .bin .eql .no (.t 18) (.t 19), none⟩])
    (.cond (.t 20)
      (.seq (.reg [⟨(some 21), .mv (.t 5), none⟩, ⟨(some 4), .mv (.t 21), none⟩])
      .ret)
      .skip)))
   (.reg [⟨(some 11), .mv (.t 5), none⟩, ⟨(some 12), .bin .add .no (.t 11) (.c (.int .i64 1)), none⟩, ⟨(some 5), .mv (.t 12), none⟩]))))))
 (.seq (.reg [⟨(some 4), .mv (.c (.int .i64 0)), none⟩])
 .ret))), [.tmp 4]⟩
theorem c85 : compF Try.prog Try.f85 = some m85 := by kernel_rfl
/-- weirgate/weirgateref13.rest -/
def m86 : MFunc := ⟨20, (.seq (.reg [⟨(some 3), .box 8 (.t 0), none⟩, ⟨(some 6), .alloc [(.str []), (.int .i64 0), .nils, (.int .i64 0), .nils, .nils, .nils, .nils], none⟩])
 (.seq (.reg [⟨(some 8), .bslice 1 0 [(.bool false)] [], none⟩, ⟨(some 9), .faddr 4 (.t 3), none⟩, ⟨(some 10), .load none (.t 9), none⟩, ⟨(some 11), .append 1 1 (.t 8) (.t 10), none⟩, ⟨(some 7), .mv (.t 11), none⟩])
 (.seq (.seq (.reg [⟨(some 12), .mv (.t 2), none⟩, ⟨(some 13), .bin .eql .no (.t 12) (.c (.int .i64 1)), none⟩])
 (.cond (.t 13)
   (.reg [⟨(some 14), .mv (.t 7), none⟩, ⟨(some 15), .mv (.t 1), none⟩, ⟨(some 16), .iaddr 1 (.t 14) (.t 15), none⟩, ⟨none, .store 1 (.t 16) (.c (.bool true)), none⟩])
   .skip))
 (.seq (.reg [⟨(some 17), .mv (.t 7), none⟩, ⟨(some 18), .faddr 4 (.t 3), none⟩, ⟨none, .store 1 (.t 18) (.t 17), none⟩])
 (.seq (.reg [⟨(some 19), .load (some 8) (.t 3), none⟩, ⟨none, .store 8 (.t 6) (.t 19), none⟩])
 .ret))))), [.cell 6 (some 8)]⟩
theorem c86 : compF Try.prog Try.f86 = some m86 := by kernel_rfl
/-- weirgate/weirgateref13.block -/
def m87 : MFunc := ⟨23, (.seq (.reg [⟨(some 5), .box 7 (.t 0), none⟩, ⟨(some 6), .box 8 (.t 1), none⟩, ⟨(some 10), .alloc [(.str []), (.int .i64 0), .nils, (.int .i64 0), .nils, .nils, .nils, .nils], none⟩])
 (.seq (.draw [⟨(some 11), .load (some 7) (.t 5), none⟩, ⟨(some 12), .load (some 8) (.t 6), none⟩, ⟨(some 13), .faddr 0 (.t 5), none⟩, ⟨(some 14), .load none (.t 13), none⟩, ⟨(some 15), .mv (.t 2), none⟩, ⟨(some 16), .iaddr 5 (.t 14) (.t 15), none⟩, ⟨(some 17), .faddr 3 (.t 16), none⟩, ⟨(some 18), .load none (.t 17), none⟩, ⟨(some 19), .mv (.t 2), none⟩, ⟨(some 20), .mv (.t 3), none⟩, ⟨(some 21), .mv (.t 4), none⟩, ⟨(some 22), .call (.c (.fn 39 [])) [(.t 11), (.t 12), (.t 18), (.t 19), (.t 20), (.t 21)], none⟩, ⟨none, .store 8 (.t 10) (.t 22), none⟩] [0, 0, 0, 4, 0, 28, 60, 124, 0, 0, 0, 2047, 4095])
 .ret)), [.cell 10 (some 8)]⟩
theorem c87 : compF Try.prog Try.f87 = some m87 := by kernel_rfl
/-- weirgate/weirgateref08.Name -/
def m88 : MFunc := ⟨33, (.seq (.reg [⟨(some 2), .mv (.c (.bool false)), none⟩])
 (.seq (.seq (.reg [⟨(some 4), .mv (.t 0), none⟩, ⟨(some 5), .lenS (.t 4), none⟩, ⟨(some 6), .bin .eql .no (.t 5) (.c (.int .i64 0)), none⟩, ⟨(some 7), .mv (.t 6), none⟩, ⟨(some 8), .mv (.t 0), (some (7, false))⟩, ⟨(some 9), .lenS (.t 8), (some (7, false))⟩, ⟨(some 10), .bin .gtr .no (.t 9) (.c (.int .i64 12)), (some (7, false))⟩, ⟨(some 11), .pick (.t 7) (.c (.bool true)) (.t 10), none⟩, ⟨(some 12), .mv (.t 11), none⟩, ⟨(some 13), .mv (.t 0), (some (12, false))⟩, ⟨(some 14), .index (.t 13) (.c (.int .i64 0)), (some (12, false))⟩, ⟨(some 15), .call (.c (.fn 49 [])) [(.t 14)], (some (12, false))⟩, ⟨(some 16), .un .not (.t 15), (some (12, false))⟩, ⟨(some 17), .pick (.t 12) (.c (.bool true)) (.t 16), none⟩, ⟨(some 18), .mv (.t 17), none⟩, ⟨(some 19), .mv (.t 0), (some (18, false))⟩, ⟨(some 20), .call (.c (.fn 89 [])) [(.t 19)], (some (18, false))⟩, ⟨(some 21), .pick (.t 18) (.c (.bool true)) (.t 20), none⟩])
 (.cond (.t 21)
   (.seq (.reg [⟨(some 2), .mv (.c (.bool false)), none⟩])
   .ret)
   .skip))
 (.seq (.seq (.reg [⟨(some 3), .mv (.c (.int .i64 0)), none⟩])
 (.block 0 (.loop (.seq (.seq (.reg [⟨(some 22), .mv (.t 3), none⟩, ⟨(some 23), .mv (.t 0), none⟩, ⟨(some 24), .lenS (.t 23), none⟩, ⟨(some 25), .bin .lss .no (.t 22) (.t 24), none⟩])
   (.cond (.t 25)
     .skip
     (.exit 0)))
   (.seq (.block 1 (.seq (.reg [⟨(some 28), .mv (.t 0), none⟩, ⟨(some 29), .mv (.t 3), none⟩, ⟨(some 30), .index (.t 28) (.t 29), none⟩, ⟨(some 31), .call (.c (.fn 50 [])) [(.t 30)], none⟩, ⟨(some 32), .un .not (.t 31), none⟩])
    (.cond (.t 32)
      (.seq (.reg [⟨(some 2), .mv (.c (.bool false)), none⟩])
      .ret)
      .skip)))
   (.reg [⟨(some 26), .mv (.t 3), none⟩, ⟨(some 27), .bin .add .no (.t 26) (.c (.int .i64 1)), none⟩, ⟨(some 3), .mv (.t 27), none⟩]))))))
 (.seq (.reg [⟨(some 2), .mv (.c (.bool true)), none⟩])
 .ret)))), [.tmp 2]⟩
theorem c88 : compF Try.prog Try.f88 = some m88 := by kernel_rfl
/-- weirgate/weirgateref08.Key -/
def m89 : MFunc := ⟨18, (.seq (.reg [⟨(some 2), .mv (.c (.bool false)), none⟩])
 (.seq (.reg [⟨(some 5), .bslice 1 21 [(.str [])] [(0, 1, (.c (.str [99, 104, 97, 110]))), (1, 1, (.c (.str [111, 102]))), (2, 1, (.c (.str [108, 111, 115, 115, 121]))), (3, 1, (.c (.str [99, 111, 112, 121, 105, 110, 103]))), (4, 1, (.c (.str [118, 97, 114]))), (5, 1, (.c (.str [112, 114, 111, 99]))), (6, 1, (.c (.str [115, 97, 102, 101]))), (7, 1, (.c (.str [100, 101, 97, 100, 108, 111, 99, 107]))), (8, 1, (.c (.str [115, 101, 110, 100]))), (9, 1, (.c (.str [114, 101, 99, 118]))), (10, 1, (.c (.str [105, 100, 108, 101]))), (11, 1, (.c (.str [119, 104, 101, 110]))), (12, 1, (.c (.str [99, 104, 111, 111, 115, 101]))), (13, 1, (.c (.str [111, 114]))), (14, 1, (.c (.str [105, 102]))), (15, 1, (.c (.str [101, 108, 115, 101]))), (16, 1, (.c (.str [119, 104, 105, 108, 101]))), (17, 1, (.c (.str [97, 116, 111, 109, 105, 99]))), (18, 1, (.c (.str [115, 107, 105, 112]))), (19, 1, (.c (.str [115, 116, 111, 112]))), (20, 1, (.c (.str [108, 101, 110])))], none⟩, ⟨(some 3), .mv (.t 5), none⟩])
 (.seq (.seq (.reg [⟨(some 4), .mv (.c (.int .i64 0)), none⟩])
 (.block 0 (.loop (.seq (.seq (.reg [⟨(some 6), .mv (.t 4), none⟩, ⟨(some 7), .mv (.t 3), none⟩, ⟨(some 8), .len (.t 7), none⟩, ⟨(some 9), .bin .lss .no (.t 6) (.t 8), none⟩])
   (.cond (.t 9)
     .skip
     (.exit 0)))
   (.seq (.block 1 (.seq (.reg [⟨(some 12), .mv (.t 3), none⟩, ⟨(some 13), .mv (.t 4), none⟩, ⟨(some 14), .iaddr 1 (.t 12) (.t 13), none⟩, ⟨(some 15), .load none (.t 14), none⟩, ⟨(some 16), .mv (.t 0), none⟩, ⟨(some 17), .bin .eql .no (.t 15) (.t 16), none⟩])
    (.cond (.t 17)
      (.seq (.reg [⟨(some 2), .mv (.c (.bool true)), none⟩])
      .ret)
      .skip)))
   (.reg [⟨(some 10), .mv (.t 4), none⟩, ⟨(some 11), .bin .add .no (.t 10) (.c (.int .i64 1)), none⟩, ⟨(some 4), .mv (.t 11), none⟩]))))))
 (.seq (.reg [⟨(some 2), .mv (.c (.bool false)), none⟩])
 .ret)))), [.tmp 2]⟩
theorem c89 : compF Try.prog Try.f89 = some m89 := by kernel_rfl
/-- (*weirgate/weirgateref09.P).in -/
def m90 : MFunc := ⟨16, (.seq (.reg [⟨(some 2), .mv (.t 0), none⟩, ⟨(some 3), .nilc (.t 2), none⟩, ⟨(some 4), .faddr 2 (.t 3), none⟩, ⟨(some 5), .load none (.t 4), none⟩, ⟨(some 6), .bin .add .no (.t 5) (.c (.int .i64 1)), none⟩, ⟨(some 7), .nilc (.t 2), none⟩, ⟨(some 8), .faddr 2 (.t 7), none⟩, ⟨none, .store 1 (.t 8) (.t 6), none⟩])
 (.seq (.reg [⟨(some 9), .mv (.t 0), none⟩, ⟨(some 10), .nilc (.t 9), none⟩, ⟨(some 11), .faddr 2 (.t 10), none⟩, ⟨(some 12), .load none (.t 11), none⟩, ⟨(some 13), .bin .gtr .no (.t 12) (.c (.int .i64 200)), none⟩])
 (.cond (.t 13)
   (.reg [⟨(some 14), .mv (.t 0), none⟩, ⟨(some 15), .call (.c (.fn 92 [])) [(.t 14), (.c (.int .i64 12))], none⟩])
   .skip))), []⟩
theorem c90 : compF Try.prog Try.f90 = some m90 := by kernel_rfl
/-- (*weirgate/weirgateref09.P).stats -/
def m91 : MFunc := ⟨23, (.block 0 (.loop (.seq (.seq (.reg [⟨(some 4), .mv (.t 0), none⟩, ⟨(some 5), .call (.c (.fn 53 [])) [(.t 4)], none⟩, ⟨(some 6), .mv (.t 5), none⟩, ⟨(some 7), .mv (.t 0), (some (6, true))⟩, ⟨(some 8), .call (.c (.fn 75 [])) [(.t 7), (.c (.str [125]))], (some (6, true))⟩, ⟨(some 9), .un .not (.t 8), (some (6, true))⟩, ⟨(some 10), .pick (.t 6) (.t 9) (.c (.bool false)), none⟩])
   (.cond (.t 10)
     .skip
     (.exit 0)))
   (.block 1 (.draw [⟨(some 11), .mv (.t 1), none⟩, ⟨(some 12), .nilc (.t 11), none⟩, ⟨(some 13), .faddr 5 (.t 12), none⟩, ⟨(some 14), .load none (.t 13), none⟩, ⟨(some 15), .mv (.t 0), none⟩, ⟨(some 16), .call (.c (.fn 98 [])) [(.t 15)], none⟩, ⟨(some 17), .len (.t 14), none⟩, ⟨(some 18), .bslice 6 1 [(.int .i64 0), .nils, .nils, .nils, (.int .i64 0), .nils] [(0, 6, (.c (.agg [(.int .i64 0), .nils, .nils, .nils, (.int .i64 0), .nils])))], none⟩, ⟨(some 19), .append 6 112 (.t 14) (.t 18), none⟩, ⟨(some 20), .iaddr 6 (.t 19) (.t 17), none⟩, ⟨none, .store 6 (.t 20) (.t 16), none⟩, ⟨(some 21), .nilc (.t 11), none⟩, ⟨(some 22), .faddr 5 (.t 21), none⟩, ⟨none, .store 1 (.t 22) (.t 19), none⟩] [0, 1, 3, 7, 0, 16, 15, 0, 255, 511, 1023, 511, 2559, 6655]))))), []⟩
theorem c91 : compF Try.prog Try.f91 = some m91 := by kernel_rfl
/-- (*weirgate/weirgateref09.P).bad -/
def m92 : MFunc := ⟨14, (.seq (.reg [⟨(some 4), .mv (.t 0), none⟩, ⟨(some 5), .call (.c (.fn 53 [])) [(.t 4)], none⟩])
 (.cond (.t 5)
   (.reg [⟨(some 6), .mv (.t 0), none⟩, ⟨(some 7), .mv (.t 1), none⟩, ⟨(some 8), .mv (.t 0), none⟩, ⟨(some 9), .call (.c (.fn 54 [])) [(.t 8)], none⟩, ⟨(some 10), .field none 2 (.t 9), none⟩, ⟨(some 11), .build [(.int .i64 0), (.int .i64 0)] [(0, 1, (.t 7)), (1, 1, (.t 10))], none⟩, ⟨(some 12), .nilc (.t 6), none⟩, ⟨(some 13), .faddr 3 (.t 12), none⟩, ⟨none, .store 2 (.t 13) (.t 11), none⟩])
   .skip)), []⟩
theorem c92 : compF Try.prog Try.f92 = some m92 := by kernel_rfl
/-- (*weirgate/weirgateref09.P).and -/
def m93 : MFunc := ⟨13, (.seq (.reg [⟨(some 2), .alloc [(.int .i64 0), .nils, .nils, .nils, (.int .i64 0), .nils], none⟩])
 (.seq (.reg [⟨(some 4), .mv (.t 0), none⟩, ⟨(some 5), .call (.c (.fn 99 [])) [(.t 4)], none⟩, ⟨(some 3), .alloc [(.int .i64 0), .nils, .nils, .nils, (.int .i64 0), .nils], none⟩, ⟨none, .store 6 (.t 3) (.t 5), none⟩])
 (.seq (.block 0 (.loop (.seq (.seq (.reg [⟨(some 6), .mv (.t 0), none⟩, ⟨(some 7), .call (.c (.fn 75 [])) [(.t 6), (.c (.str [38, 38]))], none⟩])
   (.cond (.t 7)
     .skip
     (.exit 0)))
   (.block 1 (.draw [⟨(some 8), .load (some 6) (.t 3), none⟩, ⟨(some 9), .mv (.t 0), none⟩, ⟨(some 10), .call (.c (.fn 99 [])) [(.t 9)], none⟩, ⟨(some 11), .call (.c (.fn 94 [])) [(.c (.int .i64 1)), (.t 8), (.t 10)], none⟩, ⟨none, .store 6 (.t 3) (.t 11), none⟩] [0, 0, 2, 7, 15])))))
 (.seq (.reg [⟨(some 12), .load (some 6) (.t 3), none⟩, ⟨none, .store 6 (.t 2) (.t 12), none⟩])
 .ret)))), [.cell 2 (some 6)]⟩
theorem c93 : compF Try.prog Try.f93 = some m93 := by kernel_rfl
/-- weirgate/weirgateref09.bin -/
def m94 : MFunc := ⟨17, (.seq (.reg [⟨(some 4), .box 6 (.t 1), none⟩, ⟨(some 5), .box 6 (.t 2), none⟩, ⟨(some 6), .alloc [(.int .i64 0), .nils, .nils, .nils, (.int .i64 0), .nils], none⟩])
 (.seq (.reg [⟨(some 7), .mv (.t 0), none⟩, ⟨(some 8), .bslice 1 1 [(.int .i64 0)] [(0, 1, (.t 7))], none⟩, ⟨(some 9), .faddr 0 (.t 4), none⟩, ⟨(some 10), .faddr 4 (.t 9), none⟩, ⟨(some 11), .load none (.t 10), none⟩, ⟨(some 12), .build [(.int .i64 0), .nils, .nils, .nils, (.int .i64 0)] [(0, 1, (.c (.int .i64 22))), (2, 1, (.t 8)), (4, 1, (.t 11))], none⟩, ⟨(some 13), .load (some 6) (.t 4), none⟩, ⟨(some 14), .load (some 6) (.t 5), none⟩, ⟨(some 15), .bslice 6 2 [(.int .i64 0), .nils, .nils, .nils, (.int .i64 0), .nils] [(0, 6, (.t 13)), (6, 6, (.t 14))], none⟩, ⟨(some 16), .build [(.int .i64 0), .nils, .nils, .nils, (.int .i64 0), .nils] [(0, 5, (.t 12)), (5, 1, (.t 15))], none⟩, ⟨none, .store 6 (.t 6) (.t 16), none⟩])
 .ret)), [.cell 6 (some 6)]⟩
theorem c94 : compF Try.prog Try.f94 = some m94 := by kernel_rfl
/-- weirgate/weirgateref11.Names -/
def m95 : MFunc := ⟨58, (.seq (.reg [⟨(some 6), .mv (.c .nils), none⟩])
 (.seq (.reg [⟨(some 7), .mv (.c .nils), none⟩])
 (.seq (.reg [⟨(some 10), .mv (.t 0), none⟩, ⟨(some 11), .mv (.t 1), none⟩, ⟨(some 12), .call (.c (.fn 100 [])) [(.t 10), (.t 11)], none⟩, ⟨(some 8), .mv (.t 12), none⟩])
 (.seq (.seq (.reg [⟨(some 9), .mv (.c (.int .i64 0)), none⟩])
 (.block 0 (.loop (.seq (.seq (.reg [⟨(some 13), .mv (.t 9), none⟩, ⟨(some 14), .mv (.t 1), none⟩, ⟨(some 15), .bin .lss .no (.t 13) (.t 14), none⟩])
   (.cond (.t 15)
     .skip
     (.exit 0)))
   (.seq (.block 1 (.seq (.seq (.reg [⟨(some 18), .mv (.t 0), none⟩, ⟨(some 19), .mv (.t 9), none⟩, ⟨(some 20), .iaddr 5 (.t 18) (.t 19), none⟩, ⟨(some 21), .faddr 0 (.t 20), none⟩, ⟨(some 22), .load none (.t 21), none⟩, ⟨(some 23), .mv (.t 2), none⟩, ⟨(some 24), .bin .neq .no (.t 22) (.t 23), none⟩])
    (.cond (.t 24)
      (.exit 1)
      .skip))
    (.seq (.reg [⟨(some 25), .mv (.t 0), none⟩, ⟨(some 26), .mv (.t 9), none⟩, ⟨(some 27), .call (.c (.fn 100 [])) [(.t 25), (.t 26)], none⟩, ⟨(some 28), .mv (.t 9), none⟩, ⟨(some 29), .bin .eql .no (.t 27) (.t 28), none⟩, ⟨(some 30), .mv (.t 29), none⟩, ⟨(some 31), .mv (.t 0), (some (30, false))⟩, ⟨(some 32), .mv (.t 9), (some (30, false))⟩, ⟨(some 33), .call (.c (.fn 100 [])) [(.t 31), (.t 32)], (some (30, false))⟩, ⟨(some 34), .mv (.t 8), (some (30, false))⟩, ⟨(some 35), .bin .eql .no (.t 33) (.t 34), (some (30, false))⟩, ⟨(some 36), .pick (.t 30) (.c (.bool true)) (.t 35), none⟩])
    (.cond (.t 36)
      (.seq (.reg [⟨(some 37), .mv (.t 7), none⟩, ⟨(some 38), .mv (.t 0), none⟩, ⟨(some 39), .mv (.t 9), none⟩, ⟨(some 40), .iaddr 5 (.t 38) (.t 39), none⟩, ⟨(some 41), .faddr 1 (.t 40), none⟩, ⟨(some 42), .load none (.t 41), none⟩, ⟨(some 43), .iaddr 1 (.t 42) (.c (.int .i64 0)), none⟩, ⟨(some 44), .load none (.t 43), none⟩, ⟨(some 45), .call (.c (.fn 96 [])) [(.t 37), (.t 44)], none⟩, ⟨(some 46), .un .not (.t 45), none⟩])
      (.cond (.t 46)
        (.reg [⟨(some 47), .mv (.t 7), none⟩, ⟨(some 48), .mv (.t 0), none⟩, ⟨(some 49), .mv (.t 9), none⟩, ⟨(some 50), .iaddr 5 (.t 48) (.t 49), none⟩, ⟨(some 51), .faddr 1 (.t 50), none⟩, ⟨(some 52), .load none (.t 51), none⟩, ⟨(some 53), .iaddr 1 (.t 52) (.c (.int .i64 0)), none⟩, ⟨(some 54), .load none (.t 53), none⟩, ⟨(some 55), .bslice 1 1 [(.str [])] [(0, 1, (.t 54))], none⟩, ⟨(some 56), .append 1 16 (.t 47) (.t 55), none⟩, ⟨(some 7), .mv (.t 56), none⟩])
        .skip))
      .skip))))
   (.reg [⟨(some 16), .mv (.t 9), none⟩, ⟨(some 17), .bin .add .no (.t 16) (.c (.int .i64 1)), none⟩, ⟨(some 9), .mv (.t 17), none⟩]))))))
 (.seq (.reg [⟨(some 57), .mv (.t 7), none⟩, ⟨(some 6), .mv (.t 57), none⟩])
 .ret))))), [.tmp 6]⟩
theorem c95 : compF Try.prog Try.f95 = some m95 := by kernel_rfl
/-- weirgate/weirgateref11.In -/
def m96 : MFunc := ⟨18, (.seq (.reg [⟨(some 4), .mv (.c (.bool false)), none⟩])
 (.seq (.seq (.reg [⟨(some 5), .mv (.c (.int .i64 0)), none⟩])
 (.block 0 (.loop (.seq (.seq (.reg [⟨(some 6), .mv (.t 5), none⟩, ⟨(some 7), .mv (.t 0), none⟩, ⟨(some 8), .len (.t 7), none⟩, ⟨(some 9), .bin .lss .no (.t 6) (.t 8), none⟩])
   (.cond (.t 9)
     .skip
     (.exit 0)))
   (.seq (.block 1 (.seq (.reg [⟨(some 12), .mv (.t 0), none⟩, ⟨(some 13), .mv (.t 5), none⟩, ⟨(some 14), .iaddr 1 (.t 12) (.t 13), none⟩, ⟨(some 15), .load none (.t 14), none⟩, ⟨(some 16), .mv (.t 1), none⟩, ⟨(some 17), .bin .eql .no (.t 15) (.t 16), none⟩])
    (.cond (.t 17)
      (.seq (.reg [⟨(some 4), .mv (.c (.bool true)), none⟩])
      .ret)
      .skip)))
   (.reg [⟨(some 10), .mv (.t 5), none⟩, ⟨(some 11), .bin .add .no (.t 10) (.c (.int .i64 1)), none⟩, ⟨(some 5), .mv (.t 11), none⟩]))))))
 (.seq (.reg [⟨(some 4), .mv (.c (.bool false)), none⟩])
 .ret))), [.tmp 4]⟩
theorem c96 : compF Try.prog Try.f96 = some m96 := by kernel_rfl
/-- weirgate/weirgateref12.copies -/
def m97 : MFunc := ⟨19, (.seq (.reg [⟨(some 4), .mv (.c (.int .i64 0)), none⟩])
 (.seq (.reg [⟨(some 6), .mv (.t 0), none⟩, ⟨(some 7), .mv (.t 0), none⟩, ⟨(some 8), .mv (.t 1), none⟩, ⟨(some 9), .call (.c (.fn 100 [])) [(.t 7), (.t 8)], none⟩, ⟨(some 10), .iaddr 5 (.t 6) (.t 9), none⟩, ⟨(some 11), .load (some 5) (.t 10), none⟩, ⟨(some 5), .alloc [(.int .i64 0), .nils, .nils, .nils, (.int .i64 0)], none⟩, ⟨none, .store 5 (.t 5) (.t 11), none⟩])
 (.seq (.seq (.reg [⟨(some 12), .faddr 0 (.t 5), none⟩, ⟨(some 13), .load none (.t 12), none⟩, ⟨(some 14), .bin .eql .no (.t 13) (.c (.int .i64 3)), none⟩])
 (.cond (.t 14)
   (.seq (.reg [⟨(some 15), .faddr 2 (.t 5), none⟩, ⟨(some 16), .load none (.t 15), none⟩, ⟨(some 17), .iaddr 1 (.t 16) (.c (.int .i64 0)), none⟩, ⟨(some 18), .load none (.t 17), none⟩, ⟨(some 4), .mv (.t 18), none⟩])
   .ret)
   .skip))
 (.seq (.reg [⟨(some 4), .mv (.c (.int .i64 1)), none⟩])
 .ret)))), [.tmp 4]⟩
theorem c97 : compF Try.prog Try.f97 = some m97 := by kernel_rfl
/-- (*weirgate/weirgateref09.P).stat -/
def m98 : MFunc := ⟨163, (.seq (.reg [⟨(some 2), .alloc [(.int .i64 0), .nils, .nils, .nils, (.int .i64 0), .nils], none⟩])
 (.seq (.reg [⟨(some 5), .mv (.t 0), none⟩, ⟨(some 6), .call (.c (.fn 52 [])) [(.t 5), (.c (.int .i64 6))], none⟩, ⟨(some 3), .alloc [(.int .i64 0), .nils, .nils, .nils, (.int .i64 0), .nils], none⟩, ⟨none, .store 6 (.t 3) (.t 6), none⟩])
 (.seq (.reg [⟨(some 7), .mv (.t 0), none⟩, ⟨(some 8), .call (.c (.fn 79 [])) [(.t 7), (.c (.str [105, 100, 108, 101]))], none⟩, ⟨(some 4), .mv (.t 8), none⟩])
 (.seq (.seq (.reg [⟨(some 9), .mv (.t 4), none⟩, ⟨(some 10), .bin .eql .no (.t 9) (.c (.int .i64 1)), none⟩, ⟨(some 11), .mv (.t 10), none⟩, ⟨(some 12), .mv (.t 0), (some (11, false))⟩, ⟨(some 13), .call (.c (.fn 72 [])) [(.t 12), (.c (.str [114, 101, 99, 118]))], (some (11, false))⟩, ⟨(some 14), .pick (.t 11) (.c (.bool true)) (.t 13), none⟩, ⟨(some 15), .mv (.t 14), none⟩, ⟨(some 16), .mv (.t 0), (some (15, false))⟩, ⟨(some 17), .call (.c (.fn 72 [])) [(.t 16), (.c (.str [119, 104, 101, 110]))], (some (15, false))⟩, ⟨(some 18), .pick (.t 15) (.c (.bool true)) (.t 17), none⟩, ⟨(some 19), .mv (.t 18), none⟩, ⟨(some 20), .mv (.t 0), (some (19, false))⟩, ⟨(some 21), .call (.c (.fn 72 [])) [(.t 20), (.c (.str [99, 104, 111, 111, 115, 101]))], (some (19, false))⟩, ⟨(some 22), .pick (.t 19) (.c (.bool true)) (.t 21), none⟩])
 (.cond (.t 22)
   (.seq (.reg [⟨(some 23), .mv (.t 4), none⟩, ⟨(some 24), .bslice 1 1 [(.int .i64 0)] [(0, 1, (.t 23))], none⟩, ⟨(some 25), .faddr 0 (.t 3), none⟩, ⟨(some 26), .faddr 2 (.t 25), none⟩, ⟨none, .store 1 (.t 26) (.t 24), none⟩])
   (.seq (.reg [⟨(some 27), .mv (.t 0), none⟩, ⟨(some 28), .call (.c (.fn 101 [])) [(.t 27), (.t 3)], none⟩])
   (.seq (.reg [⟨(some 29), .load (some 6) (.t 3), none⟩, ⟨none, .store 6 (.t 2) (.t 29), none⟩])
   .ret)))
   .skip))
 (.seq (.block 0 (.seq (.reg [⟨(some 53), .mv (.t 0), none⟩, ⟨(some 54), .call (.c (.fn 75 [])) [(.t 53), (.c (.str [115, 101, 110, 100]))], none⟩, ⟨(some 52), .mv (.t 54), none⟩])
  (.cond (.t 52)
    (.seq (.reg [⟨(some 55), .faddr 0 (.t 3), none⟩, ⟨(some 56), .faddr 0 (.t 55), none⟩, ⟨none, .store 1 (.t 56) (.c (.int .i64 7)), none⟩])
    (.seq (.draw [⟨(some 57), .faddr 0 (.t 3), none⟩, ⟨(some 58), .faddr 1 (.t 57), none⟩, ⟨(some 59), .load none (.t 58), none⟩, ⟨(some 60), .mv (.t 0), none⟩, ⟨(some 61), .call (.c (.fn 76 [])) [(.t 60)], none⟩, ⟨(some 62), .bslice 1 1 [(.str [])] [(0, 1, (.t 61))], none⟩, ⟨(some 63), .append 1 16 (.t 59) (.t 62), none⟩, ⟨(some 64), .faddr 0 (.t 3), none⟩, ⟨(some 65), .faddr 1 (.t 64), none⟩, ⟨none, .store 1 (.t 65) (.t 63), none⟩] [0, 1, 3, 0, 8, 24, 63, 127, 255, 511])
    (.seq (.draw [⟨(some 66), .faddr 5 (.t 3), none⟩, ⟨(some 67), .load none (.t 66), none⟩, ⟨(some 68), .mv (.t 0), none⟩, ⟨(some 69), .call (.c (.fn 80 [])) [(.t 68)], none⟩, ⟨(some 70), .len (.t 67), none⟩, ⟨(some 71), .bslice 6 1 [(.int .i64 0), .nils, .nils, .nils, (.int .i64 0), .nils] [(0, 6, (.c (.agg [(.int .i64 0), .nils, .nils, .nils, (.int .i64 0), .nils])))], none⟩, ⟨(some 72), .append 6 112 (.t 67) (.t 71), none⟩, ⟨(some 73), .iaddr 6 (.t 72) (.t 70), none⟩, ⟨none, .store 6 (.t 73) (.t 69), none⟩, ⟨(some 74), .faddr 5 (.t 3), none⟩, ⟨none, .store 1 (.t 74) (.t 72), none⟩] [0, 1, 0, 4, 3, 0, 63, 127, 255, 127, 639])
    (.reg [⟨(some 75), .mv (.t 0), none⟩, ⟨(some 76), .call (.c (.fn 77 [])) [(.t 75), (.c (.str [59]))], none⟩]))))
    (.seq (.reg [⟨(some 78), .mv (.t 0), none⟩, ⟨(some 79), .call (.c (.fn 75 [])) [(.t 78), (.c (.str [105, 102]))], none⟩, ⟨(some 77), .mv (.t 79), none⟩])
    (.cond (.t 77)
      (.seq (.reg [⟨(some 80), .faddr 0 (.t 3), none⟩, ⟨(some 81), .faddr 0 (.t 80), none⟩, ⟨none, .store 1 (.t 81) (.c (.int .i64 11)), none⟩])
      (.seq (.draw [⟨(some 82), .faddr 5 (.t 3), none⟩, ⟨(some 83), .load none (.t 82), none⟩, ⟨(some 84), .mv (.t 0), none⟩, ⟨(some 85), .call (.c (.fn 80 [])) [(.t 84)], none⟩, ⟨(some 86), .len (.t 83), none⟩, ⟨(some 87), .bslice 6 1 [(.int .i64 0), .nils, .nils, .nils, (.int .i64 0), .nils] [(0, 6, (.c (.agg [(.int .i64 0), .nils, .nils, .nils, (.int .i64 0), .nils])))], none⟩, ⟨(some 88), .append 6 112 (.t 83) (.t 87), none⟩, ⟨(some 89), .iaddr 6 (.t 88) (.t 86), none⟩, ⟨none, .store 6 (.t 89) (.t 85), none⟩, ⟨(some 90), .faddr 5 (.t 3), none⟩, ⟨none, .store 1 (.t 90) (.t 88), none⟩] [0, 1, 0, 4, 3, 0, 63, 127, 255, 127, 639])
      (.seq (.draw [⟨(some 91), .faddr 5 (.t 3), none⟩, ⟨(some 92), .load none (.t 91), none⟩, ⟨(some 93), .mv (.t 0), none⟩, ⟨(some 94), .call (.c (.fn 102 [])) [(.t 93)], none⟩, ⟨(some 95), .len (.t 92), none⟩, ⟨(some 96), .bslice 6 1 [(.int .i64 0), .nils, .nils, .nils, (.int .i64 0), .nils] [(0, 6, (.c (.agg [(.int .i64 0), .nils, .nils, .nils, (.int .i64 0), .nils])))], none⟩, ⟨(some 97), .append 6 112 (.t 92) (.t 96), none⟩, ⟨(some 98), .iaddr 6 (.t 97) (.t 95), none⟩, ⟨none, .store 6 (.t 98) (.t 94), none⟩, ⟨(some 99), .faddr 5 (.t 3), none⟩, ⟨none, .store 1 (.t 99) (.t 97), none⟩] [0, 1, 0, 4, 3, 0, 63, 127, 255, 127, 639])
      (.seq (.reg [⟨(some 100), .mv (.t 0), none⟩, ⟨(some 101), .call (.c (.fn 75 [])) [(.t 100), (.c (.str [101, 108, 115, 101]))], none⟩])
      (.cond (.t 101)
        (.draw [⟨(some 102), .faddr 5 (.t 3), none⟩, ⟨(some 103), .load none (.t 102), none⟩, ⟨(some 104), .mv (.t 0), none⟩, ⟨(some 105), .call (.c (.fn 102 [])) [(.t 104)], none⟩, ⟨(some 106), .len (.t 103), none⟩, ⟨(some 107), .bslice 6 1 [(.int .i64 0), .nils, .nils, .nils, (.int .i64 0), .nils] [(0, 6, (.c (.agg [(.int .i64 0), .nils, .nils, .nils, (.int .i64 0), .nils])))], none⟩, ⟨(some 108), .append 6 112 (.t 103) (.t 107), none⟩, ⟨(some 109), .iaddr 6 (.t 108) (.t 106), none⟩, ⟨none, .store 6 (.t 109) (.t 105), none⟩, ⟨(some 110), .faddr 5 (.t 3), none⟩, ⟨none, .store 1 (.t 110) (.t 108), none⟩] [0, 1, 0, 4, 3, 0, 63, 127, 255, 127, 639])
        .skip)))))
      (.seq (.reg [⟨(some 112), .mv (.t 0), none⟩, ⟨(some 113), .call (.c (.fn 75 [])) [(.t 112), (.c (.str [119, 104, 105, 108, 101]))], none⟩, ⟨(some 111), .mv (.t 113), none⟩])
      (.cond (.t 111)
        (.seq (.reg [⟨(some 114), .faddr 0 (.t 3), none⟩, ⟨(some 115), .faddr 0 (.t 114), none⟩, ⟨none, .store 1 (.t 115) (.c (.int .i64 12)), none⟩])
        (.seq (.draw [⟨(some 116), .faddr 5 (.t 3), none⟩, ⟨(some 117), .load none (.t 116), none⟩, ⟨(some 118), .mv (.t 0), none⟩, ⟨(some 119), .call (.c (.fn 80 [])) [(.t 118)], none⟩, ⟨(some 120), .len (.t 117), none⟩, ⟨(some 121), .bslice 6 1 [(.int .i64 0), .nils, .nils, .nils, (.int .i64 0), .nils] [(0, 6, (.c (.agg [(.int .i64 0), .nils, .nils, .nils, (.int .i64 0), .nils])))], none⟩, ⟨(some 122), .append 6 112 (.t 117) (.t 121), none⟩, ⟨(some 123), .iaddr 6 (.t 122) (.t 120), none⟩, ⟨none, .store 6 (.t 123) (.t 119), none⟩, ⟨(some 124), .faddr 5 (.t 3), none⟩, ⟨none, .store 1 (.t 124) (.t 122), none⟩] [0, 1, 0, 4, 3, 0, 63, 127, 255, 127, 639])
        (.draw [⟨(some 125), .faddr 5 (.t 3), none⟩, ⟨(some 126), .load none (.t 125), none⟩, ⟨(some 127), .mv (.t 0), none⟩, ⟨(some 128), .call (.c (.fn 102 [])) [(.t 127)], none⟩, ⟨(some 129), .len (.t 126), none⟩, ⟨(some 130), .bslice 6 1 [(.int .i64 0), .nils, .nils, .nils, (.int .i64 0), .nils] [(0, 6, (.c (.agg [(.int .i64 0), .nils, .nils, .nils, (.int .i64 0), .nils])))], none⟩, ⟨(some 131), .append 6 112 (.t 126) (.t 130), none⟩, ⟨(some 132), .iaddr 6 (.t 131) (.t 129), none⟩, ⟨none, .store 6 (.t 132) (.t 128), none⟩, ⟨(some 133), .faddr 5 (.t 3), none⟩, ⟨none, .store 1 (.t 133) (.t 131), none⟩] [0, 1, 0, 4, 3, 0, 63, 127, 255, 127, 639])))
        (.seq (.reg [⟨(some 135), .mv (.t 0), none⟩, ⟨(some 136), .call (.c (.fn 75 [])) [(.t 135), (.c (.str [97, 116, 111, 109, 105, 99]))], none⟩, ⟨(some 134), .mv (.t 136), none⟩])
        (.cond (.t 134)
          (.seq (.reg [⟨(some 137), .faddr 0 (.t 3), none⟩, ⟨(some 138), .faddr 0 (.t 137), none⟩, ⟨none, .store 1 (.t 138) (.c (.int .i64 13)), none⟩])
          (.draw [⟨(some 139), .faddr 5 (.t 3), none⟩, ⟨(some 140), .load none (.t 139), none⟩, ⟨(some 141), .mv (.t 0), none⟩, ⟨(some 142), .call (.c (.fn 102 [])) [(.t 141)], none⟩, ⟨(some 143), .len (.t 140), none⟩, ⟨(some 144), .bslice 6 1 [(.int .i64 0), .nils, .nils, .nils, (.int .i64 0), .nils] [(0, 6, (.c (.agg [(.int .i64 0), .nils, .nils, .nils, (.int .i64 0), .nils])))], none⟩, ⟨(some 145), .append 6 112 (.t 140) (.t 144), none⟩, ⟨(some 146), .iaddr 6 (.t 145) (.t 143), none⟩, ⟨none, .store 6 (.t 146) (.t 142), none⟩, ⟨(some 147), .faddr 5 (.t 3), none⟩, ⟨none, .store 1 (.t 147) (.t 145), none⟩] [0, 1, 0, 4, 3, 0, 63, 127, 255, 127, 639]))
          (.seq (.reg [⟨(some 149), .mv (.t 0), none⟩, ⟨(some 150), .call (.c (.fn 75 [])) [(.t 149), (.c (.str [115, 107, 105, 112]))], none⟩, ⟨(some 148), .mv (.t 150), none⟩])
          (.cond (.t 148)
            (.seq (.reg [⟨(some 151), .faddr 0 (.t 3), none⟩, ⟨(some 152), .faddr 0 (.t 151), none⟩, ⟨none, .store 1 (.t 152) (.c (.int .i64 14)), none⟩])
            (.reg [⟨(some 153), .mv (.t 0), none⟩, ⟨(some 154), .call (.c (.fn 77 [])) [(.t 153), (.c (.str [59]))], none⟩]))
            (.seq (.reg [⟨(some 156), .mv (.t 0), none⟩, ⟨(some 157), .call (.c (.fn 75 [])) [(.t 156), (.c (.str [115, 116, 111, 112]))], none⟩, ⟨(some 155), .mv (.t 157), none⟩])
            (.cond (.t 155)
              (.seq (.reg [⟨(some 158), .faddr 0 (.t 3), none⟩, ⟨(some 159), .faddr 0 (.t 158), none⟩, ⟨none, .store 1 (.t 159) (.c (.int .i64 15)), none⟩])
              (.reg [⟨(some 160), .mv (.t 0), none⟩, ⟨(some 161), .call (.c (.fn 77 [])) [(.t 160), (.c (.str [59]))], none⟩]))
              (.seq (.draw [⟨(some 30), .faddr 0 (.t 3), none⟩, ⟨(some 31), .faddr 1 (.t 30), none⟩, ⟨(some 32), .load none (.t 31), none⟩, ⟨(some 33), .mv (.t 0), none⟩, ⟨(some 34), .call (.c (.fn 76 [])) [(.t 33)], none⟩, ⟨(some 35), .bslice 1 1 [(.str [])] [(0, 1, (.t 34))], none⟩, ⟨(some 36), .append 1 16 (.t 32) (.t 35), none⟩, ⟨(some 37), .faddr 0 (.t 3), none⟩, ⟨(some 38), .faddr 1 (.t 37), none⟩, ⟨none, .store 1 (.t 38) (.t 36), none⟩] [0, 1, 3, 0, 8, 24, 63, 127, 255, 511])
              (.seq (.reg [⟨(some 39), .mv (.t 0), none⟩, ⟨(some 40), .call (.c (.fn 77 [])) [(.t 39), (.c (.str [61]))], none⟩])
              (.seq (.draw [⟨(some 41), .faddr 5 (.t 3), none⟩, ⟨(some 42), .load none (.t 41), none⟩, ⟨(some 43), .mv (.t 0), none⟩, ⟨(some 44), .call (.c (.fn 80 [])) [(.t 43)], none⟩, ⟨(some 45), .len (.t 42), none⟩, ⟨(some 46), .bslice 6 1 [(.int .i64 0), .nils, .nils, .nils, (.int .i64 0), .nils] [(0, 6, (.c (.agg [(.int .i64 0), .nils, .nils, .nils, (.int .i64 0), .nils])))], none⟩, ⟨(some 47), .append 6 112 (.t 42) (.t 46), none⟩, ⟨(some 48), .iaddr 6 (.t 47) (.t 45), none⟩, ⟨none, .store 6 (.t 48) (.t 44), none⟩, ⟨(some 49), .faddr 5 (.t 3), none⟩, ⟨none, .store 1 (.t 49) (.t 47), none⟩] [0, 1, 0, 4, 3, 0, 63, 127, 255, 127, 639])
              (.reg [⟨(some 50), .mv (.t 0), none⟩, ⟨(some 51), .call (.c (.fn 77 [])) [(.t 50), (.c (.str [59]))], none⟩])))))))))))))))))
 (.seq (.reg [⟨(some 162), .load (some 6) (.t 3), none⟩, ⟨none, .store 6 (.t 2) (.t 162), none⟩])
 .ret)))))), [.cell 2 (some 6)]⟩
theorem c98 : compF Try.prog Try.f98 = some m98 := by kernel_rfl
/-- (*weirgate/weirgateref09.P).same -/
def m99 : MFunc := ⟨13, (.seq (.reg [⟨(some 2), .alloc [(.int .i64 0), .nils, .nils, .nils, (.int .i64 0), .nils], none⟩])
 (.seq (.reg [⟨(some 4), .mv (.t 0), none⟩, ⟨(some 5), .call (.c (.fn 103 [])) [(.t 4)], none⟩, ⟨(some 3), .alloc [(.int .i64 0), .nils, .nils, .nils, (.int .i64 0), .nils], none⟩, ⟨none, .store 6 (.t 3) (.t 5), none⟩])
 (.seq (.seq (.reg [⟨(some 6), .mv (.t 0), none⟩, ⟨(some 7), .call (.c (.fn 75 [])) [(.t 6), (.c (.str [61, 61]))], none⟩])
 (.cond (.t 7)
   (.draw [⟨(some 8), .load (some 6) (.t 3), none⟩, ⟨(some 9), .mv (.t 0), none⟩, ⟨(some 10), .call (.c (.fn 103 [])) [(.t 9)], none⟩, ⟨(some 11), .call (.c (.fn 94 [])) [(.c (.int .i64 2)), (.t 8), (.t 10)], none⟩, ⟨none, .store 6 (.t 3) (.t 11), none⟩] [0, 0, 2, 7, 15])
   .skip))
 (.seq (.reg [⟨(some 12), .load (some 6) (.t 3), none⟩, ⟨none, .store 6 (.t 2) (.t 12), none⟩])
 .ret)))), [.cell 2 (some 6)]⟩
theorem c99 : compF Try.prog Try.f99 = some m99 := by kernel_rfl
/-- weirgate/weirgateref11.Item -/
def m100 : MFunc := ⟨33, (.seq (.reg [⟨(some 4), .mv (.c (.int .i64 0)), none⟩])
 (.seq (.reg [⟨(some 5), .mv (.c (.int .i64 0)), none⟩])
 (.seq (.seq (.reg [⟨(some 6), .mv (.c (.int .i64 0)), none⟩])
 (.block 0 (.loop (.seq (.seq (.reg [⟨(some 7), .mv (.t 6), none⟩, ⟨(some 8), .mv (.t 0), none⟩, ⟨(some 9), .iaddr 5 (.t 8) (.c (.int .i64 0)), none⟩, ⟨(some 10), .faddr 3 (.t 9), none⟩, ⟨(some 11), .load none (.t 10), none⟩, ⟨(some 12), .len (.t 11), none⟩, ⟨(some 13), .bin .lss .no (.t 7) (.t 12), none⟩])
   (.cond (.t 13)
     .skip
     (.exit 0)))
   (.seq (.block 1 (.seq (.reg [⟨(some 16), .mv (.t 0), none⟩, ⟨(some 17), .iaddr 5 (.t 16) (.c (.int .i64 0)), none⟩, ⟨(some 18), .faddr 3 (.t 17), none⟩, ⟨(some 19), .load none (.t 18), none⟩, ⟨(some 20), .mv (.t 6), none⟩, ⟨(some 21), .iaddr 1 (.t 19) (.t 20), none⟩, ⟨(some 22), .load none (.t 21), none⟩, ⟨(some 23), .mv (.t 1), none⟩, ⟨(some 24), .bin .leq .no (.t 22) (.t 23), none⟩])
    (.cond (.t 24)
      (.reg [⟨(some 25), .mv (.t 0), none⟩, ⟨(some 26), .iaddr 5 (.t 25) (.c (.int .i64 0)), none⟩, ⟨(some 27), .faddr 3 (.t 26), none⟩, ⟨(some 28), .load none (.t 27), none⟩, ⟨(some 29), .mv (.t 6), none⟩, ⟨(some 30), .iaddr 1 (.t 28) (.t 29), none⟩, ⟨(some 31), .load none (.t 30), none⟩, ⟨(some 5), .mv (.t 31), none⟩])
      .skip)))
   (.reg [⟨(some 14), .mv (.t 6), none⟩, ⟨(some 15), .bin .add .no (.t 14) (.c (.int .i64 1)), none⟩, ⟨(some 6), .mv (.t 15), none⟩]))))))
 (.seq (.reg [⟨(some 32), .mv (.t 5), none⟩, ⟨(some 4), .mv (.t 32), none⟩])
 .ret)))), [.tmp 4]⟩
theorem c100 : compF Try.prog Try.f100 = some m100 := by kernel_rfl
/-- (*weirgate/weirgateref09.P).waits -/
def m101 : MFunc := ⟨90, (.seq (.seq (.reg [⟨(some 4), .mv (.t 0), none⟩, ⟨(some 5), .call (.c (.fn 75 [])) [(.t 4), (.c (.str [114, 101, 99, 118]))], none⟩])
 (.cond (.t 5)
   (.seq (.reg [⟨(some 6), .mv (.t 1), none⟩, ⟨(some 7), .nilc (.t 6), none⟩, ⟨(some 8), .faddr 0 (.t 7), none⟩, ⟨(some 9), .faddr 0 (.t 8), none⟩, ⟨none, .store 1 (.t 9) (.c (.int .i64 8)), none⟩])
   (.seq (.draw [⟨(some 10), .mv (.t 1), none⟩, ⟨(some 11), .mv (.t 1), none⟩, ⟨(some 12), .nilc (.t 11), none⟩, ⟨(some 13), .faddr 0 (.t 12), none⟩, ⟨(some 14), .faddr 1 (.t 13), none⟩, ⟨(some 15), .load none (.t 14), none⟩, ⟨(some 16), .mv (.t 0), none⟩, ⟨(some 17), .call (.c (.fn 76 [])) [(.t 16)], none⟩, ⟨(some 18), .bslice 1 1 [(.str [])] [(0, 1, (.t 17))], none⟩, ⟨(some 19), .append 1 16 (.t 15) (.t 18), none⟩, ⟨(some 20), .nilc (.t 10), none⟩, ⟨(some 21), .faddr 0 (.t 20), none⟩, ⟨(some 22), .faddr 1 (.t 21), none⟩, ⟨none, .store 1 (.t 22) (.t 19), none⟩] [0, 0, 2, 6, 14, 30, 0, 64, 192, 510, 1023, 2047, 4095, 8191])
   (.seq (.draw [⟨(some 23), .mv (.t 1), none⟩, ⟨(some 24), .mv (.t 1), none⟩, ⟨(some 25), .nilc (.t 24), none⟩, ⟨(some 26), .faddr 0 (.t 25), none⟩, ⟨(some 27), .faddr 1 (.t 26), none⟩, ⟨(some 28), .load none (.t 27), none⟩, ⟨(some 29), .mv (.t 0), none⟩, ⟨(some 30), .call (.c (.fn 76 [])) [(.t 29)], none⟩, ⟨(some 31), .bslice 1 1 [(.str [])] [(0, 1, (.t 30))], none⟩, ⟨(some 32), .append 1 16 (.t 28) (.t 31), none⟩, ⟨(some 33), .nilc (.t 23), none⟩, ⟨(some 34), .faddr 0 (.t 33), none⟩, ⟨(some 35), .faddr 1 (.t 34), none⟩, ⟨none, .store 1 (.t 35) (.t 32), none⟩] [0, 0, 2, 6, 14, 30, 0, 64, 192, 510, 1023, 2047, 4095, 8191])
   (.seq (.reg [⟨(some 36), .mv (.t 0), none⟩, ⟨(some 37), .call (.c (.fn 77 [])) [(.t 36), (.c (.str [59]))], none⟩])
   .ret))))
   .skip))
 (.seq (.seq (.reg [⟨(some 38), .mv (.t 0), none⟩, ⟨(some 39), .call (.c (.fn 75 [])) [(.t 38), (.c (.str [119, 104, 101, 110]))], none⟩])
 (.cond (.t 39)
   (.seq (.reg [⟨(some 40), .mv (.t 1), none⟩, ⟨(some 41), .nilc (.t 40), none⟩, ⟨(some 42), .faddr 0 (.t 41), none⟩, ⟨(some 43), .faddr 0 (.t 42), none⟩, ⟨none, .store 1 (.t 43) (.c (.int .i64 9)), none⟩])
   (.seq (.draw [⟨(some 44), .mv (.t 1), none⟩, ⟨(some 45), .nilc (.t 44), none⟩, ⟨(some 46), .faddr 5 (.t 45), none⟩, ⟨(some 47), .load none (.t 46), none⟩, ⟨(some 48), .mv (.t 0), none⟩, ⟨(some 49), .call (.c (.fn 80 [])) [(.t 48)], none⟩, ⟨(some 50), .len (.t 47), none⟩, ⟨(some 51), .bslice 6 1 [(.int .i64 0), .nils, .nils, .nils, (.int .i64 0), .nils] [(0, 6, (.c (.agg [(.int .i64 0), .nils, .nils, .nils, (.int .i64 0), .nils])))], none⟩, ⟨(some 52), .append 6 112 (.t 47) (.t 51), none⟩, ⟨(some 53), .iaddr 6 (.t 52) (.t 50), none⟩, ⟨none, .store 6 (.t 53) (.t 49), none⟩, ⟨(some 54), .nilc (.t 44), none⟩, ⟨(some 55), .faddr 5 (.t 54), none⟩, ⟨none, .store 1 (.t 55) (.t 52), none⟩] [0, 1, 3, 7, 0, 16, 15, 0, 255, 511, 1023, 511, 2559, 6655])
   (.seq (.reg [⟨(some 56), .mv (.t 0), none⟩, ⟨(some 57), .call (.c (.fn 77 [])) [(.t 56), (.c (.str [59]))], none⟩])
   .ret)))
   .skip))
 (.seq (.reg [⟨(some 58), .mv (.t 0), none⟩, ⟨(some 59), .call (.c (.fn 77 [])) [(.t 58), (.c (.str [99, 104, 111, 111, 115, 101]))], none⟩])
 (.seq (.reg [⟨(some 60), .mv (.t 1), none⟩, ⟨(some 61), .nilc (.t 60), none⟩, ⟨(some 62), .faddr 0 (.t 61), none⟩, ⟨(some 63), .faddr 0 (.t 62), none⟩, ⟨none, .store 1 (.t 63) (.c (.int .i64 10)), none⟩])
 (.seq (.draw [⟨(some 64), .mv (.t 1), none⟩, ⟨(some 65), .nilc (.t 64), none⟩, ⟨(some 66), .faddr 5 (.t 65), none⟩, ⟨(some 67), .load none (.t 66), none⟩, ⟨(some 68), .mv (.t 0), none⟩, ⟨(some 69), .call (.c (.fn 102 [])) [(.t 68)], none⟩, ⟨(some 70), .len (.t 67), none⟩, ⟨(some 71), .bslice 6 1 [(.int .i64 0), .nils, .nils, .nils, (.int .i64 0), .nils] [(0, 6, (.c (.agg [(.int .i64 0), .nils, .nils, .nils, (.int .i64 0), .nils])))], none⟩, ⟨(some 72), .append 6 112 (.t 67) (.t 71), none⟩, ⟨(some 73), .iaddr 6 (.t 72) (.t 70), none⟩, ⟨none, .store 6 (.t 73) (.t 69), none⟩, ⟨(some 74), .nilc (.t 64), none⟩, ⟨(some 75), .faddr 5 (.t 74), none⟩, ⟨none, .store 1 (.t 75) (.t 72), none⟩] [0, 1, 3, 7, 0, 16, 15, 0, 255, 511, 1023, 511, 2559, 6655])
 (.block 0 (.loop (.seq (.seq (.reg [⟨(some 76), .mv (.t 0), none⟩, ⟨(some 77), .call (.c (.fn 75 [])) [(.t 76), (.c (.str [111, 114]))], none⟩])
   (.cond (.t 77)
     .skip
     (.exit 0)))
   (.block 1 (.draw [⟨(some 78), .mv (.t 1), none⟩, ⟨(some 79), .nilc (.t 78), none⟩, ⟨(some 80), .faddr 5 (.t 79), none⟩, ⟨(some 81), .load none (.t 80), none⟩, ⟨(some 82), .mv (.t 0), none⟩, ⟨(some 83), .call (.c (.fn 102 [])) [(.t 82)], none⟩, ⟨(some 84), .len (.t 81), none⟩, ⟨(some 85), .bslice 6 1 [(.int .i64 0), .nils, .nils, .nils, (.int .i64 0), .nils] [(0, 6, (.c (.agg [(.int .i64 0), .nils, .nils, .nils, (.int .i64 0), .nils])))], none⟩, ⟨(some 86), .append 6 112 (.t 81) (.t 85), none⟩, ⟨(some 87), .iaddr 6 (.t 86) (.t 84), none⟩, ⟨none, .store 6 (.t 87) (.t 83), none⟩, ⟨(some 88), .nilc (.t 78), none⟩, ⟨(some 89), .faddr 5 (.t 88), none⟩, ⟨none, .store 1 (.t 89) (.t 86), none⟩] [0, 1, 3, 7, 0, 16, 15, 0, 255, 511, 1023, 511, 2559, 6655])))))))))), []⟩
theorem c101 : compF Try.prog Try.f101 = some m101 := by kernel_rfl
/-- (*weirgate/weirgateref09.P).block -/
def m102 : MFunc := ⟨20, (.seq (.reg [⟨(some 2), .alloc [(.int .i64 0), .nils, .nils, .nils, (.int .i64 0), .nils], none⟩])
 (.seq (.reg [⟨(some 4), .mv (.t 0), none⟩, ⟨(some 5), .call (.c (.fn 52 [])) [(.t 4), (.c (.int .i64 16))], none⟩, ⟨(some 3), .alloc [(.int .i64 0), .nils, .nils, .nils, (.int .i64 0), .nils], none⟩, ⟨none, .store 6 (.t 3) (.t 5), none⟩])
 (.seq (.reg [⟨(some 6), .mv (.t 0), none⟩, ⟨(some 7), .call (.c (.fn 77 [])) [(.t 6), (.c (.str [123]))], none⟩])
 (.seq (.reg [⟨(some 8), .mv (.t 0), none⟩, ⟨(some 9), .call (.c (.fn 90 [])) [(.t 8)], none⟩])
 (.seq (.reg [⟨(some 10), .mv (.t 0), none⟩, ⟨(some 11), .call (.c (.fn 91 [])) [(.t 10), (.t 3)], none⟩])
 (.seq (.reg [⟨(some 12), .mv (.t 0), none⟩, ⟨(some 13), .nilc (.t 12), none⟩, ⟨(some 14), .faddr 2 (.t 13), none⟩, ⟨(some 15), .load none (.t 14), none⟩, ⟨(some 16), .bin .sub .no (.t 15) (.c (.int .i64 1)), none⟩, ⟨(some 17), .nilc (.t 12), none⟩, ⟨(some 18), .faddr 2 (.t 17), none⟩, ⟨none, .store 1 (.t 18) (.t 16), none⟩])
 (.seq (.reg [⟨(some 19), .load (some 6) (.t 3), none⟩, ⟨none, .store 6 (.t 2) (.t 19), none⟩])
 .ret))))))), [.cell 2 (some 6)]⟩
theorem c102 : compF Try.prog Try.f102 = some m102 := by kernel_rfl
/-- (*weirgate/weirgateref09.P).less -/
def m103 : MFunc := ⟨13, (.seq (.reg [⟨(some 2), .alloc [(.int .i64 0), .nils, .nils, .nils, (.int .i64 0), .nils], none⟩])
 (.seq (.reg [⟨(some 4), .mv (.t 0), none⟩, ⟨(some 5), .call (.c (.fn 104 [])) [(.t 4)], none⟩, ⟨(some 3), .alloc [(.int .i64 0), .nils, .nils, .nils, (.int .i64 0), .nils], none⟩, ⟨none, .store 6 (.t 3) (.t 5), none⟩])
 (.seq (.seq (.reg [⟨(some 6), .mv (.t 0), none⟩, ⟨(some 7), .call (.c (.fn 75 [])) [(.t 6), (.c (.str [60]))], none⟩])
 (.cond (.t 7)
   (.draw [⟨(some 8), .load (some 6) (.t 3), none⟩, ⟨(some 9), .mv (.t 0), none⟩, ⟨(some 10), .call (.c (.fn 104 [])) [(.t 9)], none⟩, ⟨(some 11), .call (.c (.fn 94 [])) [(.c (.int .i64 3)), (.t 8), (.t 10)], none⟩, ⟨none, .store 6 (.t 3) (.t 11), none⟩] [0, 0, 2, 7, 15])
   .skip))
 (.seq (.reg [⟨(some 12), .load (some 6) (.t 3), none⟩, ⟨none, .store 6 (.t 2) (.t 12), none⟩])
 .ret)))), [.cell 2 (some 6)]⟩
theorem c103 : compF Try.prog Try.f103 = some m103 := by kernel_rfl
/-- (*weirgate/weirgateref09.P).sum -/
def m104 : MFunc := ⟨28, (.seq (.reg [⟨(some 2), .alloc [(.int .i64 0), .nils, .nils, .nils, (.int .i64 0), .nils], none⟩])
 (.seq (.reg [⟨(some 5), .mv (.t 0), none⟩, ⟨(some 6), .call (.c (.fn 105 [])) [(.t 5)], none⟩, ⟨(some 3), .alloc [(.int .i64 0), .nils, .nils, .nils, (.int .i64 0), .nils], none⟩, ⟨none, .store 6 (.t 3) (.t 6), none⟩])
 (.seq (.block 0 (.loop (.seq (.seq (.reg [⟨(some 7), .mv (.t 0), none⟩, ⟨(some 8), .call (.c (.fn 72 [])) [(.t 7), (.c (.str [43]))], none⟩, ⟨(some 9), .mv (.t 8), none⟩, ⟨(some 10), .mv (.t 0), (some (9, false))⟩, ⟨(some 11), .call (.c (.fn 72 [])) [(.t 10), (.c (.str [45]))], (some (9, false))⟩, ⟨(some 12), .pick (.t 9) (.c (.bool true)) (.t 11), none⟩])
   (.cond (.t 12)
     .skip
     (.exit 0)))
   (.block 1 (.seq (.reg [⟨(some 4), .mv (.c (.int .i64 5)), none⟩])
    (.seq (.seq (.reg [⟨(some 13), .mv (.t 0), none⟩, ⟨(some 14), .call (.c (.fn 72 [])) [(.t 13), (.c (.str [43]))], none⟩])
    (.cond (.t 14)
      (.reg [⟨(some 4), .mv (.c (.int .i64 4)), none⟩])
      .skip))
    (.seq (.reg [⟨(some 15), .mv (.t 0), none⟩, ⟨(some 16), .nilc (.t 15), none⟩, ⟨(some 17), .faddr 1 (.t 16), none⟩, ⟨(some 18), .load none (.t 17), none⟩, ⟨(some 19), .bin .add .no (.t 18) (.c (.int .i64 1)), none⟩, ⟨(some 20), .nilc (.t 15), none⟩, ⟨(some 21), .faddr 1 (.t 20), none⟩, ⟨none, .store 1 (.t 21) (.t 19), none⟩])
    (.draw [⟨(some 22), .mv (.t 4), none⟩, ⟨(some 23), .load (some 6) (.t 3), none⟩, ⟨(some 24), .mv (.t 0), none⟩, ⟨(some 25), .call (.c (.fn 105 [])) [(.t 24)], none⟩, ⟨(some 26), .call (.c (.fn 94 [])) [(.t 22), (.t 23), (.t 25)], none⟩, ⟨none, .store 6 (.t 3) (.t 26), none⟩] [0, 0, 0, 4, 15, 31]))))))))
 (.seq (.reg [⟨(some 27), .load (some 6) (.t 3), none⟩, ⟨none, .store 6 (.t 2) (.t 27), none⟩])
 .ret)))), [.cell 2 (some 6)]⟩
theorem c104 : compF Try.prog Try.f104 = some m104 := by kernel_rfl
/-- (*weirgate/weirgateref09.P).product -/
def m105 : MFunc := ⟨34, (.seq (.reg [⟨(some 2), .alloc [(.int .i64 0), .nils, .nils, .nils, (.int .i64 0), .nils], none⟩])
 (.seq (.reg [⟨(some 5), .mv (.t 0), none⟩, ⟨(some 6), .call (.c (.fn 106 [])) [(.t 5)], none⟩, ⟨(some 3), .alloc [(.int .i64 0), .nils, .nils, .nils, (.int .i64 0), .nils], none⟩, ⟨none, .store 6 (.t 3) (.t 6), none⟩])
 (.seq (.block 0 (.loop (.seq (.seq (.reg [⟨(some 7), .mv (.t 0), none⟩, ⟨(some 8), .call (.c (.fn 72 [])) [(.t 7), (.c (.str [42]))], none⟩, ⟨(some 9), .mv (.t 8), none⟩, ⟨(some 10), .mv (.t 0), (some (9, false))⟩, ⟨(some 11), .call (.c (.fn 72 [])) [(.t 10), (.c (.str [47]))], (some (9, false))⟩, ⟨(some 12), .pick (.t 9) (.c (.bool true)) (.t 11), none⟩, ⟨(some 13), .mv (.t 12), none⟩, ⟨(some 14), .mv (.t 0), (some (13, false))⟩, ⟨(some 15), .call (.c (.fn 72 [])) [(.t 14), (.c (.str [37]))], (some (13, false))⟩, ⟨(some 16), .pick (.t 13) (.c (.bool true)) (.t 15), none⟩])
   (.cond (.t 16)
     .skip
     (.exit 0)))
   (.block 1 (.seq (.reg [⟨(some 4), .mv (.c (.int .i64 8)), none⟩])
    (.seq (.seq (.reg [⟨(some 17), .mv (.t 0), none⟩, ⟨(some 18), .call (.c (.fn 72 [])) [(.t 17), (.c (.str [42]))], none⟩])
    (.cond (.t 18)
      (.reg [⟨(some 4), .mv (.c (.int .i64 6)), none⟩])
      (.seq (.reg [⟨(some 19), .mv (.t 0), none⟩, ⟨(some 20), .call (.c (.fn 72 [])) [(.t 19), (.c (.str [47]))], none⟩])
      (.cond (.t 20)
        (.reg [⟨(some 4), .mv (.c (.int .i64 7)), none⟩])
        .skip))))
    (.seq (.reg [⟨(some 21), .mv (.t 0), none⟩, ⟨(some 22), .nilc (.t 21), none⟩, ⟨(some 23), .faddr 1 (.t 22), none⟩, ⟨(some 24), .load none (.t 23), none⟩, ⟨(some 25), .bin .add .no (.t 24) (.c (.int .i64 1)), none⟩, ⟨(some 26), .nilc (.t 21), none⟩, ⟨(some 27), .faddr 1 (.t 26), none⟩, ⟨none, .store 1 (.t 27) (.t 25), none⟩])
    (.draw [⟨(some 28), .mv (.t 4), none⟩, ⟨(some 29), .load (some 6) (.t 3), none⟩, ⟨(some 30), .mv (.t 0), none⟩, ⟨(some 31), .call (.c (.fn 106 [])) [(.t 30)], none⟩, ⟨(some 32), .call (.c (.fn 94 [])) [(.t 28), (.t 29), (.t 31)], none⟩, ⟨none, .store 6 (.t 3) (.t 32), none⟩] [0, 0, 0, 4, 15, 31]))))))))
 (.seq (.reg [⟨(some 33), .load (some 6) (.t 3), none⟩, ⟨none, .store 6 (.t 2) (.t 33), none⟩])
 .ret)))), [.cell 2 (some 6)]⟩
theorem c105 : compF Try.prog Try.f105 = some m105 := by kernel_rfl
/-- (*weirgate/weirgateref09.P).part -/
def m106 : MFunc := ⟨106, (.seq (.reg [⟨(some 2), .alloc [(.int .i64 0), .nils, .nils, .nils, (.int .i64 0), .nils], none⟩])
 (.seq (.reg [⟨(some 4), .mv (.t 0), none⟩, ⟨(some 5), .call (.c (.fn 52 [])) [(.t 4), (.c (.int .i64 17))], none⟩, ⟨(some 3), .alloc [(.int .i64 0), .nils, .nils, .nils, (.int .i64 0), .nils], none⟩, ⟨none, .store 6 (.t 3) (.t 5), none⟩])
 (.seq (.block 0 (.seq (.reg [⟨(some 18), .mv (.t 0), none⟩, ⟨(some 19), .call (.c (.fn 53 [])) [(.t 18)], none⟩, ⟨(some 20), .mv (.t 19), none⟩, ⟨(some 21), .mv (.t 0), (some (20, true))⟩, ⟨(some 22), .call (.c (.fn 54 [])) [(.t 21)], (some (20, true))⟩, ⟨(some 23), .field none 0 (.t 22), (some (20, true))⟩, ⟨(some 24), .bin .eql .no (.t 23) (.c (.int .i64 1)), (some (20, true))⟩, ⟨(some 25), .pick (.t 20) (.t 24) (.c (.bool false)), none⟩, ⟨(some 17), .mv (.t 25), none⟩])
  (.cond (.t 17)
    (.draw [⟨(some 26), .faddr 0 (.t 3), none⟩, ⟨(some 27), .faddr 2 (.t 26), none⟩, ⟨(some 28), .load none (.t 27), none⟩, ⟨(some 29), .mv (.t 0), none⟩, ⟨(some 30), .call (.c (.fn 78 [])) [(.t 29)], none⟩, ⟨(some 31), .bslice 1 1 [(.int .i64 0)] [(0, 1, (.t 30))], none⟩, ⟨(some 32), .append 1 8 (.t 28) (.t 31), none⟩, ⟨(some 33), .faddr 0 (.t 3), none⟩, ⟨(some 34), .faddr 2 (.t 33), none⟩, ⟨none, .store 1 (.t 34) (.t 32), none⟩] [0, 1, 3, 0, 8, 24, 63, 127, 255, 511])
    (.seq (.reg [⟨(some 36), .mv (.t 0), none⟩, ⟨(some 37), .call (.c (.fn 75 [])) [(.t 36), (.c (.str [108, 101, 110]))], none⟩, ⟨(some 35), .mv (.t 37), none⟩])
    (.cond (.t 35)
      (.seq (.reg [⟨(some 38), .faddr 0 (.t 3), none⟩, ⟨(some 39), .faddr 0 (.t 38), none⟩, ⟨none, .store 1 (.t 39) (.c (.int .i64 19)), none⟩])
      (.draw [⟨(some 40), .faddr 0 (.t 3), none⟩, ⟨(some 41), .faddr 1 (.t 40), none⟩, ⟨(some 42), .load none (.t 41), none⟩, ⟨(some 43), .mv (.t 0), none⟩, ⟨(some 44), .call (.c (.fn 76 [])) [(.t 43)], none⟩, ⟨(some 45), .bslice 1 1 [(.str [])] [(0, 1, (.t 44))], none⟩, ⟨(some 46), .append 1 16 (.t 42) (.t 45), none⟩, ⟨(some 47), .faddr 0 (.t 3), none⟩, ⟨(some 48), .faddr 1 (.t 47), none⟩, ⟨none, .store 1 (.t 48) (.t 46), none⟩] [0, 1, 3, 0, 8, 24, 63, 127, 255, 511]))
      (.seq (.reg [⟨(some 50), .mv (.t 0), none⟩, ⟨(some 51), .call (.c (.fn 72 [])) [(.t 50), (.c (.str [45]))], none⟩, ⟨(some 52), .mv (.t 51), none⟩, ⟨(some 53), .mv (.t 0), (some (52, false))⟩, ⟨(some 54), .call (.c (.fn 72 [])) [(.t 53), (.c (.str [33]))], (some (52, false))⟩, ⟨(some 55), .pick (.t 52) (.c (.bool true)) (.t 54), none⟩, ⟨(some 49), .mv (.t 55), none⟩])
      (.cond (.t 49)
        (.seq (.reg [⟨(some 56), .faddr 0 (.t 3), none⟩, ⟨(some 57), .faddr 0 (.t 56), none⟩, ⟨none, .store 1 (.t 57) (.c (.int .i64 21)), none⟩])
        (.seq (.seq (.reg [⟨(some 58), .mv (.t 0), none⟩, ⟨(some 59), .call (.c (.fn 72 [])) [(.t 58), (.c (.str [45]))], none⟩])
        (.cond (.t 59)
          (.reg [⟨(some 60), .faddr 0 (.t 3), none⟩, ⟨(some 61), .faddr 0 (.t 60), none⟩, ⟨none, .store 1 (.t 61) (.c (.int .i64 20)), none⟩])
          .skip))
        (.seq (.reg [⟨(some 62), .mv (.t 0), none⟩, ⟨(some 63), .nilc (.t 62), none⟩, ⟨(some 64), .faddr 1 (.t 63), none⟩, ⟨(some 65), .load none (.t 64), none⟩, ⟨(some 66), .bin .add .no (.t 65) (.c (.int .i64 1)), none⟩, ⟨(some 67), .nilc (.t 62), none⟩, ⟨(some 68), .faddr 1 (.t 67), none⟩, ⟨none, .store 1 (.t 68) (.t 66), none⟩])
        (.seq (.reg [⟨(some 69), .mv (.t 0), none⟩, ⟨(some 70), .call (.c (.fn 90 [])) [(.t 69)], none⟩])
        (.seq (.seq (.reg [⟨(some 71), .mv (.t 0), none⟩, ⟨(some 72), .call (.c (.fn 53 [])) [(.t 71)], none⟩])
        (.cond (.t 72)
          (.draw [⟨(some 73), .faddr 5 (.t 3), none⟩, ⟨(some 74), .load none (.t 73), none⟩, ⟨(some 75), .mv (.t 0), none⟩, ⟨(some 76), .call (.c (.fn 106 [])) [(.t 75)], none⟩, ⟨(some 77), .bslice 6 1 [(.int .i64 0), .nils, .nils, .nils, (.int .i64 0), .nils] [(0, 6, (.t 76))], none⟩, ⟨(some 78), .append 6 112 (.t 74) (.t 77), none⟩, ⟨(some 79), .faddr 5 (.t 3), none⟩, ⟨none, .store 1 (.t 79) (.t 78), none⟩] [0, 1, 0, 4, 12, 31, 63, 127])
          .skip))
        (.reg [⟨(some 80), .mv (.t 0), none⟩, ⟨(some 81), .nilc (.t 80), none⟩, ⟨(some 82), .faddr 2 (.t 81), none⟩, ⟨(some 83), .load none (.t 82), none⟩, ⟨(some 84), .bin .sub .no (.t 83) (.c (.int .i64 1)), none⟩, ⟨(some 85), .nilc (.t 80), none⟩, ⟨(some 86), .faddr 2 (.t 85), none⟩, ⟨none, .store 1 (.t 86) (.t 84), none⟩]))))))
        (.seq (.reg [⟨(some 88), .mv (.t 0), none⟩, ⟨(some 89), .call (.c (.fn 75 [])) [(.t 88), (.c (.str [40]))], none⟩, ⟨(some 87), .mv (.t 89), none⟩])
        (.cond (.t 87)
          (.seq (.reg [⟨(some 90), .mv (.t 0), none⟩, ⟨(some 91), .call (.c (.fn 90 [])) [(.t 90)], none⟩])
          (.seq (.seq (.reg [⟨(some 92), .mv (.t 0), none⟩, ⟨(some 93), .call (.c (.fn 53 [])) [(.t 92)], none⟩])
          (.cond (.t 93)
            (.reg [⟨(some 94), .mv (.t 0), none⟩, ⟨(some 95), .call (.c (.fn 80 [])) [(.t 94)], none⟩, ⟨none, .store 6 (.t 3) (.t 95), none⟩])
            .skip))
          (.seq (.reg [⟨(some 96), .mv (.t 0), none⟩, ⟨(some 97), .nilc (.t 96), none⟩, ⟨(some 98), .faddr 2 (.t 97), none⟩, ⟨(some 99), .load none (.t 98), none⟩, ⟨(some 100), .bin .sub .no (.t 99) (.c (.int .i64 1)), none⟩, ⟨(some 101), .nilc (.t 96), none⟩, ⟨(some 102), .faddr 2 (.t 101), none⟩, ⟨none, .store 1 (.t 102) (.t 100), none⟩])
          (.reg [⟨(some 103), .mv (.t 0), none⟩, ⟨(some 104), .call (.c (.fn 77 [])) [(.t 103), (.c (.str [41]))], none⟩]))))
          (.seq (.reg [⟨(some 6), .faddr 0 (.t 3), none⟩, ⟨(some 7), .faddr 0 (.t 6), none⟩, ⟨none, .store 1 (.t 7) (.c (.int .i64 18)), none⟩])
          (.draw [⟨(some 8), .faddr 0 (.t 3), none⟩, ⟨(some 9), .faddr 1 (.t 8), none⟩, ⟨(some 10), .load none (.t 9), none⟩, ⟨(some 11), .mv (.t 0), none⟩, ⟨(some 12), .call (.c (.fn 76 [])) [(.t 11)], none⟩, ⟨(some 13), .bslice 1 1 [(.str [])] [(0, 1, (.t 12))], none⟩, ⟨(some 14), .append 1 16 (.t 10) (.t 13), none⟩, ⟨(some 15), .faddr 0 (.t 3), none⟩, ⟨(some 16), .faddr 1 (.t 15), none⟩, ⟨none, .store 1 (.t 16) (.t 14), none⟩] [0, 1, 3, 0, 8, 24, 63, 127, 255, 511])))))))))))
 (.seq (.reg [⟨(some 105), .load (some 6) (.t 3), none⟩, ⟨none, .store 6 (.t 2) (.t 105), none⟩])
 .ret)))), [.cell 2 (some 6)]⟩
theorem c106 : compF Try.prog Try.f106 = some m106 := by kernel_rfl
def tab (f : FuncId) : Option MFunc :=
  (bif Nat.blt f 69 then (bif Nat.blt f 39 then (bif Nat.blt f 24 then (bif Nat.blt f 11 then (bif Nat.blt f 9 then (bif Nat.blt f 7 then (bif Nat.beq f 4 then some m4 else none) else (bif Nat.beq f 7 then some m7 else none)) else (bif Nat.blt f 10 then (bif Nat.beq f 9 then some m9 else none) else (bif Nat.beq f 10 then some m10 else none))) else (bif Nat.blt f 19 then (bif Nat.blt f 15 then (bif Nat.beq f 11 then some m11 else none) else (bif Nat.beq f 15 then some m15 else none)) else (bif Nat.blt f 20 then (bif Nat.beq f 19 then some m19 else none) else (bif Nat.blt f 21 then (bif Nat.beq f 20 then some m20 else none) else (bif Nat.beq f 21 then some m21 else none))))) else (bif Nat.blt f 34 then (bif Nat.blt f 26 then (bif Nat.blt f 25 then (bif Nat.beq f 24 then some m24 else none) else (bif Nat.beq f 25 then some m25 else none)) else (bif Nat.blt f 29 then (bif Nat.beq f 26 then some m26 else none) else (bif Nat.beq f 29 then some m29 else none))) else (bif Nat.blt f 36 then (bif Nat.blt f 35 then (bif Nat.beq f 34 then some m34 else none) else (bif Nat.beq f 35 then some m35 else none)) else (bif Nat.blt f 37 then (bif Nat.beq f 36 then some m36 else none) else (bif Nat.blt f 38 then (bif Nat.beq f 37 then some m37 else none) else (bif Nat.beq f 38 then some m38 else none)))))) else (bif Nat.blt f 53 then (bif Nat.blt f 48 then (bif Nat.blt f 43 then (bif Nat.blt f 42 then (bif Nat.beq f 39 then some m39 else none) else (bif Nat.beq f 42 then some m42 else none)) else (bif Nat.blt f 47 then (bif Nat.beq f 43 then some m43 else none) else (bif Nat.beq f 47 then some m47 else none))) else (bif Nat.blt f 50 then (bif Nat.blt f 49 then (bif Nat.beq f 48 then some m48 else none) else (bif Nat.beq f 49 then some m49 else none)) else (bif Nat.blt f 51 then (bif Nat.beq f 50 then some m50 else none) else (bif Nat.blt f 52 then (bif Nat.beq f 51 then some m51 else none) else (bif Nat.beq f 52 then some m52 else none))))) else (bif Nat.blt f 58 then (bif Nat.blt f 55 then (bif Nat.blt f 54 then (bif Nat.beq f 53 then some m53 else none) else (bif Nat.beq f 54 then some m54 else none)) else (bif Nat.blt f 56 then (bif Nat.beq f 55 then some m55 else none) else (bif Nat.blt f 57 then (bif Nat.beq f 56 then some m56 else none) else (bif Nat.beq f 57 then some m57 else none)))) else (bif Nat.blt f 60 then (bif Nat.blt f 59 then (bif Nat.beq f 58 then some m58 else none) else (bif Nat.beq f 59 then some m59 else none)) else (bif Nat.blt f 67 then (bif Nat.beq f 60 then some m60 else none) else (bif Nat.blt f 68 then (bif Nat.beq f 67 then some m67 else none) else (bif Nat.beq f 68 then some m68 else none))))))) else (bif Nat.blt f 88 then (bif Nat.blt f 78 then (bif Nat.blt f 73 then (bif Nat.blt f 71 then (bif Nat.blt f 70 then (bif Nat.beq f 69 then some m69 else none) else (bif Nat.beq f 70 then some m70 else none)) else (bif Nat.blt f 72 then (bif Nat.beq f 71 then some m71 else none) else (bif Nat.beq f 72 then some m72 else none))) else (bif Nat.blt f 75 then (bif Nat.blt f 74 then (bif Nat.beq f 73 then some m73 else none) else (bif Nat.beq f 74 then some m74 else none)) else (bif Nat.blt f 76 then (bif Nat.beq f 75 then some m75 else none) else (bif Nat.blt f 77 then (bif Nat.beq f 76 then some m76 else none) else (bif Nat.beq f 77 then some m77 else none))))) else (bif Nat.blt f 83 then (bif Nat.blt f 80 then (bif Nat.blt f 79 then (bif Nat.beq f 78 then some m78 else none) else (bif Nat.beq f 79 then some m79 else none)) else (bif Nat.blt f 81 then (bif Nat.beq f 80 then some m80 else none) else (bif Nat.blt f 82 then (bif Nat.beq f 81 then some m81 else none) else (bif Nat.beq f 82 then some m82 else none)))) else (bif Nat.blt f 85 then (bif Nat.blt f 84 then (bif Nat.beq f 83 then some m83 else none) else (bif Nat.beq f 84 then some m84 else none)) else (bif Nat.blt f 86 then (bif Nat.beq f 85 then some m85 else none) else (bif Nat.blt f 87 then (bif Nat.beq f 86 then some m86 else none) else (bif Nat.beq f 87 then some m87 else none)))))) else (bif Nat.blt f 97 then (bif Nat.blt f 92 then (bif Nat.blt f 90 then (bif Nat.blt f 89 then (bif Nat.beq f 88 then some m88 else none) else (bif Nat.beq f 89 then some m89 else none)) else (bif Nat.blt f 91 then (bif Nat.beq f 90 then some m90 else none) else (bif Nat.beq f 91 then some m91 else none))) else (bif Nat.blt f 94 then (bif Nat.blt f 93 then (bif Nat.beq f 92 then some m92 else none) else (bif Nat.beq f 93 then some m93 else none)) else (bif Nat.blt f 95 then (bif Nat.beq f 94 then some m94 else none) else (bif Nat.blt f 96 then (bif Nat.beq f 95 then some m95 else none) else (bif Nat.beq f 96 then some m96 else none))))) else (bif Nat.blt f 102 then (bif Nat.blt f 99 then (bif Nat.blt f 98 then (bif Nat.beq f 97 then some m97 else none) else (bif Nat.beq f 98 then some m98 else none)) else (bif Nat.blt f 100 then (bif Nat.beq f 99 then some m99 else none) else (bif Nat.blt f 101 then (bif Nat.beq f 100 then some m100 else none) else (bif Nat.beq f 101 then some m101 else none)))) else (bif Nat.blt f 104 then (bif Nat.blt f 103 then (bif Nat.beq f 102 then some m102 else none) else (bif Nat.beq f 103 then some m103 else none)) else (bif Nat.blt f 105 then (bif Nat.beq f 104 then some m104 else none) else (bif Nat.blt f 106 then (bif Nat.beq f 105 then some m105 else none) else (bif Nat.beq f 106 then some m106 else none))))))))
theorem tab_ok (f : FuncId) (m : MFunc) (h : tab f = some m) : ∃ fn, Try.prog.funcs[f]? = some fn ∧ compF Try.prog fn = some m :=
  tab_node h (fun h => tab_node h (fun h => tab_node h (fun h => tab_node h (fun h => tab_node h (fun h => tab_node h (fun h => tab_leaf h Try.func4 c4) (fun h => tab_leaf h Try.func7 c7)) (fun h => tab_node h (fun h => tab_leaf h Try.func9 c9) (fun h => tab_leaf h Try.func10 c10))) (fun h => tab_node h (fun h => tab_node h (fun h => tab_leaf h Try.func11 c11) (fun h => tab_leaf h Try.func15 c15)) (fun h => tab_node h (fun h => tab_leaf h Try.func19 c19) (fun h => tab_node h (fun h => tab_leaf h Try.func20 c20) (fun h => tab_leaf h Try.func21 c21))))) (fun h => tab_node h (fun h => tab_node h (fun h => tab_node h (fun h => tab_leaf h Try.func24 c24) (fun h => tab_leaf h Try.func25 c25)) (fun h => tab_node h (fun h => tab_leaf h Try.func26 c26) (fun h => tab_leaf h Try.func29 c29))) (fun h => tab_node h (fun h => tab_node h (fun h => tab_leaf h Try.func34 c34) (fun h => tab_leaf h Try.func35 c35)) (fun h => tab_node h (fun h => tab_leaf h Try.func36 c36) (fun h => tab_node h (fun h => tab_leaf h Try.func37 c37) (fun h => tab_leaf h Try.func38 c38)))))) (fun h => tab_node h (fun h => tab_node h (fun h => tab_node h (fun h => tab_node h (fun h => tab_leaf h Try.func39 c39) (fun h => tab_leaf h Try.func42 c42)) (fun h => tab_node h (fun h => tab_leaf h Try.func43 c43) (fun h => tab_leaf h Try.func47 c47))) (fun h => tab_node h (fun h => tab_node h (fun h => tab_leaf h Try.func48 c48) (fun h => tab_leaf h Try.func49 c49)) (fun h => tab_node h (fun h => tab_leaf h Try.func50 c50) (fun h => tab_node h (fun h => tab_leaf h Try.func51 c51) (fun h => tab_leaf h Try.func52 c52))))) (fun h => tab_node h (fun h => tab_node h (fun h => tab_node h (fun h => tab_leaf h Try.func53 c53) (fun h => tab_leaf h Try.func54 c54)) (fun h => tab_node h (fun h => tab_leaf h Try.func55 c55) (fun h => tab_node h (fun h => tab_leaf h Try.func56 c56) (fun h => tab_leaf h Try.func57 c57)))) (fun h => tab_node h (fun h => tab_node h (fun h => tab_leaf h Try.func58 c58) (fun h => tab_leaf h Try.func59 c59)) (fun h => tab_node h (fun h => tab_leaf h Try.func60 c60) (fun h => tab_node h (fun h => tab_leaf h Try.func67 c67) (fun h => tab_leaf h Try.func68 c68))))))) (fun h => tab_node h (fun h => tab_node h (fun h => tab_node h (fun h => tab_node h (fun h => tab_node h (fun h => tab_leaf h Try.func69 c69) (fun h => tab_leaf h Try.func70 c70)) (fun h => tab_node h (fun h => tab_leaf h Try.func71 c71) (fun h => tab_leaf h Try.func72 c72))) (fun h => tab_node h (fun h => tab_node h (fun h => tab_leaf h Try.func73 c73) (fun h => tab_leaf h Try.func74 c74)) (fun h => tab_node h (fun h => tab_leaf h Try.func75 c75) (fun h => tab_node h (fun h => tab_leaf h Try.func76 c76) (fun h => tab_leaf h Try.func77 c77))))) (fun h => tab_node h (fun h => tab_node h (fun h => tab_node h (fun h => tab_leaf h Try.func78 c78) (fun h => tab_leaf h Try.func79 c79)) (fun h => tab_node h (fun h => tab_leaf h Try.func80 c80) (fun h => tab_node h (fun h => tab_leaf h Try.func81 c81) (fun h => tab_leaf h Try.func82 c82)))) (fun h => tab_node h (fun h => tab_node h (fun h => tab_leaf h Try.func83 c83) (fun h => tab_leaf h Try.func84 c84)) (fun h => tab_node h (fun h => tab_leaf h Try.func85 c85) (fun h => tab_node h (fun h => tab_leaf h Try.func86 c86) (fun h => tab_leaf h Try.func87 c87)))))) (fun h => tab_node h (fun h => tab_node h (fun h => tab_node h (fun h => tab_node h (fun h => tab_leaf h Try.func88 c88) (fun h => tab_leaf h Try.func89 c89)) (fun h => tab_node h (fun h => tab_leaf h Try.func90 c90) (fun h => tab_leaf h Try.func91 c91))) (fun h => tab_node h (fun h => tab_node h (fun h => tab_leaf h Try.func92 c92) (fun h => tab_leaf h Try.func93 c93)) (fun h => tab_node h (fun h => tab_leaf h Try.func94 c94) (fun h => tab_node h (fun h => tab_leaf h Try.func95 c95) (fun h => tab_leaf h Try.func96 c96))))) (fun h => tab_node h (fun h => tab_node h (fun h => tab_node h (fun h => tab_leaf h Try.func97 c97) (fun h => tab_leaf h Try.func98 c98)) (fun h => tab_node h (fun h => tab_leaf h Try.func99 c99) (fun h => tab_node h (fun h => tab_leaf h Try.func100 c100) (fun h => tab_leaf h Try.func101 c101)))) (fun h => tab_node h (fun h => tab_node h (fun h => tab_leaf h Try.func102 c102) (fun h => tab_leaf h Try.func103 c103)) (fun h => tab_node h (fun h => tab_leaf h Try.func104 c104) (fun h => tab_node h (fun h => tab_leaf h Try.func105 c105) (fun h => tab_leaf h Try.func106 c106)))))))
end Go.Proofs.Ytgcehfooibpccaa.Code
