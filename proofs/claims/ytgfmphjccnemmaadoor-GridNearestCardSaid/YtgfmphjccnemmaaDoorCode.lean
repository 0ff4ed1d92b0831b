/- The small code of functions of this program, printed by wip/tools/MiniShow.lean, with the fact that it is theirs. -/
import Derived.Test.YtgfmphjccnemmaaDoorMiniV
import Derived.Test.YtgfmphjccnemmaaDoorProg
namespace Go.Proofs.YtgfmphjccnemmaaDoor.Code
open Go.Mini
set_option maxRecDepth 100000

/-- dynamo/dynamolaw21.SafeMore -/
def c3 : MC :=
  (.seq (.ops [⟨(some 5), .box (.t 0), none⟩, ⟨(some 6), .box (.t 1), none⟩, ⟨(some 10), .mv (.c (.bool false)), none⟩])
  (.seq (.seq (.ops [⟨(some 19), .call 15 [], none⟩, ⟨(some 20), .not (.t 19), none⟩, ⟨(some 21), .mv (.t 20), none⟩, ⟨(some 22), .loadN 3 (.t 5), (some (21, false))⟩, ⟨(some 23), .call 16 [(.t 22)], (some (21, false))⟩, ⟨(some 24), .not (.t 23), (some (21, false))⟩, ⟨(some 25), .pick (.t 21) (.c (.bool true)) (.t 24), none⟩])
  (.cond (.t 25) (.seq (.ops [⟨(some 26), .call 15 [], none⟩, ⟨(some 10), .mv (.t 26), none⟩])
  .ret) .skip))
  (.seq (.ops [⟨(some 27), .loadN 3 (.t 5), none⟩, ⟨(some 28), .call 17 [(.t 27)], none⟩, ⟨(some 11), .alloc [(.int .i64 0), (.int .i64 0), (.string ⟨#[]⟩)], none⟩, ⟨none, .store 3 (.t 11) (.t 28), none⟩])
  (.seq (.dops [⟨⟨(some 29), .loadN 3 (.t 11), none⟩, 0, false, false⟩, ⟨⟨(some 30), .loadN 8 (.t 6), none⟩, 1, false, false⟩, ⟨⟨(some 32), .loadN 3 (.t 11), none⟩, 3, false, false⟩, ⟨⟨(some 33), .bld [(.int .u8 0), (.int .u8 0), (.int .u8 0), (.int .u8 0), (.int .u8 0), (.int .u8 0), (.int .u8 0), (.int .u8 0)] [], none⟩, 4, false, false⟩, ⟨⟨(some 31), .call 18 [(.t 29), (.t 30)], none⟩, 2, true, true⟩, ⟨⟨(some 34), .call 18 [(.t 32), (.t 33)], none⟩, 5, true, false⟩, ⟨⟨(some 12), .mv (.t 31), none⟩, 6, false, false⟩, ⟨⟨(some 13), .mv (.t 34), none⟩, 7, false, false⟩])
  (.seq (.ops [⟨(some 35), .mv (.t 2), none⟩, ⟨(some 36), .conv .i64 (.t 35), none⟩, ⟨(some 37), .fadd 2 (.t 5), none⟩, ⟨(some 38), .load1 (.t 37), none⟩, ⟨(some 39), .len true (.t 38), none⟩, ⟨(some 40), .bin .rem (.t 36) (.t 39), none⟩, ⟨(some 14), .mv (.t 40), none⟩])
  (.seq (.ops [⟨(some 42), .loadN 3 (.t 11), none⟩, ⟨(some 43), .mv (.t 12), none⟩, ⟨(some 44), .mv (.t 14), none⟩, ⟨(some 45), .call 19 [(.t 42), (.t 43), (.t 44), (.c (.int .i64 2))], none⟩, ⟨(some 41), .mv (.t 45), none⟩, ⟨(some 46), .ext (.t 41) 0, none⟩, ⟨(some 47), .ext (.t 41) 1, none⟩, ⟨(some 15), .mv (.t 46), none⟩, ⟨(some 16), .mv (.t 47), none⟩])
  (.seq (.ops [⟨(some 49), .loadN 3 (.t 11), none⟩, ⟨(some 50), .mv (.t 13), none⟩, ⟨(some 51), .mv (.t 14), none⟩, ⟨(some 52), .call 19 [(.t 49), (.t 50), (.t 51), (.c (.int .i64 2))], none⟩, ⟨(some 48), .mv (.t 52), none⟩, ⟨(some 53), .ext (.t 48) 0, none⟩, ⟨(some 54), .ext (.t 48) 1, none⟩, ⟨(some 17), .mv (.t 53), none⟩, ⟨(some 18), .mv (.t 54), none⟩])
  (.seq (.seq (.ops [⟨(some 55), .mv (.t 16), none⟩, ⟨(some 56), .mv (.t 55), none⟩, ⟨(some 57), .mv (.t 18), (some (56, true))⟩, ⟨(some 58), .not (.t 57), (some (56, true))⟩, ⟨(some 59), .mv (.t 58), (some (56, true))⟩, ⟨(some 60), .mv (.t 17), (some (59, false))⟩, ⟨(some 61), .mv (.t 15), (some (59, false))⟩, ⟨(some 62), .bin .gtr (.t 60) (.t 61), (some (59, false))⟩, ⟨(some 63), .pick (.t 59) (.c (.bool true)) (.t 62), (some (56, true))⟩, ⟨(some 64), .pick (.t 56) (.t 63) (.c (.bool false)), none⟩, ⟨(some 65), .mv (.t 64), none⟩, ⟨(some 66), .mv (.t 12), (some (65, false))⟩, ⟨(some 67), .len false (.t 66), (some (65, false))⟩, ⟨(some 68), .mv (.t 13), (some (65, false))⟩, ⟨(some 69), .len false (.t 68), (some (65, false))⟩, ⟨(some 70), .bin .gtr (.t 67) (.t 69), (some (65, false))⟩, ⟨(some 71), .pick (.t 65) (.c (.bool true)) (.t 70), none⟩])
  (.cond (.t 71) (.seq (.ops [⟨(some 10), .mv (.c (.bool false)), none⟩])
  .ret) .skip))
  (.seq (.ops [⟨(some 72), .loadN 3 (.t 11), none⟩, ⟨(some 73), .mv (.t 12), none⟩, ⟨(some 74), .mv (.t 14), none⟩, ⟨(some 75), .mv (.t 3), none⟩, ⟨(some 76), .conv .i64 (.t 75), none⟩, ⟨(some 77), .call 20 [(.t 72), (.t 73), (.t 74), (.t 76), (.c (.int .i64 2))], none⟩, ⟨(some 78), .not (.t 77), none⟩, ⟨(some 79), .mv (.t 78), none⟩, ⟨(some 80), .loadN 3 (.t 11), (some (79, false))⟩, ⟨(some 81), .mv (.t 12), (some (79, false))⟩, ⟨(some 82), .mv (.t 14), (some (79, false))⟩, ⟨(some 83), .mv (.t 3), (some (79, false))⟩, ⟨(some 84), .conv .i64 (.t 83), (some (79, false))⟩, ⟨(some 85), .mv (.t 4), (some (79, false))⟩, ⟨(some 86), .conv .i64 (.t 85), (some (79, false))⟩, ⟨(some 87), .bin .add (.t 84) (.t 86), (some (79, false))⟩, ⟨(some 88), .call 20 [(.t 80), (.t 81), (.t 82), (.t 87), (.c (.int .i64 2))], (some (79, false))⟩, ⟨(some 89), .mv (.t 88), (some (79, false))⟩, ⟨(some 90), .loadN 3 (.t 11), (some (89, true))⟩, ⟨(some 91), .mv (.t 13), (some (89, true))⟩, ⟨(some 92), .mv (.t 14), (some (89, true))⟩, ⟨(some 93), .mv (.t 3), (some (89, true))⟩, ⟨(some 94), .conv .i64 (.t 93), (some (89, true))⟩, ⟨(some 95), .call 20 [(.t 90), (.t 91), (.t 92), (.t 94), (.c (.int .i64 2))], (some (89, true))⟩, ⟨(some 96), .pick (.t 89) (.t 95) (.c (.bool false)), (some (79, false))⟩, ⟨(some 97), .pick (.t 79) (.c (.bool true)) (.t 96), none⟩, ⟨(some 10), .mv (.t 97), none⟩])
  .ret)))))))))
def r3 : List RV := [.t 10]
theorem fn3 : cFn Tryd.prog 3 = some (c3, r3, 98) := by kernel_rfl

/-- dynamo/dynamolaw21.SafeOns -/
def c4 : MC :=
  (.seq (.ops [⟨(some 4), .box (.t 0), none⟩, ⟨(some 5), .box (.t 1), none⟩, ⟨(some 8), .mv (.c (.bool false)), none⟩])
  (.seq (.seq (.ops [⟨(some 14), .call 15 [], none⟩, ⟨(some 15), .not (.t 14), none⟩, ⟨(some 16), .mv (.t 15), none⟩, ⟨(some 17), .fadd 2 (.t 4), (some (16, false))⟩, ⟨(some 18), .load1 (.t 17), (some (16, false))⟩, ⟨(some 19), .len true (.t 18), (some (16, false))⟩, ⟨(some 20), .bin .gtr (.t 19) (.c (.int .i64 200)), (some (16, false))⟩, ⟨(some 21), .pick (.t 16) (.c (.bool true)) (.t 20), none⟩])
  (.cond (.t 21) (.seq (.ops [⟨(some 22), .call 15 [], none⟩, ⟨(some 8), .mv (.t 22), none⟩])
  .ret) .skip))
  (.seq (.dops [⟨⟨(some 23), .loadN 3 (.t 4), none⟩, 0, false, false⟩, ⟨⟨(some 25), .loadN 8 (.t 5), none⟩, 2, false, false⟩, ⟨⟨(some 24), .call 17 [(.t 23)], none⟩, 1, true, true⟩, ⟨⟨(some 26), .call 18 [(.t 24), (.t 25)], none⟩, 3, true, false⟩, ⟨⟨(some 9), .mv (.t 26), none⟩, 4, false, false⟩])
  (.seq (.ops [⟨(some 10), .mv (.c (.slice none 0 0)), none⟩])
  (.seq (.seq (.ops [⟨(some 27), .loadN 3 (.t 4), none⟩, ⟨(some 28), .call 16 [(.t 27)], none⟩])
  (.cond (.t 28) (.ops [⟨(some 29), .loadN 3 (.t 4), none⟩, ⟨(some 30), .loadN 8 (.t 5), none⟩, ⟨(some 31), .call 21 [(.t 29), (.t 30)], none⟩, ⟨(some 10), .mv (.t 31), none⟩]) .skip))
  (.seq (.seq (.ops [⟨(some 11), .mv (.c (.int .i64 0)), none⟩])
  (.block 0 (.loop (.seq (.seq (.ops [⟨(some 32), .mv (.t 11), none⟩, ⟨(some 33), .mv (.t 10), none⟩, ⟨(some 34), .len false (.t 33), none⟩, ⟨(some 35), .bin .lss (.t 32) (.t 34), none⟩])
  (.cond (.t 35) .skip (.exit 0)))
  (.seq (.block 1 (.seq (.dops [⟨⟨(some 38), .mv (.t 9), none⟩, 0, false, false⟩, ⟨⟨(some 39), .len false (.t 38), none⟩, 1, false, false⟩, ⟨⟨(some 40), .mv (.t 10), none⟩, 2, false, false⟩, ⟨⟨(some 41), .len false (.t 40), none⟩, 3, false, false⟩, ⟨⟨(some 42), .bin .neq (.t 39) (.t 41), none⟩, 4, false, false⟩, ⟨⟨(some 43), .mv (.t 42), none⟩, 5, false, false⟩, ⟨⟨(some 44), .mv (.t 9), (some (43, false))⟩, 6, false, false⟩, ⟨⟨(some 45), .mv (.t 11), (some (43, false))⟩, 7, false, false⟩, ⟨⟨(some 46), .iaS 1 (.t 44) (.t 45), (some (43, false))⟩, 8, false, false⟩, ⟨⟨(some 47), .load1 (.t 46), (some (43, false))⟩, 9, false, false⟩, ⟨⟨(some 48), .mv (.t 10), (some (43, false))⟩, 10, false, false⟩, ⟨⟨(some 49), .mv (.t 11), (some (43, false))⟩, 11, false, false⟩, ⟨⟨(some 50), .iaS 1 (.t 48) (.t 49), (some (43, false))⟩, 12, false, false⟩, ⟨⟨(some 51), .load1 (.t 50), (some (43, false))⟩, 13, false, false⟩, ⟨⟨(some 52), .bin .neq (.t 47) (.t 51), (some (43, false))⟩, 14, false, false⟩, ⟨⟨(some 53), .pick (.t 43) (.c (.bool true)) (.t 52), none⟩, 15, false, false⟩])
  (.cond (.t 53) (.seq (.ops [⟨(some 8), .mv (.c (.bool false)), none⟩])
  .ret) .skip)))
  (.ops [⟨(some 36), .mv (.t 11), none⟩, ⟨(some 37), .bin .add (.t 36) (.c (.int .i64 1)), none⟩, ⟨(some 11), .mv (.t 37), none⟩]))))))
  (.seq (.ops [⟨(some 54), .loadN 8 (.t 5), none⟩, ⟨(some 55), .mv (.t 2), none⟩, ⟨(some 56), .mv (.t 3), none⟩, ⟨(some 57), .call 22 [(.t 54), (.t 55), (.t 56)], none⟩, ⟨(some 12), .alloc [(.int .u8 0), (.int .u8 0), (.int .u8 0), (.int .u8 0), (.int .u8 0), (.int .u8 0), (.int .u8 0), (.int .u8 0)], none⟩, ⟨none, .store 8 (.t 12) (.t 57), none⟩])
  (.seq (.seq (.ops [⟨(some 13), .mv (.c (.int .i64 0)), none⟩])
  (.block 2 (.loop (.seq (.seq (.ops [⟨(some 58), .mv (.t 13), none⟩, ⟨(some 59), .bin .lss (.t 58) (.c (.int .i64 64)), none⟩])
  (.cond (.t 59) .skip (.exit 2)))
  (.seq (.block 3 (.seq (.dops [⟨⟨(some 62), .mv (.t 13), none⟩, 0, false, false⟩, ⟨⟨(some 63), .mv (.t 2), none⟩, 1, false, false⟩, ⟨⟨(some 64), .bin .eql (.t 62) (.t 63), none⟩, 2, false, false⟩, ⟨⟨(some 65), .mv (.t 64), none⟩, 3, false, false⟩, ⟨⟨(some 66), .loadN 8 (.t 12), (some (65, true))⟩, 4, false, false⟩, ⟨⟨(some 67), .mv (.t 13), (some (65, true))⟩, 5, false, false⟩, ⟨⟨(some 69), .mv (.t 3), (some (65, true))⟩, 7, false, false⟩, ⟨⟨(some 68), .call 23 [(.t 66), (.t 67)], (some (65, true))⟩, 6, true, false⟩, ⟨⟨(some 70), .eqB true (.t 68) (.t 69), (some (65, true))⟩, 8, false, false⟩, ⟨⟨(some 71), .pick (.t 65) (.t 70) (.c (.bool false)), none⟩, 9, false, false⟩, ⟨⟨(some 72), .mv (.t 71), none⟩, 10, false, false⟩, ⟨⟨(some 73), .mv (.t 13), (some (72, false))⟩, 11, false, false⟩, ⟨⟨(some 74), .mv (.t 2), (some (72, false))⟩, 12, false, false⟩, ⟨⟨(some 75), .bin .neq (.t 73) (.t 74), (some (72, false))⟩, 13, false, false⟩, ⟨⟨(some 76), .mv (.t 75), (some (72, false))⟩, 14, false, false⟩, ⟨⟨(some 77), .loadN 8 (.t 12), (some (76, true))⟩, 15, false, false⟩, ⟨⟨(some 78), .mv (.t 13), (some (76, true))⟩, 16, false, false⟩, ⟨⟨(some 80), .loadN 8 (.t 5), (some (76, true))⟩, 18, false, false⟩, ⟨⟨(some 81), .mv (.t 13), (some (76, true))⟩, 19, false, false⟩, ⟨⟨(some 79), .call 23 [(.t 77), (.t 78)], (some (76, true))⟩, 17, true, true⟩, ⟨⟨(some 82), .call 23 [(.t 80), (.t 81)], (some (76, true))⟩, 20, true, false⟩, ⟨⟨(some 83), .eqB true (.t 79) (.t 82), (some (76, true))⟩, 21, false, false⟩, ⟨⟨(some 84), .pick (.t 76) (.t 83) (.c (.bool false)), (some (72, false))⟩, 22, false, false⟩, ⟨⟨(some 85), .pick (.t 72) (.c (.bool true)) (.t 84), none⟩, 23, false, false⟩])
  (.cond (.t 85) (.seq (.ops [⟨(some 8), .mv (.c (.bool false)), none⟩])
  .ret) .skip)))
  (.ops [⟨(some 60), .mv (.t 13), none⟩, ⟨(some 61), .bin .add (.t 60) (.c (.int .i64 1)), none⟩, ⟨(some 13), .mv (.t 61), none⟩]))))))
  (.seq (.ops [⟨(some 86), .mv (.t 9), none⟩, ⟨(some 87), .len false (.t 86), none⟩, ⟨(some 88), .mv (.t 10), none⟩, ⟨(some 89), .len false (.t 88), none⟩, ⟨(some 90), .bin .eql (.t 87) (.t 89), none⟩, ⟨(some 8), .mv (.t 90), none⟩])
  .ret)))))))))
def r4 : List RV := [.t 8]
theorem fn4 : cFn Tryd.prog 4 = some (c4, r4, 91) := by kernel_rfl

/-- dynamo/dynamolaw21.SafeTurns -/
def c5 : MC :=
  (.seq (.ops [⟨(some 3), .box (.t 0), none⟩, ⟨(some 6), .mv (.c (.bool false)), none⟩])
  (.seq (.ops [⟨(some 13), .mv (.t 1), none⟩, ⟨(some 14), .conv .i64 (.t 13), none⟩, ⟨(some 15), .bin .rem (.t 14) (.c (.int .i64 64)), none⟩, ⟨(some 16), .mv (.t 2), none⟩, ⟨(some 17), .conv .i64 (.t 16), none⟩, ⟨(some 18), .bin .rem (.t 17) (.c (.int .i64 64)), none⟩, ⟨(some 7), .mv (.t 15), none⟩, ⟨(some 8), .mv (.t 18), none⟩])
  (.seq (.ops [⟨(some 19), .loadN 8 (.t 3), none⟩, ⟨(some 20), .mv (.t 7), none⟩, ⟨(some 21), .call 22 [(.t 19), (.t 20), (.c (.bool true))], none⟩, ⟨(some 9), .alloc [(.int .u8 0), (.int .u8 0), (.int .u8 0), (.int .u8 0), (.int .u8 0), (.int .u8 0), (.int .u8 0), (.int .u8 0)], none⟩, ⟨none, .store 8 (.t 9) (.t 21), none⟩])
  (.seq (.ops [⟨(some 22), .loadN 8 (.t 9), none⟩, ⟨(some 23), .mv (.t 7), none⟩, ⟨(some 24), .call 22 [(.t 22), (.t 23), (.c (.bool false))], none⟩, ⟨(some 10), .alloc [(.int .u8 0), (.int .u8 0), (.int .u8 0), (.int .u8 0), (.int .u8 0), (.int .u8 0), (.int .u8 0), (.int .u8 0)], none⟩, ⟨none, .store 8 (.t 10) (.t 24), none⟩])
  (.seq (.ops [⟨(some 25), .loadN 8 (.t 3), none⟩, ⟨(some 26), .mv (.t 7), none⟩, ⟨(some 27), .call 22 [(.t 25), (.t 26), (.c (.bool true))], none⟩, ⟨(some 28), .mv (.t 8), none⟩, ⟨(some 29), .call 22 [(.t 27), (.t 28), (.c (.bool false))], none⟩, ⟨(some 11), .alloc [(.int .u8 0), (.int .u8 0), (.int .u8 0), (.int .u8 0), (.int .u8 0), (.int .u8 0), (.int .u8 0), (.int .u8 0)], none⟩, ⟨none, .store 8 (.t 11) (.t 29), none⟩])
  (.seq (.ops [⟨(some 30), .loadN 8 (.t 3), none⟩, ⟨(some 31), .mv (.t 8), none⟩, ⟨(some 32), .call 22 [(.t 30), (.t 31), (.c (.bool false))], none⟩, ⟨(some 33), .mv (.t 7), none⟩, ⟨(some 34), .call 22 [(.t 32), (.t 33), (.c (.bool true))], none⟩, ⟨(some 12), .alloc [(.int .u8 0), (.int .u8 0), (.int .u8 0), (.int .u8 0), (.int .u8 0), (.int .u8 0), (.int .u8 0), (.int .u8 0)], none⟩, ⟨none, .store 8 (.t 12) (.t 34), none⟩])
  (.seq (.dops [⟨⟨(some 35), .call 15 [], none⟩, 0, true, false⟩, ⟨⟨(some 36), .mv (.t 35), none⟩, 1, false, false⟩, ⟨⟨(some 37), .loadN 8 (.t 10), (some (36, true))⟩, 2, false, false⟩, ⟨⟨(some 38), .mv (.t 7), (some (36, true))⟩, 3, false, false⟩, ⟨⟨(some 40), .loadN 8 (.t 9), (some (36, true))⟩, 5, false, false⟩, ⟨⟨(some 39), .call 22 [(.t 37), (.t 38), (.c (.bool true))], (some (36, true))⟩, 4, true, true⟩, ⟨⟨(some 41), .eqA false [.int, .int, .int, .int, .int, .int, .int, .int] (.t 39) (.t 40), (some (36, true))⟩, 6, false, false⟩, ⟨⟨(some 42), .pick (.t 36) (.t 41) (.c (.bool false)), none⟩, 7, false, false⟩, ⟨⟨(some 43), .mv (.t 42), none⟩, 8, false, false⟩, ⟨⟨(some 44), .loadN 8 (.t 9), (some (43, true))⟩, 9, false, false⟩, ⟨⟨(some 45), .mv (.t 7), (some (43, true))⟩, 10, false, false⟩, ⟨⟨(some 47), .loadN 8 (.t 9), (some (43, true))⟩, 12, false, false⟩, ⟨⟨(some 46), .call 22 [(.t 44), (.t 45), (.c (.bool true))], (some (43, true))⟩, 11, true, true⟩, ⟨⟨(some 48), .eqA false [.int, .int, .int, .int, .int, .int, .int, .int] (.t 46) (.t 47), (some (43, true))⟩, 13, false, false⟩, ⟨⟨(some 49), .pick (.t 43) (.t 48) (.c (.bool false)), none⟩, 14, false, false⟩, ⟨⟨(some 50), .mv (.t 49), none⟩, 15, false, false⟩, ⟨⟨(some 51), .mv (.t 7), (some (50, true))⟩, 16, false, false⟩, ⟨⟨(some 52), .mv (.t 8), (some (50, true))⟩, 17, false, false⟩, ⟨⟨(some 53), .bin .eql (.t 51) (.t 52), (some (50, true))⟩, 18, false, false⟩, ⟨⟨(some 54), .mv (.t 53), (some (50, true))⟩, 19, false, false⟩, ⟨⟨(some 55), .loadN 8 (.t 11), (some (54, false))⟩, 20, false, false⟩, ⟨⟨(some 56), .loadN 8 (.t 12), (some (54, false))⟩, 21, false, false⟩, ⟨⟨(some 57), .eqA false [.int, .int, .int, .int, .int, .int, .int, .int] (.t 55) (.t 56), (some (54, false))⟩, 22, false, false⟩, ⟨⟨(some 58), .pick (.t 54) (.c (.bool true)) (.t 57), (some (50, true))⟩, 23, false, false⟩, ⟨⟨(some 59), .pick (.t 50) (.t 58) (.c (.bool false)), none⟩, 24, false, false⟩, ⟨⟨(some 6), .mv (.t 59), none⟩, 25, false, false⟩])
  .ret)))))))
def r5 : List RV := [.t 6]
theorem fn5 : cFn Tryd.prog 5 = some (c5, r5, 60) := by kernel_rfl

/-- dynamo/dynamolaw21.SafeHere -/
def c6 : MC :=
  (.seq (.ops [⟨(some 3), .box (.t 0), none⟩, ⟨(some 4), .box (.t 1), none⟩, ⟨(some 6), .mv (.c (.bool false)), none⟩])
  (.seq (.seq (.ops [⟨(some 14), .call 15 [], none⟩, ⟨(some 15), .not (.t 14), none⟩, ⟨(some 16), .mv (.t 15), none⟩, ⟨(some 17), .loadN 3 (.t 3), (some (16, false))⟩, ⟨(some 18), .call 16 [(.t 17)], (some (16, false))⟩, ⟨(some 19), .not (.t 18), (some (16, false))⟩, ⟨(some 20), .pick (.t 16) (.c (.bool true)) (.t 19), none⟩])
  (.cond (.t 20) (.seq (.ops [⟨(some 21), .call 15 [], none⟩, ⟨(some 6), .mv (.t 21), none⟩])
  .ret) .skip))
  (.seq (.ops [⟨(some 22), .loadN 3 (.t 3), none⟩, ⟨(some 23), .call 17 [(.t 22)], none⟩, ⟨(some 7), .alloc [(.int .i64 0), (.int .i64 0), (.string ⟨#[]⟩)], none⟩, ⟨none, .store 3 (.t 7) (.t 23), none⟩])
  (.seq (.ops [⟨(some 24), .loadN 3 (.t 7), none⟩, ⟨(some 25), .loadN 8 (.t 4), none⟩, ⟨(some 26), .call 18 [(.t 24), (.t 25)], none⟩, ⟨(some 8), .mv (.t 26), none⟩])
  (.seq (.seq (.ops [⟨(some 9), .mv (.c (.int .i64 0)), none⟩])
  (.block 0 (.loop (.seq (.seq (.ops [⟨(some 27), .mv (.t 9), none⟩, ⟨(some 28), .mv (.t 8), none⟩, ⟨(some 29), .len false (.t 28), none⟩, ⟨(some 30), .bin .lss (.t 27) (.t 29), none⟩])
  (.cond (.t 30) .skip (.exit 0)))
  (.seq (.block 1 (.seq (.dops [⟨⟨(some 34), .loadN 3 (.t 7), none⟩, 0, false, false⟩, ⟨⟨(some 35), .mv (.t 8), none⟩, 1, false, false⟩, ⟨⟨(some 36), .mv (.t 8), none⟩, 2, false, false⟩, ⟨⟨(some 37), .mv (.t 9), none⟩, 3, false, false⟩, ⟨⟨(some 38), .iaS 1 (.t 36) (.t 37), none⟩, 4, false, false⟩, ⟨⟨(some 39), .load1 (.t 38), none⟩, 5, false, false⟩, ⟨⟨(some 40), .call 19 [(.t 34), (.t 35), (.t 39), (.c (.int .i64 3))], none⟩, 6, true, false⟩, ⟨⟨(some 33), .mv (.t 40), none⟩, 7, false, false⟩, ⟨⟨(some 41), .ext (.t 33) 0, none⟩, 8, false, false⟩, ⟨⟨(some 42), .ext (.t 33) 1, none⟩, 9, false, false⟩, ⟨⟨(some 10), .mv (.t 41), none⟩, 10, false, false⟩, ⟨⟨(some 11), .mv (.t 42), none⟩, 11, false, false⟩])
  (.seq (.dops [⟨⟨(some 43), .mv (.t 10), none⟩, 0, false, false⟩, ⟨⟨(some 44), .bin .neq (.t 43) (.c (.int .i64 0)), none⟩, 1, false, false⟩, ⟨⟨(some 45), .mv (.t 44), none⟩, 2, false, false⟩, ⟨⟨(some 46), .mv (.t 11), (some (45, false))⟩, 3, false, false⟩, ⟨⟨(some 47), .not (.t 46), (some (45, false))⟩, 4, false, false⟩, ⟨⟨(some 48), .pick (.t 45) (.c (.bool true)) (.t 47), none⟩, 5, false, false⟩, ⟨⟨(some 49), .mv (.t 48), none⟩, 6, false, false⟩, ⟨⟨(some 50), .loadN 3 (.t 7), (some (49, false))⟩, 7, false, false⟩, ⟨⟨(some 51), .mv (.t 8), (some (49, false))⟩, 8, false, false⟩, ⟨⟨(some 52), .mv (.t 8), (some (49, false))⟩, 9, false, false⟩, ⟨⟨(some 53), .mv (.t 9), (some (49, false))⟩, 10, false, false⟩, ⟨⟨(some 54), .iaS 1 (.t 52) (.t 53), (some (49, false))⟩, 11, false, false⟩, ⟨⟨(some 55), .load1 (.t 54), (some (49, false))⟩, 12, false, false⟩, ⟨⟨(some 56), .call 20 [(.t 50), (.t 51), (.t 55), (.c (.int .i64 0)), (.c (.int .i64 3))], (some (49, false))⟩, 13, true, false⟩, ⟨⟨(some 57), .not (.t 56), (some (49, false))⟩, 14, false, false⟩, ⟨⟨(some 58), .pick (.t 49) (.c (.bool true)) (.t 57), none⟩, 15, false, false⟩])
  (.cond (.t 58) (.seq (.ops [⟨(some 6), .mv (.c (.bool false)), none⟩])
  .ret) .skip))))
  (.ops [⟨(some 31), .mv (.t 9), none⟩, ⟨(some 32), .bin .add (.t 31) (.c (.int .i64 1)), none⟩, ⟨(some 9), .mv (.t 32), none⟩]))))))
  (.seq (.ops [⟨(some 12), .alloc [(.int .u8 0), (.int .u8 0), (.int .u8 0), (.int .u8 0), (.int .u8 0), (.int .u8 0), (.int .u8 0), (.int .u8 0)], none⟩])
  (.seq (.seq (.ops [⟨(some 13), .mv (.c (.int .i64 0)), none⟩])
  (.block 2 (.loop (.seq (.seq (.ops [⟨(some 59), .mv (.t 13), none⟩, ⟨(some 60), .bin .lss (.t 59) (.c (.int .i64 64)), none⟩])
  (.cond (.t 60) .skip (.exit 2)))
  (.seq (.block 3 (.ops [⟨(some 63), .loadN 8 (.t 12), none⟩, ⟨(some 64), .mv (.t 13), none⟩, ⟨(some 65), .call 22 [(.t 63), (.t 64), (.c (.bool true))], none⟩, ⟨none, .store 8 (.t 12) (.t 65), none⟩]))
  (.ops [⟨(some 61), .mv (.t 13), none⟩, ⟨(some 62), .bin .add (.t 61) (.c (.int .i64 1)), none⟩, ⟨(some 13), .mv (.t 62), none⟩]))))))
  (.seq (.dops [⟨⟨(some 66), .loadN 3 (.t 7), none⟩, 0, false, false⟩, ⟨⟨(some 67), .loadN 8 (.t 12), none⟩, 1, false, false⟩, ⟨⟨(some 68), .call 18 [(.t 66), (.t 67)], none⟩, 2, true, false⟩, ⟨⟨(some 69), .len false (.t 68), none⟩, 3, false, false⟩, ⟨⟨(some 70), .bin .eql (.t 69) (.c (.int .i64 0)), none⟩, 4, false, false⟩, ⟨⟨(some 71), .mv (.t 70), none⟩, 5, false, false⟩, ⟨⟨(some 72), .loadN 3 (.t 7), (some (71, true))⟩, 6, false, false⟩, ⟨⟨(some 73), .loadN 3 (.t 7), (some (71, true))⟩, 7, false, false⟩, ⟨⟨(some 74), .loadN 8 (.t 12), (some (71, true))⟩, 8, false, false⟩, ⟨⟨(some 76), .mv (.t 2), (some (71, true))⟩, 10, false, false⟩, ⟨⟨(some 77), .conv .i64 (.t 76), (some (71, true))⟩, 11, false, false⟩, ⟨⟨(some 78), .fadd 2 (.t 3), (some (71, true))⟩, 12, false, false⟩, ⟨⟨(some 79), .load1 (.t 78), (some (71, true))⟩, 13, false, false⟩, ⟨⟨(some 80), .len true (.t 79), (some (71, true))⟩, 14, false, false⟩, ⟨⟨(some 81), .bin .rem (.t 77) (.t 80), (some (71, true))⟩, 15, false, false⟩, ⟨⟨(some 75), .call 18 [(.t 73), (.t 74)], (some (71, true))⟩, 9, true, true⟩, ⟨⟨(some 82), .call 20 [(.t 72), (.t 75), (.t 81), (.c (.int .i64 200)), (.c (.int .i64 1))], (some (71, true))⟩, 16, true, false⟩, ⟨⟨(some 83), .not (.t 82), (some (71, true))⟩, 17, false, false⟩, ⟨⟨(some 84), .pick (.t 71) (.t 83) (.c (.bool false)), none⟩, 18, false, false⟩, ⟨⟨(some 6), .mv (.t 84), none⟩, 19, false, false⟩])
  .ret))))))))
def r6 : List RV := [.t 6]
theorem fn6 : cFn Tryd.prog 6 = some (c6, r6, 85) := by kernel_rfl

/-- dynamo/dynamolaw21.SafeNeeds -/
def c7 : MC :=
  (.seq (.ops [⟨(some 6), .box (.t 0), none⟩, ⟨(some 12), .mv (.c (.bool false)), none⟩])
  (.seq (.seq (.ops [⟨(some 19), .call 15 [], none⟩, ⟨(some 20), .not (.t 19), none⟩, ⟨(some 21), .mv (.t 20), none⟩, ⟨(some 22), .fadd 2 (.t 6), (some (21, false))⟩, ⟨(some 23), .load1 (.t 22), (some (21, false))⟩, ⟨(some 24), .len true (.t 23), (some (21, false))⟩, ⟨(some 25), .bin .gtr (.t 24) (.c (.int .i64 200)), (some (21, false))⟩, ⟨(some 26), .pick (.t 21) (.c (.bool true)) (.t 25), none⟩, ⟨(some 27), .mv (.t 26), none⟩, ⟨(some 28), .mv (.t 1), (some (27, false))⟩, ⟨(some 29), .len false (.t 28), (some (27, false))⟩, ⟨(some 30), .bin .gtr (.t 29) (.c (.int .i64 100)), (some (27, false))⟩, ⟨(some 31), .pick (.t 27) (.c (.bool true)) (.t 30), none⟩])
  (.cond (.t 31) (.seq (.ops [⟨(some 32), .call 15 [], none⟩, ⟨(some 12), .mv (.t 32), none⟩])
  .ret) .skip))
  (.seq (.ops [⟨(some 34), .loadN 3 (.t 6), none⟩, ⟨(some 35), .call 17 [(.t 34)], none⟩, ⟨(some 36), .mv (.t 1), none⟩, ⟨(some 37), .mv (.t 2), none⟩, ⟨(some 38), .mv (.t 5), none⟩, ⟨(some 39), .call 19 [(.t 35), (.t 36), (.t 37), (.t 38)], none⟩, ⟨(some 33), .mv (.t 39), none⟩, ⟨(some 40), .ext (.t 33) 0, none⟩, ⟨(some 41), .ext (.t 33) 1, none⟩, ⟨(some 13), .mv (.t 40), none⟩, ⟨(some 14), .mv (.t 41), none⟩])
  (.seq (.ops [⟨(some 42), .loadN 3 (.t 6), none⟩, ⟨(some 43), .mv (.t 1), none⟩, ⟨(some 44), .mv (.t 2), none⟩, ⟨(some 45), .mv (.t 5), none⟩, ⟨(some 46), .call 24 [(.t 42), (.t 43), (.t 44), (.t 45)], none⟩, ⟨(some 15), .mv (.t 46), none⟩])
  (.seq (.seq (.ops [⟨(some 47), .mv (.t 14), none⟩, ⟨(some 48), .mv (.t 15), none⟩, ⟨(some 49), .bin .geq (.t 48) (.c (.int .i64 0)), none⟩, ⟨(some 50), .eqB true (.t 47) (.t 49), none⟩, ⟨(some 51), .mv (.t 50), none⟩, ⟨(some 52), .mv (.t 14), (some (51, false))⟩, ⟨(some 53), .mv (.t 52), (some (51, false))⟩, ⟨(some 54), .mv (.t 13), (some (53, true))⟩, ⟨(some 55), .mv (.t 15), (some (53, true))⟩, ⟨(some 56), .bin .neq (.t 54) (.t 55), (some (53, true))⟩, ⟨(some 57), .pick (.t 53) (.t 56) (.c (.bool false)), (some (51, false))⟩, ⟨(some 58), .pick (.t 51) (.c (.bool true)) (.t 57), none⟩, ⟨(some 59), .mv (.t 58), none⟩, ⟨(some 60), .mv (.t 14), (some (59, false))⟩, ⟨(some 61), .not (.t 60), (some (59, false))⟩, ⟨(some 62), .mv (.t 61), (some (59, false))⟩, ⟨(some 63), .mv (.t 13), (some (62, true))⟩, ⟨(some 64), .bin .neq (.t 63) (.c (.int .i64 0)), (some (62, true))⟩, ⟨(some 65), .pick (.t 62) (.t 64) (.c (.bool false)), (some (59, false))⟩, ⟨(some 66), .pick (.t 59) (.c (.bool true)) (.t 65), none⟩, ⟨(some 67), .mv (.t 66), none⟩, ⟨(some 68), .loadN 3 (.t 6), (some (67, false))⟩, ⟨(some 69), .call 17 [(.t 68)], (some (67, false))⟩, ⟨(some 70), .mv (.t 1), (some (67, false))⟩, ⟨(some 71), .mv (.t 2), (some (67, false))⟩, ⟨(some 72), .mv (.t 4), (some (67, false))⟩, ⟨(some 73), .mv (.t 5), (some (67, false))⟩, ⟨(some 74), .call 20 [(.t 69), (.t 70), (.t 71), (.t 72), (.t 73)], (some (67, false))⟩, ⟨(some 75), .mv (.t 14), (some (67, false))⟩, ⟨(some 76), .mv (.t 75), (some (67, false))⟩, ⟨(some 77), .mv (.t 4), (some (76, true))⟩, ⟨(some 78), .mv (.t 15), (some (76, true))⟩, ⟨(some 79), .bin .geq (.t 77) (.t 78), (some (76, true))⟩, ⟨(some 80), .pick (.t 76) (.t 79) (.c (.bool false)), (some (67, false))⟩, ⟨(some 81), .eqB true (.t 74) (.t 80), (some (67, false))⟩, ⟨(some 82), .pick (.t 67) (.c (.bool true)) (.t 81), none⟩])
  (.cond (.t 82) (.seq (.ops [⟨(some 12), .mv (.c (.bool false)), none⟩])
  .ret) .skip))
  (.seq (.ops [⟨(some 83), .loadN 3 (.t 6), none⟩, ⟨(some 84), .call 17 [(.t 83)], none⟩, ⟨(some 85), .mv (.t 1), none⟩, ⟨(some 86), .mv (.t 2), none⟩, ⟨(some 87), .mv (.t 3), none⟩, ⟨(some 88), .mv (.t 4), none⟩, ⟨(some 89), .mv (.t 5), none⟩, ⟨(some 90), .call 25 [(.t 84), (.t 85), (.t 86), (.t 87), (.t 88), (.t 89)], none⟩, ⟨(some 16), .mv (.t 90), none⟩])
  (.seq (.ops [⟨(some 91), .loadN 3 (.t 6), none⟩, ⟨(some 92), .mv (.t 1), none⟩, ⟨(some 93), .mv (.t 3), none⟩, ⟨(some 94), .mv (.t 5), none⟩, ⟨(some 95), .call 24 [(.t 91), (.t 92), (.t 93), (.t 94)], none⟩, ⟨(some 17), .mv (.t 95), none⟩])
  (.seq (.ops [⟨(some 96), .loadN 3 (.t 6), none⟩, ⟨(some 97), .call 16 [(.t 96)], none⟩, ⟨(some 98), .mv (.t 97), none⟩, ⟨(some 99), .mv (.t 2), (some (98, true))⟩, ⟨(some 100), .bin .geq (.t 99) (.c (.int .i64 0)), (some (98, true))⟩, ⟨(some 101), .pick (.t 98) (.t 100) (.c (.bool false)), none⟩, ⟨(some 102), .mv (.t 101), none⟩, ⟨(some 103), .mv (.t 2), (some (102, true))⟩, ⟨(some 104), .fadd 2 (.t 6), (some (102, true))⟩, ⟨(some 105), .load1 (.t 104), (some (102, true))⟩, ⟨(some 106), .len true (.t 105), (some (102, true))⟩, ⟨(some 107), .bin .lss (.t 103) (.t 106), (some (102, true))⟩, ⟨(some 108), .pick (.t 102) (.t 107) (.c (.bool false)), none⟩, ⟨(some 109), .mv (.t 108), none⟩, ⟨(some 110), .fadd 2 (.t 6), (some (109, true))⟩, ⟨(some 111), .load1 (.t 110), (some (109, true))⟩, ⟨(some 112), .mv (.t 2), (some (109, true))⟩, ⟨(some 113), .idxS (.t 111) (.t 112), (some (109, true))⟩, ⟨(some 114), .bin .neq (.t 113) (.c (.int .u8 35)), (some (109, true))⟩, ⟨(some 115), .pick (.t 109) (.t 114) (.c (.bool false)), none⟩, ⟨(some 116), .mv (.t 115), none⟩, ⟨(some 117), .mv (.t 3), (some (116, true))⟩, ⟨(some 118), .bin .geq (.t 117) (.c (.int .i64 0)), (some (116, true))⟩, ⟨(some 119), .pick (.t 116) (.t 118) (.c (.bool false)), none⟩, ⟨(some 120), .mv (.t 119), none⟩, ⟨(some 121), .mv (.t 3), (some (120, true))⟩, ⟨(some 122), .fadd 2 (.t 6), (some (120, true))⟩, ⟨(some 123), .load1 (.t 122), (some (120, true))⟩, ⟨(some 124), .len true (.t 123), (some (120, true))⟩, ⟨(some 125), .bin .lss (.t 121) (.t 124), (some (120, true))⟩, ⟨(some 126), .pick (.t 120) (.t 125) (.c (.bool false)), none⟩, ⟨(some 127), .mv (.t 126), none⟩, ⟨(some 128), .fadd 2 (.t 6), (some (127, true))⟩, ⟨(some 129), .load1 (.t 128), (some (127, true))⟩, ⟨(some 130), .mv (.t 3), (some (127, true))⟩, ⟨(some 131), .idxS (.t 129) (.t 130), (some (127, true))⟩, ⟨(some 132), .bin .neq (.t 131) (.c (.int .u8 35)), (some (127, true))⟩, ⟨(some 133), .pick (.t 127) (.t 132) (.c (.bool false)), none⟩, ⟨(some 18), .mv (.t 133), none⟩])
  (.seq (.ops [⟨(some 134), .mv (.t 16), none⟩, ⟨(some 135), .mv (.t 18), none⟩, ⟨(some 136), .mv (.t 135), none⟩, ⟨(some 137), .fadd 0 (.t 6), (some (136, true))⟩, ⟨(some 138), .load1 (.t 137), (some (136, true))⟩, ⟨(some 139), .mv (.t 2), (some (136, true))⟩, ⟨(some 140), .mv (.t 3), (some (136, true))⟩, ⟨(some 141), .call 26 [(.t 138), (.t 139), (.t 140)], (some (136, true))⟩, ⟨(some 142), .pick (.t 136) (.t 141) (.c (.bool false)), none⟩, ⟨(some 143), .mv (.t 142), none⟩, ⟨(some 144), .mv (.t 17), (some (143, true))⟩, ⟨(some 145), .bin .geq (.t 144) (.c (.int .i64 0)), (some (143, true))⟩, ⟨(some 146), .pick (.t 143) (.t 145) (.c (.bool false)), none⟩, ⟨(some 147), .mv (.t 146), none⟩, ⟨(some 148), .mv (.t 4), (some (147, true))⟩, ⟨(some 149), .mv (.t 5), (some (147, true))⟩, ⟨(some 150), .bin .geq (.t 148) (.t 149), (some (147, true))⟩, ⟨(some 151), .pick (.t 147) (.t 150) (.c (.bool false)), none⟩, ⟨(some 152), .mv (.t 151), none⟩, ⟨(some 153), .mv (.t 4), (some (152, true))⟩, ⟨(some 154), .mv (.t 5), (some (152, true))⟩, ⟨(some 155), .bin .sub (.t 153) (.t 154), (some (152, true))⟩, ⟨(some 156), .mv (.t 17), (some (152, true))⟩, ⟨(some 157), .bin .geq (.t 155) (.t 156), (some (152, true))⟩, ⟨(some 158), .pick (.t 152) (.t 157) (.c (.bool false)), none⟩, ⟨(some 159), .eqB false (.t 134) (.t 158), none⟩, ⟨(some 12), .mv (.t 159), none⟩])
  .ret)))))))))
def r7 : List RV := [.t 12]
theorem fn7 : cFn Tryd.prog 7 = some (c7, r7, 160) := by kernel_rfl

/-- dynamo/dynamolaw21.SafeGoes -/
def c8 : MC :=
  (.seq (.ops [⟨(some 5), .box (.t 0), none⟩, ⟨(some 6), .box (.t 1), none⟩, ⟨(some 10), .mv (.c (.bool false)), none⟩])
  (.seq (.seq (.ops [⟨(some 20), .call 15 [], none⟩, ⟨(some 21), .not (.t 20), none⟩, ⟨(some 22), .mv (.t 21), none⟩, ⟨(some 23), .loadN 3 (.t 5), (some (22, false))⟩, ⟨(some 24), .call 16 [(.t 23)], (some (22, false))⟩, ⟨(some 25), .not (.t 24), (some (22, false))⟩, ⟨(some 26), .pick (.t 22) (.c (.bool true)) (.t 25), none⟩])
  (.cond (.t 26) (.seq (.ops [⟨(some 27), .call 15 [], none⟩, ⟨(some 10), .mv (.t 27), none⟩])
  .ret) .skip))
  (.seq (.ops [⟨(some 28), .loadN 3 (.t 5), none⟩, ⟨(some 29), .call 17 [(.t 28)], none⟩, ⟨(some 11), .alloc [(.int .i64 0), (.int .i64 0), (.string ⟨#[]⟩)], none⟩, ⟨none, .store 3 (.t 11) (.t 29), none⟩])
  (.seq (.ops [⟨(some 30), .loadN 3 (.t 11), none⟩, ⟨(some 31), .loadN 8 (.t 6), none⟩, ⟨(some 32), .call 18 [(.t 30), (.t 31)], none⟩, ⟨(some 12), .mv (.t 32), none⟩])
  (.seq (.ops [⟨(some 33), .mv (.t 4), none⟩, ⟨(some 34), .conv .i64 (.t 33), none⟩, ⟨(some 35), .bin .rem (.t 34) (.c (.int .i64 3)), none⟩, ⟨(some 36), .bin .add (.c (.int .i64 1)) (.t 35), none⟩, ⟨(some 13), .mv (.t 36), none⟩])
  (.seq (.ops [⟨(some 37), .mv (.t 2), none⟩, ⟨(some 38), .conv .i64 (.t 37), none⟩, ⟨(some 39), .fadd 2 (.t 5), none⟩, ⟨(some 40), .load1 (.t 39), none⟩, ⟨(some 41), .len true (.t 40), none⟩, ⟨(some 42), .bin .rem (.t 38) (.t 41), none⟩, ⟨(some 14), .mv (.t 42), none⟩])
  (.seq (.ops [⟨(some 44), .loadN 3 (.t 11), none⟩, ⟨(some 45), .mv (.t 12), none⟩, ⟨(some 46), .mv (.t 14), none⟩, ⟨(some 47), .mv (.t 13), none⟩, ⟨(some 48), .call 19 [(.t 44), (.t 45), (.t 46), (.t 47)], none⟩, ⟨(some 43), .mv (.t 48), none⟩, ⟨(some 49), .ext (.t 43) 0, none⟩, ⟨(some 50), .ext (.t 43) 1, none⟩, ⟨(some 15), .mv (.t 49), none⟩, ⟨(some 16), .mv (.t 50), none⟩])
  (.seq (.ops [⟨(some 51), .loadN 3 (.t 11), none⟩, ⟨(some 52), .mv (.t 14), none⟩, ⟨(some 53), .call 27 [(.t 51), (.t 52)], none⟩, ⟨(some 17), .mv (.t 53), none⟩])
  (.seq (.ops [⟨(some 18), .mv (.c (.bool false)), none⟩])
  (.seq (.seq (.ops [⟨(some 19), .mv (.c (.int .i64 0)), none⟩])
  (.block 0 (.loop (.seq (.seq (.ops [⟨(some 54), .mv (.t 19), none⟩, ⟨(some 55), .mv (.t 17), none⟩, ⟨(some 56), .len false (.t 55), none⟩, ⟨(some 57), .bin .lss (.t 54) (.t 56), none⟩])
  (.cond (.t 57) .skip (.exit 0)))
  (.seq (.block 1 (.seq (.dops [⟨⟨(some 60), .loadN 3 (.t 11), none⟩, 0, false, false⟩, ⟨⟨(some 61), .mv (.t 12), none⟩, 1, false, false⟩, ⟨⟨(some 62), .mv (.t 14), none⟩, 2, false, false⟩, ⟨⟨(some 63), .mv (.t 17), none⟩, 3, false, false⟩, ⟨⟨(some 64), .mv (.t 19), none⟩, 4, false, false⟩, ⟨⟨(some 65), .iaS 1 (.t 63) (.t 64), none⟩, 5, false, false⟩, ⟨⟨(some 66), .load1 (.t 65), none⟩, 6, false, false⟩, ⟨⟨(some 67), .mv (.t 3), none⟩, 7, false, false⟩, ⟨⟨(some 68), .conv .i64 (.t 67), none⟩, 8, false, false⟩, ⟨⟨(some 69), .mv (.t 13), none⟩, 9, false, false⟩, ⟨⟨(some 70), .call 25 [(.t 60), (.t 61), (.t 62), (.t 66), (.t 68), (.t 69)], none⟩, 10, true, false⟩])
  (.cond (.t 70) (.seq (.ops [⟨(some 18), .mv (.c (.bool true)), none⟩])
  (.seq (.dops [⟨⟨(some 71), .loadN 3 (.t 11), none⟩, 0, false, false⟩, ⟨⟨(some 72), .mv (.t 12), none⟩, 1, false, false⟩, ⟨⟨(some 73), .mv (.t 17), none⟩, 2, false, false⟩, ⟨⟨(some 74), .mv (.t 19), none⟩, 3, false, false⟩, ⟨⟨(some 75), .iaS 1 (.t 73) (.t 74), none⟩, 4, false, false⟩, ⟨⟨(some 76), .load1 (.t 75), none⟩, 5, false, false⟩, ⟨⟨(some 77), .mv (.t 3), none⟩, 6, false, false⟩, ⟨⟨(some 78), .conv .i64 (.t 77), none⟩, 7, false, false⟩, ⟨⟨(some 79), .mv (.t 13), none⟩, 8, false, false⟩, ⟨⟨(some 80), .bin .sub (.t 78) (.t 79), none⟩, 9, false, false⟩, ⟨⟨(some 81), .mv (.t 13), none⟩, 10, false, false⟩, ⟨⟨(some 82), .call 20 [(.t 71), (.t 72), (.t 76), (.t 80), (.t 81)], none⟩, 11, true, false⟩, ⟨⟨(some 83), .not (.t 82), none⟩, 12, false, false⟩])
  (.cond (.t 83) (.seq (.ops [⟨(some 10), .mv (.c (.bool false)), none⟩])
  .ret) .skip))) .skip)))
  (.ops [⟨(some 58), .mv (.t 19), none⟩, ⟨(some 59), .bin .add (.t 58) (.c (.int .i64 1)), none⟩, ⟨(some 19), .mv (.t 59), none⟩]))))))
  (.seq (.ops [⟨(some 84), .mv (.t 16), none⟩, ⟨(some 85), .not (.t 84), none⟩, ⟨(some 86), .mv (.t 85), none⟩, ⟨(some 87), .mv (.t 15), (some (86, false))⟩, ⟨(some 88), .bin .eql (.t 87) (.c (.int .i64 0)), (some (86, false))⟩, ⟨(some 89), .pick (.t 86) (.c (.bool true)) (.t 88), none⟩, ⟨(some 90), .mv (.t 89), none⟩, ⟨(some 91), .mv (.t 3), (some (90, false))⟩, ⟨(some 92), .conv .i64 (.t 91), (some (90, false))⟩, ⟨(some 93), .mv (.t 15), (some (90, false))⟩, ⟨(some 94), .bin .lss (.t 92) (.t 93), (some (90, false))⟩, ⟨(some 95), .pick (.t 90) (.c (.bool true)) (.t 94), none⟩, ⟨(some 96), .mv (.t 95), none⟩, ⟨(some 97), .mv (.t 18), (some (96, false))⟩, ⟨(some 98), .pick (.t 96) (.c (.bool true)) (.t 97), none⟩, ⟨(some 10), .mv (.t 98), none⟩])
  .ret)))))))))))
def r8 : List RV := [.t 10]
theorem fn8 : cFn Tryd.prog 8 = some (c8, r8, 99) := by kernel_rfl

/-- dynamo/dynamolaw14.GridMirrors -/
def c9 : MC :=
  (.seq (.ops [⟨(some 2), .box (.t 0), none⟩, ⟨(some 4), .mv (.c (.bool false)), none⟩])
  (.seq (.seq (.ops [⟨(some 10), .call 28 [], none⟩, ⟨(some 11), .not (.t 10), none⟩, ⟨(some 12), .mv (.t 11), none⟩, ⟨(some 13), .fadd 2 (.t 2), (some (12, false))⟩, ⟨(some 14), .load1 (.t 13), (some (12, false))⟩, ⟨(some 15), .len true (.t 14), (some (12, false))⟩, ⟨(some 16), .bin .gtr (.t 15) (.c (.int .i64 64)), (some (12, false))⟩, ⟨(some 17), .pick (.t 12) (.c (.bool true)) (.t 16), none⟩, ⟨(some 18), .mv (.t 17), none⟩, ⟨(some 19), .fadd 0 (.t 2), (some (18, false))⟩, ⟨(some 20), .load1 (.t 19), (some (18, false))⟩, ⟨(some 21), .bin .lss (.t 20) (.c (.int .i64 1)), (some (18, false))⟩, ⟨(some 22), .pick (.t 18) (.c (.bool true)) (.t 21), none⟩, ⟨(some 23), .mv (.t 22), none⟩, ⟨(some 24), .fadd 0 (.t 2), (some (23, false))⟩, ⟨(some 25), .load1 (.t 24), (some (23, false))⟩, ⟨(some 26), .bin .gtr (.t 25) (.c (.int .i64 8)), (some (23, false))⟩, ⟨(some 27), .pick (.t 23) (.c (.bool true)) (.t 26), none⟩, ⟨(some 28), .mv (.t 27), none⟩, ⟨(some 29), .fadd 1 (.t 2), (some (28, false))⟩, ⟨(some 30), .load1 (.t 29), (some (28, false))⟩, ⟨(some 31), .bin .lss (.t 30) (.c (.int .i64 1)), (some (28, false))⟩, ⟨(some 32), .pick (.t 28) (.c (.bool true)) (.t 31), none⟩, ⟨(some 33), .mv (.t 32), none⟩, ⟨(some 34), .fadd 1 (.t 2), (some (33, false))⟩, ⟨(some 35), .load1 (.t 34), (some (33, false))⟩, ⟨(some 36), .bin .gtr (.t 35) (.c (.int .i64 8)), (some (33, false))⟩, ⟨(some 37), .pick (.t 33) (.c (.bool true)) (.t 36), none⟩, ⟨(some 38), .mv (.t 37), none⟩, ⟨(some 39), .fadd 2 (.t 2), (some (38, false))⟩, ⟨(some 40), .load1 (.t 39), (some (38, false))⟩, ⟨(some 41), .len true (.t 40), (some (38, false))⟩, ⟨(some 42), .fadd 0 (.t 2), (some (38, false))⟩, ⟨(some 43), .load1 (.t 42), (some (38, false))⟩, ⟨(some 44), .fadd 1 (.t 2), (some (38, false))⟩, ⟨(some 45), .load1 (.t 44), (some (38, false))⟩, ⟨(some 46), .bin .mul (.t 43) (.t 45), (some (38, false))⟩, ⟨(some 47), .bin .neq (.t 41) (.t 46), (some (38, false))⟩, ⟨(some 48), .pick (.t 38) (.c (.bool true)) (.t 47), none⟩])
  (.cond (.t 48) (.seq (.ops [⟨(some 49), .call 28 [], none⟩, ⟨(some 4), .mv (.t 49), none⟩])
  .ret) .skip))
  (.seq (.ops [⟨(some 50), .fadd 2 (.t 2), none⟩, ⟨(some 51), .load1 (.t 50), none⟩, ⟨(some 52), .s2b (.t 51), none⟩, ⟨(some 5), .mv (.t 52), none⟩])
  (.seq (.seq (.ops [⟨(some 6), .mv (.c (.int .i64 0)), none⟩])
  (.block 0 (.loop (.seq (.seq (.ops [⟨(some 53), .mv (.t 6), none⟩, ⟨(some 54), .mv (.t 5), none⟩, ⟨(some 55), .len false (.t 54), none⟩, ⟨(some 56), .bin .lss (.t 53) (.t 55), none⟩])
  (.cond (.t 56) .skip (.exit 0)))
  (.seq (.block 1 (.dops [⟨⟨(some 59), .mv (.t 5), none⟩, 0, false, false⟩, ⟨⟨(some 60), .mv (.t 6), none⟩, 1, false, false⟩, ⟨⟨(some 61), .fadd 2 (.t 2), none⟩, 2, false, false⟩, ⟨⟨(some 62), .load1 (.t 61), none⟩, 3, false, false⟩, ⟨⟨(some 63), .mv (.t 6), none⟩, 4, false, false⟩, ⟨⟨(some 64), .fadd 0 (.t 2), none⟩, 5, false, false⟩, ⟨⟨(some 65), .load1 (.t 64), none⟩, 6, false, false⟩, ⟨⟨(some 66), .bin .quo (.t 63) (.t 65), none⟩, 7, false, false⟩, ⟨⟨(some 67), .fadd 0 (.t 2), none⟩, 8, false, false⟩, ⟨⟨(some 68), .load1 (.t 67), none⟩, 9, false, false⟩, ⟨⟨(some 69), .bin .mul (.t 66) (.t 68), none⟩, 10, false, false⟩, ⟨⟨(some 70), .fadd 0 (.t 2), none⟩, 11, false, false⟩, ⟨⟨(some 71), .load1 (.t 70), none⟩, 12, false, false⟩, ⟨⟨(some 72), .bin .add (.t 69) (.t 71), none⟩, 13, false, false⟩, ⟨⟨(some 73), .bin .sub (.t 72) (.c (.int .i64 1)), none⟩, 14, false, false⟩, ⟨⟨(some 74), .mv (.t 6), none⟩, 15, false, false⟩, ⟨⟨(some 75), .fadd 0 (.t 2), none⟩, 16, false, false⟩, ⟨⟨(some 76), .load1 (.t 75), none⟩, 17, false, false⟩, ⟨⟨(some 77), .bin .rem (.t 74) (.t 76), none⟩, 18, false, false⟩, ⟨⟨(some 78), .bin .sub (.t 73) (.t 77), none⟩, 19, false, false⟩, ⟨⟨(some 79), .idxS (.t 62) (.t 78), none⟩, 20, false, false⟩, ⟨⟨(some 80), .iaS 1 (.t 59) (.t 60), none⟩, 21, false, false⟩, ⟨⟨none, .store 1 (.t 80) (.t 79), none⟩, 22, true, false⟩]))
  (.ops [⟨(some 57), .mv (.t 6), none⟩, ⟨(some 58), .bin .add (.t 57) (.c (.int .i64 1)), none⟩, ⟨(some 6), .mv (.t 58), none⟩]))))))
  (.seq (.ops [⟨(some 81), .fadd 0 (.t 2), none⟩, ⟨(some 82), .load1 (.t 81), none⟩, ⟨(some 83), .fadd 1 (.t 2), none⟩, ⟨(some 84), .load1 (.t 83), none⟩, ⟨(some 85), .mv (.t 5), none⟩, ⟨(some 86), .b2s (.t 85), none⟩, ⟨(some 87), .bld [(.int .i64 0), (.int .i64 0), (.string ⟨#[]⟩)] [(0, 1, (.t 82)), (1, 1, (.t 84)), (2, 1, (.t 86))], none⟩, ⟨(some 7), .alloc [(.int .i64 0), (.int .i64 0), (.string ⟨#[]⟩)], none⟩, ⟨none, .store 3 (.t 7) (.t 87), none⟩])
  (.seq (.ops [⟨(some 88), .mv (.t 1), none⟩, ⟨(some 89), .conv .i64 (.t 88), none⟩, ⟨(some 90), .mv (.t 5), none⟩, ⟨(some 91), .len false (.t 90), none⟩, ⟨(some 92), .bin .rem (.t 89) (.t 91), none⟩, ⟨(some 8), .mv (.t 92), none⟩])
  (.seq (.dops [⟨⟨(some 93), .mv (.t 8), none⟩, 0, false, false⟩, ⟨⟨(some 94), .fadd 0 (.t 2), none⟩, 1, false, false⟩, ⟨⟨(some 95), .load1 (.t 94), none⟩, 2, false, false⟩, ⟨⟨(some 96), .bin .quo (.t 93) (.t 95), none⟩, 3, false, false⟩, ⟨⟨(some 97), .fadd 0 (.t 2), none⟩, 4, false, false⟩, ⟨⟨(some 98), .load1 (.t 97), none⟩, 5, false, false⟩, ⟨⟨(some 99), .bin .mul (.t 96) (.t 98), none⟩, 6, false, false⟩, ⟨⟨(some 100), .fadd 0 (.t 2), none⟩, 7, false, false⟩, ⟨⟨(some 101), .load1 (.t 100), none⟩, 8, false, false⟩, ⟨⟨(some 102), .bin .add (.t 99) (.t 101), none⟩, 9, false, false⟩, ⟨⟨(some 103), .bin .sub (.t 102) (.c (.int .i64 1)), none⟩, 10, false, false⟩, ⟨⟨(some 104), .mv (.t 8), none⟩, 11, false, false⟩, ⟨⟨(some 105), .fadd 0 (.t 2), none⟩, 12, false, false⟩, ⟨⟨(some 106), .load1 (.t 105), none⟩, 13, false, false⟩, ⟨⟨(some 107), .bin .rem (.t 104) (.t 106), none⟩, 14, false, false⟩, ⟨⟨(some 108), .bin .sub (.t 103) (.t 107), none⟩, 15, false, false⟩, ⟨⟨(some 9), .mv (.t 108), none⟩, 16, false, false⟩])
  (.seq (.dops [⟨⟨(some 109), .loadN 3 (.t 7), none⟩, 0, false, false⟩, ⟨⟨(some 111), .loadN 3 (.t 2), none⟩, 2, false, false⟩, ⟨⟨(some 110), .call 29 [(.t 109)], none⟩, 1, true, true⟩, ⟨⟨(some 112), .call 17 [(.t 111)], none⟩, 3, true, false⟩, ⟨⟨(some 113), .call 29 [(.t 112)], none⟩, 4, true, false⟩, ⟨⟨(some 114), .eqB false (.t 110) (.t 113), none⟩, 5, false, false⟩, ⟨⟨(some 115), .mv (.t 114), none⟩, 6, false, false⟩, ⟨⟨(some 116), .loadN 3 (.t 2), (some (115, true))⟩, 7, false, false⟩, ⟨⟨(some 118), .mv (.t 8), (some (115, true))⟩, 9, false, false⟩, ⟨⟨(some 121), .loadN 3 (.t 7), (some (115, true))⟩, 12, false, false⟩, ⟨⟨(some 122), .mv (.t 9), (some (115, true))⟩, 13, false, false⟩, ⟨⟨(some 117), .call 17 [(.t 116)], (some (115, true))⟩, 8, true, true⟩, ⟨⟨(some 119), .call 27 [(.t 117), (.t 118)], (some (115, true))⟩, 10, true, true⟩, ⟨⟨(some 120), .len false (.t 119), (some (115, true))⟩, 11, false, false⟩, ⟨⟨(some 123), .call 27 [(.t 121), (.t 122)], (some (115, true))⟩, 14, true, false⟩, ⟨⟨(some 124), .len false (.t 123), (some (115, true))⟩, 15, false, false⟩, ⟨⟨(some 125), .bin .eql (.t 120) (.t 124), (some (115, true))⟩, 16, false, false⟩, ⟨⟨(some 126), .pick (.t 115) (.t 125) (.c (.bool false)), none⟩, 17, false, false⟩, ⟨⟨(some 4), .mv (.t 126), none⟩, 18, false, false⟩])
  .ret))))))))
def r9 : List RV := [.t 4]
theorem fn9 : cFn Tryd.prog 9 = some (c9, r9, 127) := by kernel_rfl

/-- dynamo/dynamolaw14.GridNearest -/
def c10 : MC :=
  (.seq (.ops [⟨(some 2), .box (.t 0), none⟩, ⟨(some 4), .mv (.c (.bool false)), none⟩])
  (.seq (.seq (.ops [⟨(some 13), .call 28 [], none⟩, ⟨(some 14), .not (.t 13), none⟩, ⟨(some 15), .mv (.t 14), none⟩, ⟨(some 16), .loadN 3 (.t 2), (some (15, false))⟩, ⟨(some 17), .call 16 [(.t 16)], (some (15, false))⟩, ⟨(some 18), .not (.t 17), (some (15, false))⟩, ⟨(some 19), .pick (.t 15) (.c (.bool true)) (.t 18), none⟩])
  (.cond (.t 19) (.seq (.ops [⟨(some 20), .call 28 [], none⟩, ⟨(some 4), .mv (.t 20), none⟩])
  .ret) .skip))
  (.seq (.ops [⟨(some 21), .loadN 3 (.t 2), none⟩, ⟨(some 22), .call 17 [(.t 21)], none⟩, ⟨(some 5), .alloc [(.int .i64 0), (.int .i64 0), (.string ⟨#[]⟩)], none⟩, ⟨none, .store 3 (.t 5) (.t 22), none⟩])
  (.seq (.ops [⟨(some 23), .mv (.t 1), none⟩, ⟨(some 24), .conv .i64 (.t 23), none⟩, ⟨(some 25), .fadd 2 (.t 2), none⟩, ⟨(some 26), .load1 (.t 25), none⟩, ⟨(some 27), .len true (.t 26), none⟩, ⟨(some 28), .bin .rem (.t 24) (.t 27), none⟩, ⟨(some 6), .mv (.t 28), none⟩])
  (.seq (.ops [⟨(some 29), .fadd 2 (.t 2), none⟩, ⟨(some 30), .load1 (.t 29), none⟩, ⟨(some 31), .len true (.t 30), none⟩, ⟨(some 32), .mks 1 1 [(.bool false)] (.t 31) (.t 31), none⟩, ⟨(some 7), .mv (.t 32), none⟩])
  (.seq (.seq (.ops [⟨(some 33), .loadN 3 (.t 5), none⟩, ⟨(some 34), .mv (.t 6), none⟩, ⟨(some 35), .call 30 [(.t 33), (.t 34)], none⟩, ⟨(some 36), .not (.t 35), none⟩])
  (.cond (.t 36) (.seq (.ops [⟨(some 37), .loadN 3 (.t 5), none⟩, ⟨(some 38), .mv (.t 6), none⟩, ⟨(some 39), .call 27 [(.t 37), (.t 38)], none⟩, ⟨(some 40), .len false (.t 39), none⟩, ⟨(some 41), .bin .eql (.t 40) (.c (.int .i64 0)), none⟩, ⟨(some 4), .mv (.t 41), none⟩])
  .ret) .skip))
  (.seq (.ops [⟨(some 42), .mv (.t 7), none⟩, ⟨(some 43), .mv (.t 6), none⟩, ⟨(some 44), .iaS 1 (.t 42) (.t 43), none⟩, ⟨none, .store 1 (.t 44) (.c (.bool true)), none⟩])
  (.seq (.seq (.ops [⟨(some 8), .mv (.c (.int .i64 0)), none⟩])
  (.block 0 (.loop (.seq (.seq (.ops [⟨(some 45), .mv (.t 8), none⟩, ⟨(some 46), .bin .lss (.t 45) (.c (.int .i64 64)), none⟩])
  (.cond (.t 46) .skip (.exit 0)))
  (.seq (.block 1 (.seq (.ops [⟨(some 9), .mv (.c (.int .i64 0)), none⟩])
  (.block 2 (.loop (.seq (.seq (.ops [⟨(some 49), .mv (.t 9), none⟩, ⟨(some 50), .mv (.t 7), none⟩, ⟨(some 51), .len false (.t 50), none⟩, ⟨(some 52), .bin .lss (.t 49) (.t 51), none⟩])
  (.cond (.t 52) .skip (.exit 2)))
  (.seq (.block 3 (.seq (.ops [⟨(some 55), .loadN 3 (.t 5), none⟩, ⟨(some 56), .mv (.t 9), none⟩, ⟨(some 57), .call 27 [(.t 55), (.t 56)], none⟩, ⟨(some 10), .mv (.t 57), none⟩])
  (.seq (.ops [⟨(some 11), .mv (.c (.int .i64 0)), none⟩])
  (.block 4 (.loop (.seq (.seq (.ops [⟨(some 58), .mv (.t 11), none⟩, ⟨(some 59), .mv (.t 10), none⟩, ⟨(some 60), .len false (.t 59), none⟩, ⟨(some 61), .bin .lss (.t 58) (.t 60), none⟩, ⟨(some 62), .mv (.t 61), none⟩, ⟨(some 63), .mv (.t 7), (some (62, true))⟩, ⟨(some 64), .mv (.t 9), (some (62, true))⟩, ⟨(some 65), .iaS 1 (.t 63) (.t 64), (some (62, true))⟩, ⟨(some 66), .load1 (.t 65), (some (62, true))⟩, ⟨(some 67), .pick (.t 62) (.t 66) (.c (.bool false)), none⟩])
  (.cond (.t 67) .skip (.exit 4)))
  (.seq (.block 5 (.ops [⟨(some 70), .mv (.t 7), none⟩, ⟨(some 71), .mv (.t 10), none⟩, ⟨(some 72), .mv (.t 11), none⟩, ⟨(some 73), .iaS 1 (.t 71) (.t 72), none⟩, ⟨(some 74), .load1 (.t 73), none⟩, ⟨(some 75), .iaS 1 (.t 70) (.t 74), none⟩, ⟨none, .store 1 (.t 75) (.c (.bool true)), none⟩]))
  (.ops [⟨(some 68), .mv (.t 11), none⟩, ⟨(some 69), .bin .add (.t 68) (.c (.int .i64 1)), none⟩, ⟨(some 11), .mv (.t 69), none⟩]))))))))
  (.ops [⟨(some 53), .mv (.t 9), none⟩, ⟨(some 54), .bin .add (.t 53) (.c (.int .i64 1)), none⟩, ⟨(some 9), .mv (.t 54), none⟩])))))))
  (.ops [⟨(some 47), .mv (.t 8), none⟩, ⟨(some 48), .bin .add (.t 47) (.c (.int .i64 1)), none⟩, ⟨(some 8), .mv (.t 48), none⟩]))))))
  (.seq (.seq (.ops [⟨(some 12), .mv (.c (.int .i64 0)), none⟩])
  (.block 6 (.loop (.seq (.seq (.ops [⟨(some 76), .mv (.t 12), none⟩, ⟨(some 77), .mv (.t 7), none⟩, ⟨(some 78), .len false (.t 77), none⟩, ⟨(some 79), .bin .lss (.t 76) (.t 78), none⟩])
  (.cond (.t 79) .skip (.exit 6)))
  (.seq (.block 7 (.seq (.dops [⟨⟨(some 82), .mv (.t 7), none⟩, 0, false, false⟩, ⟨⟨(some 83), .mv (.t 12), none⟩, 1, false, false⟩, ⟨⟨(some 84), .iaS 1 (.t 82) (.t 83), none⟩, 2, false, false⟩, ⟨⟨(some 85), .load1 (.t 84), none⟩, 3, false, false⟩, ⟨⟨(some 86), .loadN 3 (.t 5), none⟩, 4, false, false⟩, ⟨⟨(some 87), .mv (.t 12), none⟩, 5, false, false⟩, ⟨⟨(some 88), .call 30 [(.t 86), (.t 87)], none⟩, 6, true, true⟩, ⟨⟨(some 89), .eqB true (.t 85) (.t 88), none⟩, 7, false, false⟩])
  (.cond (.t 89) (.seq (.ops [⟨(some 4), .mv (.c (.bool false)), none⟩])
  .ret) .skip)))
  (.ops [⟨(some 80), .mv (.t 12), none⟩, ⟨(some 81), .bin .add (.t 80) (.c (.int .i64 1)), none⟩, ⟨(some 12), .mv (.t 81), none⟩]))))))
  (.seq (.ops [⟨(some 4), .mv (.c (.bool true)), none⟩])
  .ret))))))))))
def r10 : List RV := [.t 4]
theorem fn10 : cFn Tryd.prog 10 = some (c10, r10, 90) := by kernel_rfl

/-- dynamo/dynamolaw14.GridKinds -/
def c11 : MC :=
  (.seq (.ops [⟨(some 1), .box (.t 0), none⟩, ⟨(some 2), .mv (.c (.bool false)), none⟩])
  (.seq (.seq (.ops [⟨(some 7), .call 28 [], none⟩, ⟨(some 8), .not (.t 7), none⟩, ⟨(some 9), .mv (.t 8), none⟩, ⟨(some 10), .fadd 2 (.t 1), (some (9, false))⟩, ⟨(some 11), .load1 (.t 10), (some (9, false))⟩, ⟨(some 12), .len true (.t 11), (some (9, false))⟩, ⟨(some 13), .bin .gtr (.t 12) (.c (.int .i64 200)), (some (9, false))⟩, ⟨(some 14), .pick (.t 9) (.c (.bool true)) (.t 13), none⟩])
  (.cond (.t 14) (.seq (.ops [⟨(some 15), .call 28 [], none⟩, ⟨(some 2), .mv (.t 15), none⟩])
  .ret) .skip))
  (.seq (.ops [⟨(some 16), .loadN 3 (.t 1), none⟩, ⟨(some 17), .call 17 [(.t 16)], none⟩, ⟨(some 3), .alloc [(.int .i64 0), (.int .i64 0), (.string ⟨#[]⟩)], none⟩, ⟨none, .store 3 (.t 3) (.t 17), none⟩])
  (.seq (.dops [⟨⟨(some 18), .loadN 3 (.t 3), none⟩, 0, false, false⟩, ⟨⟨(some 21), .loadN 3 (.t 3), none⟩, 3, false, false⟩, ⟨⟨(some 25), .loadN 3 (.t 3), none⟩, 7, false, false⟩, ⟨⟨(some 29), .loadN 3 (.t 3), none⟩, 11, false, false⟩, ⟨⟨(some 19), .call 31 [(.t 18), (.c (.int .u8 35))], none⟩, 1, true, true⟩, ⟨⟨(some 20), .len false (.t 19), none⟩, 2, false, false⟩, ⟨⟨(some 22), .call 31 [(.t 21), (.c (.int .u8 46))], none⟩, 4, true, true⟩, ⟨⟨(some 23), .len false (.t 22), none⟩, 5, false, false⟩, ⟨⟨(some 24), .bin .add (.t 20) (.t 23), none⟩, 6, false, false⟩, ⟨⟨(some 26), .call 31 [(.t 25), (.c (.int .u8 67))], none⟩, 8, true, true⟩, ⟨⟨(some 27), .len false (.t 26), none⟩, 9, false, false⟩, ⟨⟨(some 28), .bin .add (.t 24) (.t 27), none⟩, 10, false, false⟩, ⟨⟨(some 30), .call 31 [(.t 29), (.c (.int .u8 80))], none⟩, 12, true, false⟩, ⟨⟨(some 31), .len false (.t 30), none⟩, 13, false, false⟩, ⟨⟨(some 32), .bin .add (.t 28) (.t 31), none⟩, 14, false, false⟩, ⟨⟨(some 4), .mv (.t 32), none⟩, 15, false, false⟩])
  (.seq (.seq (.ops [⟨(some 33), .loadN 3 (.t 3), none⟩, ⟨(some 34), .call 29 [(.t 33)], none⟩, ⟨(some 35), .not (.t 34), none⟩])
  (.cond (.t 35) (.seq (.ops [⟨(some 36), .mv (.t 4), none⟩, ⟨(some 37), .bin .eql (.t 36) (.c (.int .i64 0)), none⟩, ⟨(some 2), .mv (.t 37), none⟩])
  .ret) .skip))
  (.seq (.ops [⟨(some 5), .mv (.c (.int .i64 0)), none⟩])
  (.seq (.seq (.ops [⟨(some 6), .mv (.c (.int .i64 0)), none⟩])
  (.block 0 (.loop (.seq (.seq (.ops [⟨(some 38), .mv (.t 6), none⟩, ⟨(some 39), .fadd 2 (.t 1), none⟩, ⟨(some 40), .load1 (.t 39), none⟩, ⟨(some 41), .len true (.t 40), none⟩, ⟨(some 42), .bin .lss (.t 38) (.t 41), none⟩])
  (.cond (.t 42) .skip (.exit 0)))
  (.seq (.block 1 (.seq (.ops [⟨(some 45), .loadN 3 (.t 3), none⟩, ⟨(some 46), .mv (.t 6), none⟩, ⟨(some 47), .call 30 [(.t 45), (.t 46)], none⟩])
  (.cond (.t 47) (.ops [⟨(some 48), .mv (.t 5), none⟩, ⟨(some 49), .bin .add (.t 48) (.c (.int .i64 1)), none⟩, ⟨(some 5), .mv (.t 49), none⟩]) .skip)))
  (.ops [⟨(some 43), .mv (.t 6), none⟩, ⟨(some 44), .bin .add (.t 43) (.c (.int .i64 1)), none⟩, ⟨(some 6), .mv (.t 44), none⟩]))))))
  (.seq (.ops [⟨(some 50), .mv (.t 4), none⟩, ⟨(some 51), .fadd 2 (.t 1), none⟩, ⟨(some 52), .load1 (.t 51), none⟩, ⟨(some 53), .len true (.t 52), none⟩, ⟨(some 54), .bin .eql (.t 50) (.t 53), none⟩, ⟨(some 55), .mv (.t 54), none⟩, ⟨(some 56), .mv (.t 5), (some (55, true))⟩, ⟨(some 57), .mv (.t 4), (some (55, true))⟩, ⟨(some 58), .loadN 3 (.t 3), (some (55, true))⟩, ⟨(some 59), .call 31 [(.t 58), (.c (.int .u8 35))], (some (55, true))⟩, ⟨(some 60), .len false (.t 59), (some (55, true))⟩, ⟨(some 61), .bin .sub (.t 57) (.t 60), (some (55, true))⟩, ⟨(some 62), .bin .eql (.t 56) (.t 61), (some (55, true))⟩, ⟨(some 63), .pick (.t 55) (.t 62) (.c (.bool false)), none⟩, ⟨(some 64), .mv (.t 63), none⟩, ⟨(some 65), .loadN 3 (.t 3), (some (64, true))⟩, ⟨(some 66), .call 31 [(.t 65), (.c (.int .u8 67))], (some (64, true))⟩, ⟨(some 67), .len false (.t 66), (some (64, true))⟩, ⟨(some 68), .bin .gtr (.t 67) (.c (.int .i64 0)), (some (64, true))⟩, ⟨(some 69), .pick (.t 64) (.t 68) (.c (.bool false)), none⟩, ⟨(some 2), .mv (.t 69), none⟩])
  .ret))))))))
def r11 : List RV := [.t 2]
theorem fn11 : cFn Tryd.prog 11 = some (c11, r11, 70) := by kernel_rfl

/-- dynamo/dynamolaw14.GridNears -/
def c12 : MC :=
  (.seq (.ops [⟨(some 3), .box (.t 0), none⟩, ⟨(some 6), .mv (.c (.bool false)), none⟩])
  (.seq (.seq (.ops [⟨(some 16), .call 28 [], none⟩, ⟨(some 17), .not (.t 16), none⟩, ⟨(some 18), .mv (.t 17), none⟩, ⟨(some 19), .fadd 2 (.t 3), (some (18, false))⟩, ⟨(some 20), .load1 (.t 19), (some (18, false))⟩, ⟨(some 21), .len true (.t 20), (some (18, false))⟩, ⟨(some 22), .bin .gtr (.t 21) (.c (.int .i64 200)), (some (18, false))⟩, ⟨(some 23), .pick (.t 18) (.c (.bool true)) (.t 22), none⟩])
  (.cond (.t 23) (.seq (.ops [⟨(some 24), .call 28 [], none⟩, ⟨(some 6), .mv (.t 24), none⟩])
  .ret) .skip))
  (.seq (.ops [⟨(some 25), .loadN 3 (.t 3), none⟩, ⟨(some 26), .call 17 [(.t 25)], none⟩, ⟨(some 27), .mv (.t 1), none⟩, ⟨(some 28), .call 27 [(.t 26), (.t 27)], none⟩, ⟨(some 7), .mv (.t 28), none⟩])
  (.seq (.ops [⟨(some 29), .loadN 3 (.t 3), none⟩, ⟨(some 30), .call 17 [(.t 29)], none⟩, ⟨(some 31), .mv (.t 2), none⟩, ⟨(some 32), .call 31 [(.t 30), (.t 31)], none⟩, ⟨(some 8), .mv (.t 32), none⟩])
  (.seq (.seq (.ops [⟨(some 33), .loadN 3 (.t 3), none⟩, ⟨(some 34), .call 16 [(.t 33)], none⟩, ⟨(some 35), .not (.t 34), none⟩])
  (.cond (.t 35) (.seq (.ops [⟨(some 36), .mv (.t 7), none⟩, ⟨(some 37), .len false (.t 36), none⟩, ⟨(some 38), .bin .eql (.t 37) (.c (.int .i64 0)), none⟩, ⟨(some 39), .mv (.t 38), none⟩, ⟨(some 40), .mv (.t 8), (some (39, true))⟩, ⟨(some 41), .len false (.t 40), (some (39, true))⟩, ⟨(some 42), .bin .eql (.t 41) (.c (.int .i64 0)), (some (39, true))⟩, ⟨(some 43), .pick (.t 39) (.t 42) (.c (.bool false)), none⟩, ⟨(some 44), .mv (.t 43), none⟩, ⟨(some 45), .loadN 3 (.t 3), (some (44, true))⟩, ⟨(some 46), .call 17 [(.t 45)], (some (44, true))⟩, ⟨(some 47), .mv (.t 1), (some (44, true))⟩, ⟨(some 48), .call 30 [(.t 46), (.t 47)], (some (44, true))⟩, ⟨(some 49), .not (.t 48), (some (44, true))⟩, ⟨(some 50), .pick (.t 44) (.t 49) (.c (.bool false)), none⟩, ⟨(some 6), .mv (.t 50), none⟩])
  .ret) .skip))
  (.seq (.ops [⟨(some 51), .mv (.t 1), none⟩, ⟨(some 52), .bin .geq (.t 51) (.c (.int .i64 0)), none⟩, ⟨(some 53), .mv (.t 52), none⟩, ⟨(some 54), .mv (.t 1), (some (53, true))⟩, ⟨(some 55), .fadd 2 (.t 3), (some (53, true))⟩, ⟨(some 56), .load1 (.t 55), (some (53, true))⟩, ⟨(some 57), .len true (.t 56), (some (53, true))⟩, ⟨(some 58), .bin .lss (.t 54) (.t 57), (some (53, true))⟩, ⟨(some 59), .pick (.t 53) (.t 58) (.c (.bool false)), none⟩, ⟨(some 60), .mv (.t 59), none⟩, ⟨(some 61), .fadd 2 (.t 3), (some (60, true))⟩, ⟨(some 62), .load1 (.t 61), (some (60, true))⟩, ⟨(some 63), .mv (.t 1), (some (60, true))⟩, ⟨(some 64), .idxS (.t 62) (.t 63), (some (60, true))⟩, ⟨(some 65), .bin .neq (.t 64) (.c (.int .u8 35)), (some (60, true))⟩, ⟨(some 66), .pick (.t 60) (.t 65) (.c (.bool false)), none⟩, ⟨(some 9), .mv (.t 66), none⟩])
  (.seq (.seq (.ops [⟨(some 67), .loadN 3 (.t 3), none⟩, ⟨(some 68), .call 17 [(.t 67)], none⟩, ⟨(some 69), .mv (.t 1), none⟩, ⟨(some 70), .call 30 [(.t 68), (.t 69)], none⟩, ⟨(some 71), .mv (.t 9), none⟩, ⟨(some 72), .eqB true (.t 70) (.t 71), none⟩])
  (.cond (.t 72) (.seq (.ops [⟨(some 6), .mv (.c (.bool false)), none⟩])
  .ret) .skip))
  (.seq (.ops [⟨(some 10), .mv (.c (.int .i64 0)), none⟩, ⟨(some 11), .mv (.c (.int .i64 0)), none⟩])
  (.seq (.seq (.ops [⟨(some 12), .mv (.c (.int .i64 0)), none⟩])
  (.block 0 (.loop (.seq (.seq (.ops [⟨(some 73), .mv (.t 12), none⟩, ⟨(some 74), .fadd 2 (.t 3), none⟩, ⟨(some 75), .load1 (.t 74), none⟩, ⟨(some 76), .len true (.t 75), none⟩, ⟨(some 77), .bin .lss (.t 73) (.t 76), none⟩])
  (.cond (.t 77) .skip (.exit 0)))
  (.seq (.block 1 (.seq (.seq (.ops [⟨(some 80), .fadd 2 (.t 3), none⟩, ⟨(some 81), .load1 (.t 80), none⟩, ⟨(some 82), .mv (.t 12), none⟩, ⟨(some 83), .idxS (.t 81) (.t 82), none⟩, ⟨(some 84), .mv (.t 2), none⟩, ⟨(some 85), .bin .eql (.t 83) (.t 84), none⟩])
  (.cond (.t 85) (.seq (.seq (.ops [⟨(some 86), .mv (.t 11), none⟩, ⟨(some 87), .mv (.t 8), none⟩, ⟨(some 88), .len false (.t 87), none⟩, ⟨(some 89), .bin .geq (.t 86) (.t 88), none⟩, ⟨(some 90), .mv (.t 89), none⟩, ⟨(some 91), .mv (.t 8), (some (90, false))⟩, ⟨(some 92), .mv (.t 11), (some (90, false))⟩, ⟨(some 93), .iaS 1 (.t 91) (.t 92), (some (90, false))⟩, ⟨(some 94), .load1 (.t 93), (some (90, false))⟩, ⟨(some 95), .mv (.t 12), (some (90, false))⟩, ⟨(some 96), .bin .neq (.t 94) (.t 95), (some (90, false))⟩, ⟨(some 97), .pick (.t 90) (.c (.bool true)) (.t 96), none⟩])
  (.cond (.t 97) (.seq (.ops [⟨(some 6), .mv (.c (.bool false)), none⟩])
  .ret) .skip))
  (.ops [⟨(some 98), .mv (.t 11), none⟩, ⟨(some 99), .bin .add (.t 98) (.c (.int .i64 1)), none⟩, ⟨(some 11), .mv (.t 99), none⟩])) .skip))
  (.seq (.seq (.ops [⟨(some 100), .mv (.t 9), none⟩, ⟨(some 101), .not (.t 100), none⟩, ⟨(some 102), .mv (.t 101), none⟩, ⟨(some 103), .fadd 2 (.t 3), (some (102, false))⟩, ⟨(some 104), .load1 (.t 103), (some (102, false))⟩, ⟨(some 105), .mv (.t 12), (some (102, false))⟩, ⟨(some 106), .idxS (.t 104) (.t 105), (some (102, false))⟩, ⟨(some 107), .bin .eql (.t 106) (.c (.int .u8 35)), (some (102, false))⟩, ⟨(some 108), .pick (.t 102) (.c (.bool true)) (.t 107), none⟩, ⟨(some 109), .mv (.t 108), none⟩, ⟨(some 110), .fadd 0 (.t 3), (some (109, false))⟩, ⟨(some 111), .load1 (.t 110), (some (109, false))⟩, ⟨(some 112), .mv (.t 1), (some (109, false))⟩, ⟨(some 113), .mv (.t 12), (some (109, false))⟩, ⟨(some 114), .call 26 [(.t 111), (.t 112), (.t 113)], (some (109, false))⟩, ⟨(some 115), .not (.t 114), (some (109, false))⟩, ⟨(some 116), .pick (.t 109) (.c (.bool true)) (.t 115), none⟩])
  (.cond (.t 116) (.exit 1) .skip))
  (.seq (.seq (.ops [⟨(some 117), .mv (.t 10), none⟩, ⟨(some 118), .mv (.t 7), none⟩, ⟨(some 119), .len false (.t 118), none⟩, ⟨(some 120), .bin .geq (.t 117) (.t 119), none⟩, ⟨(some 121), .mv (.t 120), none⟩, ⟨(some 122), .mv (.t 7), (some (121, false))⟩, ⟨(some 123), .mv (.t 10), (some (121, false))⟩, ⟨(some 124), .iaS 1 (.t 122) (.t 123), (some (121, false))⟩, ⟨(some 125), .load1 (.t 124), (some (121, false))⟩, ⟨(some 126), .mv (.t 12), (some (121, false))⟩, ⟨(some 127), .bin .neq (.t 125) (.t 126), (some (121, false))⟩, ⟨(some 128), .pick (.t 121) (.c (.bool true)) (.t 127), none⟩])
  (.cond (.t 128) (.seq (.ops [⟨(some 6), .mv (.c (.bool false)), none⟩])
  .ret) .skip))
  (.seq (.ops [⟨(some 129), .mv (.t 10), none⟩, ⟨(some 130), .bin .add (.t 129) (.c (.int .i64 1)), none⟩, ⟨(some 10), .mv (.t 130), none⟩])
  (.seq (.ops [⟨(some 131), .loadN 3 (.t 3), none⟩, ⟨(some 132), .call 17 [(.t 131)], none⟩, ⟨(some 133), .mv (.t 12), none⟩, ⟨(some 134), .call 27 [(.t 132), (.t 133)], none⟩, ⟨(some 13), .mv (.t 134), none⟩])
  (.seq (.ops [⟨(some 14), .mv (.c (.bool false)), none⟩])
  (.seq (.seq (.ops [⟨(some 15), .mv (.c (.int .i64 0)), none⟩])
  (.block 2 (.loop (.seq (.seq (.ops [⟨(some 135), .mv (.t 15), none⟩, ⟨(some 136), .mv (.t 13), none⟩, ⟨(some 137), .len false (.t 136), none⟩, ⟨(some 138), .bin .lss (.t 135) (.t 137), none⟩])
  (.cond (.t 138) .skip (.exit 2)))
  (.seq (.block 3 (.ops [⟨(some 141), .mv (.t 14), none⟩, ⟨(some 142), .mv (.t 141), none⟩, ⟨(some 143), .mv (.t 13), (some (142, false))⟩, ⟨(some 144), .mv (.t 15), (some (142, false))⟩, ⟨(some 145), .iaS 1 (.t 143) (.t 144), (some (142, false))⟩, ⟨(some 146), .load1 (.t 145), (some (142, false))⟩, ⟨(some 147), .mv (.t 1), (some (142, false))⟩, ⟨(some 148), .bin .eql (.t 146) (.t 147), (some (142, false))⟩, ⟨(some 149), .pick (.t 142) (.c (.bool true)) (.t 148), none⟩, ⟨(some 14), .mv (.t 149), none⟩]))
  (.ops [⟨(some 139), .mv (.t 15), none⟩, ⟨(some 140), .bin .add (.t 139) (.c (.int .i64 1)), none⟩, ⟨(some 15), .mv (.t 140), none⟩]))))))
  (.seq (.ops [⟨(some 150), .mv (.t 14), none⟩, ⟨(some 151), .not (.t 150), none⟩])
  (.cond (.t 151) (.seq (.ops [⟨(some 6), .mv (.c (.bool false)), none⟩])
  .ret) .skip))))))))))
  (.ops [⟨(some 78), .mv (.t 12), none⟩, ⟨(some 79), .bin .add (.t 78) (.c (.int .i64 1)), none⟩, ⟨(some 12), .mv (.t 79), none⟩]))))))
  (.seq (.ops [⟨(some 152), .mv (.t 10), none⟩, ⟨(some 153), .mv (.t 7), none⟩, ⟨(some 154), .len false (.t 153), none⟩, ⟨(some 155), .bin .eql (.t 152) (.t 154), none⟩, ⟨(some 156), .mv (.t 155), none⟩, ⟨(some 157), .mv (.t 11), (some (156, true))⟩, ⟨(some 158), .mv (.t 8), (some (156, true))⟩, ⟨(some 159), .len false (.t 158), (some (156, true))⟩, ⟨(some 160), .bin .eql (.t 157) (.t 159), (some (156, true))⟩, ⟨(some 161), .pick (.t 156) (.t 160) (.c (.bool false)), none⟩, ⟨(some 6), .mv (.t 161), none⟩])
  .ret))))))))))
def r12 : List RV := [.t 6]
theorem fn12 : cFn Tryd.prog 12 = some (c12, r12, 162) := by kernel_rfl

/-- dynamo/dynamolaw14.GridBack -/
def c13 : MC :=
  (.seq (.ops [⟨(some 2), .box (.t 0), none⟩, ⟨(some 4), .mv (.c (.bool false)), none⟩])
  (.seq (.seq (.ops [⟨(some 13), .call 28 [], none⟩, ⟨(some 14), .not (.t 13), none⟩, ⟨(some 15), .mv (.t 14), none⟩, ⟨(some 16), .fadd 2 (.t 2), (some (15, false))⟩, ⟨(some 17), .load1 (.t 16), (some (15, false))⟩, ⟨(some 18), .len true (.t 17), (some (15, false))⟩, ⟨(some 19), .bin .gtr (.t 18) (.c (.int .i64 200)), (some (15, false))⟩, ⟨(some 20), .pick (.t 15) (.c (.bool true)) (.t 19), none⟩, ⟨(some 21), .mv (.t 20), none⟩, ⟨(some 22), .mv (.t 1), (some (21, false))⟩, ⟨(some 23), .len true (.t 22), (some (21, false))⟩, ⟨(some 24), .bin .gtr (.t 23) (.c (.int .i64 200)), (some (21, false))⟩, ⟨(some 25), .pick (.t 21) (.c (.bool true)) (.t 24), none⟩])
  (.cond (.t 25) (.seq (.ops [⟨(some 26), .call 28 [], none⟩, ⟨(some 4), .mv (.t 26), none⟩])
  .ret) .skip))
  (.seq (.ops [⟨(some 28), .loadN 3 (.t 2), none⟩, ⟨(some 29), .call 17 [(.t 28)], none⟩, ⟨(some 30), .call 32 [(.t 29)], none⟩, ⟨(some 27), .mv (.t 30), none⟩, ⟨(some 31), .ext (.t 27) 0, none⟩, ⟨(some 32), .ext (.t 27) 1, none⟩, ⟨(some 5), .mv (.t 31), none⟩, ⟨(some 6), .mv (.t 32), none⟩])
  (.seq (.seq (.ops [⟨(some 33), .mv (.t 6), none⟩, ⟨(some 34), .call 33 [(.t 33)], none⟩, ⟨(some 35), .bin .eql (.t 34) (.c (.int .i64 0)), none⟩])
  (.cond (.t 35) (.seq (.ops [⟨(some 37), .mv (.t 5), none⟩, ⟨(some 38), .call 34 [(.t 37)], none⟩, ⟨(some 36), .mv (.t 38), none⟩, ⟨(some 39), .ext (.t 36) 0, none⟩, ⟨(some 40), .ext (.t 36) 1, none⟩, ⟨(some 7), .alloc [(.int .i64 0), (.int .i64 0), (.string ⟨#[]⟩)], none⟩, ⟨none, .store 3 (.t 7) (.t 39), none⟩, ⟨(some 8), .mv (.t 40), none⟩])
  (.seq (.dops [⟨⟨(some 41), .mv (.t 8), none⟩, 0, false, false⟩, ⟨⟨(some 42), .call 33 [(.t 41)], none⟩, 1, true, false⟩, ⟨⟨(some 43), .bin .neq (.t 42) (.c (.int .i64 0)), none⟩, 2, false, false⟩, ⟨⟨(some 44), .mv (.t 43), none⟩, 3, false, false⟩, ⟨⟨(some 45), .loadN 3 (.t 7), (some (44, false))⟩, 4, false, false⟩, ⟨⟨(some 46), .loadN 3 (.t 2), (some (44, false))⟩, 5, false, false⟩, ⟨⟨(some 47), .call 17 [(.t 46)], (some (44, false))⟩, 6, true, true⟩, ⟨⟨(some 48), .eqA true [.int, .int, .str] (.t 45) (.t 47), (some (44, false))⟩, 7, false, false⟩, ⟨⟨(some 49), .pick (.t 44) (.c (.bool true)) (.t 48), none⟩, 8, false, false⟩])
  (.cond (.t 49) (.seq (.ops [⟨(some 4), .mv (.c (.bool false)), none⟩])
  .ret) .skip))) (.seq (.ops [⟨(some 50), .mv (.t 6), none⟩, ⟨(some 51), .call 33 [(.t 50)], none⟩, ⟨(some 52), .bin .neq (.t 51) (.c (.int .i64 1)), none⟩, ⟨(some 53), .mv (.t 52), none⟩, ⟨(some 54), .mv (.t 5), (some (53, false))⟩, ⟨(some 55), .bin .neq (.t 54) (.c (.string ⟨#[]⟩)), (some (53, false))⟩, ⟨(some 56), .pick (.t 53) (.c (.bool true)) (.t 55), none⟩])
  (.cond (.t 56) (.seq (.ops [⟨(some 4), .mv (.c (.bool false)), none⟩])
  .ret) .skip))))
  (.seq (.ops [⟨(some 58), .mv (.t 1), none⟩, ⟨(some 59), .call 34 [(.t 58)], none⟩, ⟨(some 57), .mv (.t 59), none⟩, ⟨(some 60), .ext (.t 57) 0, none⟩, ⟨(some 61), .ext (.t 57) 1, none⟩, ⟨(some 9), .alloc [(.int .i64 0), (.int .i64 0), (.string ⟨#[]⟩)], none⟩, ⟨none, .store 3 (.t 9) (.t 60), none⟩, ⟨(some 10), .mv (.t 61), none⟩])
  (.seq (.seq (.ops [⟨(some 62), .mv (.t 10), none⟩, ⟨(some 63), .call 33 [(.t 62)], none⟩, ⟨(some 64), .bin .neq (.t 63) (.c (.int .i64 0)), none⟩])
  (.cond (.t 64) (.seq (.ops [⟨(some 65), .mv (.t 10), none⟩, ⟨(some 66), .call 33 [(.t 65)], none⟩, ⟨(some 67), .bin .eql (.t 66) (.c (.int .i64 2)), none⟩, ⟨(some 68), .mv (.t 67), none⟩, ⟨(some 69), .loadN 3 (.t 9), (some (68, true))⟩, ⟨(some 70), .bld [(.int .i64 0), (.int .i64 0), (.string ⟨#[]⟩)] [], (some (68, true))⟩, ⟨(some 71), .eqA false [.int, .int, .str] (.t 69) (.t 70), (some (68, true))⟩, ⟨(some 72), .pick (.t 68) (.t 71) (.c (.bool false)), none⟩, ⟨(some 4), .mv (.t 72), none⟩])
  .ret) .skip))
  (.seq (.ops [⟨(some 74), .loadN 3 (.t 9), none⟩, ⟨(some 75), .call 32 [(.t 74)], none⟩, ⟨(some 73), .mv (.t 75), none⟩, ⟨(some 76), .ext (.t 73) 0, none⟩, ⟨(some 77), .ext (.t 73) 1, none⟩, ⟨(some 11), .mv (.t 76), none⟩, ⟨(some 12), .mv (.t 77), none⟩])
  (.seq (.ops [⟨(some 78), .mv (.t 12), none⟩, ⟨(some 79), .call 33 [(.t 78)], none⟩, ⟨(some 80), .bin .eql (.t 79) (.c (.int .i64 0)), none⟩, ⟨(some 81), .mv (.t 80), none⟩, ⟨(some 82), .mv (.t 11), (some (81, true))⟩, ⟨(some 83), .mv (.t 1), (some (81, true))⟩, ⟨(some 84), .bin .eql (.t 82) (.t 83), (some (81, true))⟩, ⟨(some 85), .pick (.t 81) (.t 84) (.c (.bool false)), none⟩, ⟨(some 86), .mv (.t 85), none⟩, ⟨(some 87), .loadN 3 (.t 9), (some (86, true))⟩, ⟨(some 88), .call 29 [(.t 87)], (some (86, true))⟩, ⟨(some 89), .pick (.t 86) (.t 88) (.c (.bool false)), none⟩, ⟨(some 4), .mv (.t 89), none⟩])
  .ret))))))))
def r13 : List RV := [.t 4]
theorem fn13 : cFn Tryd.prog 13 = some (c13, r13, 90) := by kernel_rfl

/-- dynamo/dynamolaw14.GridPlays -/
def c14 : MC :=
  (.seq (.ops [⟨(some 2), .box (.t 0), none⟩, ⟨(some 4), .mv (.c (.bool false)), none⟩])
  (.seq (.seq (.ops [⟨(some 12), .call 28 [], none⟩, ⟨(some 13), .not (.t 12), none⟩, ⟨(some 14), .mv (.t 13), none⟩, ⟨(some 15), .fadd 2 (.t 2), (some (14, false))⟩, ⟨(some 16), .load1 (.t 15), (some (14, false))⟩, ⟨(some 17), .len true (.t 16), (some (14, false))⟩, ⟨(some 18), .bin .gtr (.t 17) (.c (.int .i64 200)), (some (14, false))⟩, ⟨(some 19), .pick (.t 14) (.c (.bool true)) (.t 18), none⟩, ⟨(some 20), .mv (.t 19), none⟩, ⟨(some 21), .mv (.t 1), (some (20, false))⟩, ⟨(some 22), .len true (.t 21), (some (20, false))⟩, ⟨(some 23), .bin .gtr (.t 22) (.c (.int .i64 200)), (some (20, false))⟩, ⟨(some 24), .pick (.t 20) (.c (.bool true)) (.t 23), none⟩])
  (.cond (.t 24) (.seq (.ops [⟨(some 25), .call 28 [], none⟩, ⟨(some 4), .mv (.t 25), none⟩])
  .ret) .skip))
  (.seq (.ops [⟨(some 27), .loadN 3 (.t 2), none⟩, ⟨(some 28), .call 17 [(.t 27)], none⟩, ⟨(some 29), .call 32 [(.t 28)], none⟩, ⟨(some 26), .mv (.t 29), none⟩, ⟨(some 30), .ext (.t 26) 0, none⟩, ⟨(some 31), .ext (.t 26) 1, none⟩, ⟨(some 5), .mv (.t 30), none⟩, ⟨(some 6), .mv (.t 31), none⟩])
  (.seq (.ops [⟨(some 32), .loadN 3 (.t 2), none⟩, ⟨(some 33), .call 16 [(.t 32)], none⟩, ⟨(some 7), .mv (.t 33), none⟩])
  (.seq (.seq (.ops [⟨(some 34), .loadN 3 (.t 2), none⟩, ⟨(some 35), .call 17 [(.t 34)], none⟩, ⟨(some 36), .call 29 [(.t 35)], none⟩, ⟨(some 37), .mv (.t 7), none⟩, ⟨(some 38), .eqB true (.t 36) (.t 37), none⟩, ⟨(some 39), .mv (.t 38), none⟩, ⟨(some 40), .mv (.t 7), (some (39, false))⟩, ⟨(some 41), .mv (.t 6), (some (39, false))⟩, ⟨(some 42), .call 33 [(.t 41)], (some (39, false))⟩, ⟨(some 43), .bin .eql (.t 42) (.c (.int .i64 0)), (some (39, false))⟩, ⟨(some 44), .eqB true (.t 40) (.t 43), (some (39, false))⟩, ⟨(some 45), .pick (.t 39) (.c (.bool true)) (.t 44), none⟩, ⟨(some 46), .mv (.t 45), none⟩, ⟨(some 47), .mv (.t 7), (some (46, false))⟩, ⟨(some 48), .mv (.t 47), (some (46, false))⟩, ⟨(some 49), .mv (.t 5), (some (48, true))⟩, ⟨(some 50), .loadN 3 (.t 2), (some (48, true))⟩, ⟨(some 51), .call 35 [(.t 50)], (some (48, true))⟩, ⟨(some 52), .bin .neq (.t 49) (.t 51), (some (48, true))⟩, ⟨(some 53), .pick (.t 48) (.t 52) (.c (.bool false)), (some (46, false))⟩, ⟨(some 54), .pick (.t 46) (.c (.bool true)) (.t 53), none⟩])
  (.cond (.t 54) (.seq (.ops [⟨(some 4), .mv (.c (.bool false)), none⟩])
  .ret) .skip))
  (.seq (.ops [⟨(some 56), .mv (.t 1), none⟩, ⟨(some 57), .call 34 [(.t 56)], none⟩, ⟨(some 55), .mv (.t 57), none⟩, ⟨(some 58), .ext (.t 55) 0, none⟩, ⟨(some 59), .ext (.t 55) 1, none⟩, ⟨(some 8), .alloc [(.int .i64 0), (.int .i64 0), (.string ⟨#[]⟩)], none⟩, ⟨none, .store 3 (.t 8) (.t 58), none⟩, ⟨(some 9), .mv (.t 59), none⟩])
  (.seq (.ops [⟨(some 61), .mv (.t 1), none⟩, ⟨(some 62), .call 36 [(.t 61)], none⟩, ⟨(some 60), .mv (.t 62), none⟩, ⟨(some 63), .ext (.t 60) 0, none⟩, ⟨(some 64), .ext (.t 60) 1, none⟩, ⟨(some 10), .alloc [(.int .i64 0), (.int .i64 0), (.string ⟨#[]⟩)], none⟩, ⟨none, .store 3 (.t 10) (.t 63), none⟩, ⟨(some 11), .mv (.t 64), none⟩])
  (.seq (.dops [⟨⟨(some 65), .loadN 3 (.t 8), none⟩, 0, false, false⟩, ⟨⟨(some 66), .loadN 3 (.t 10), none⟩, 1, false, false⟩, ⟨⟨(some 67), .call 17 [(.t 66)], none⟩, 2, true, true⟩, ⟨⟨(some 68), .eqA false [.int, .int, .str] (.t 65) (.t 67), none⟩, 3, false, false⟩, ⟨⟨(some 69), .mv (.t 68), none⟩, 4, false, false⟩, ⟨⟨(some 70), .mv (.t 11), (some (69, true))⟩, 5, false, false⟩, ⟨⟨(some 71), .mv (.t 9), (some (69, true))⟩, 6, false, false⟩, ⟨⟨(some 72), .call 33 [(.t 71)], (some (69, true))⟩, 7, true, false⟩, ⟨⟨(some 73), .bin .eql (.t 72) (.c (.int .i64 0)), (some (69, true))⟩, 8, false, false⟩, ⟨⟨(some 74), .eqB false (.t 70) (.t 73), (some (69, true))⟩, 9, false, false⟩, ⟨⟨(some 75), .pick (.t 69) (.t 74) (.c (.bool false)), none⟩, 10, false, false⟩, ⟨⟨(some 4), .mv (.t 75), none⟩, 11, false, false⟩])
  .ret))))))))
def r14 : List RV := [.t 4]
theorem fn14 : cFn Tryd.prog 14 = some (c14, r14, 76) := by kernel_rfl

/-- dynamo/dynamolaw21.awake -/
def c15 : MC :=
  (.seq (.ops [⟨(some 0), .mv (.c (.bool false)), none⟩])
  (.seq (.ops [⟨(some 4), .bld [(.int .i64 0), (.int .i64 0), (.string ⟨#[]⟩)] [(0, 1, (.c (.int .i64 2))), (1, 1, (.c (.int .i64 1))), (2, 1, (.c (.string ⟨#[46, 67]⟩)))], none⟩, ⟨(some 1), .alloc [(.int .i64 0), (.int .i64 0), (.string ⟨#[]⟩)], none⟩, ⟨none, .store 3 (.t 1) (.t 4), none⟩])
  (.seq (.dops [⟨⟨(some 6), .loadN 3 (.t 1), none⟩, 0, false, false⟩, ⟨⟨(some 7), .loadN 3 (.t 1), none⟩, 1, false, false⟩, ⟨⟨(some 8), .bld [(.int .u8 0), (.int .u8 0), (.int .u8 0), (.int .u8 0), (.int .u8 0), (.int .u8 0), (.int .u8 0), (.int .u8 0)] [], none⟩, 2, false, false⟩, ⟨⟨(some 9), .call 18 [(.t 7), (.t 8)], none⟩, 3, true, true⟩, ⟨⟨(some 10), .call 19 [(.t 6), (.t 9), (.c (.int .i64 0)), (.c (.int .i64 2))], none⟩, 4, true, false⟩, ⟨⟨(some 5), .mv (.t 10), none⟩, 5, false, false⟩, ⟨⟨(some 11), .ext (.t 5) 0, none⟩, 6, false, false⟩, ⟨⟨(some 12), .ext (.t 5) 1, none⟩, 7, false, false⟩, ⟨⟨(some 2), .mv (.t 11), none⟩, 8, false, false⟩, ⟨⟨(some 3), .mv (.t 12), none⟩, 9, false, false⟩])
  (.seq (.ops [⟨(some 13), .mv (.t 2), none⟩, ⟨(some 14), .bin .eql (.t 13) (.c (.int .i64 2)), none⟩, ⟨(some 15), .mv (.t 14), none⟩, ⟨(some 16), .mv (.t 3), (some (15, true))⟩, ⟨(some 17), .pick (.t 15) (.t 16) (.c (.bool false)), none⟩, ⟨(some 0), .mv (.t 17), none⟩])
  .ret))))
def r15 : List RV := [.t 0]
theorem fn15 : cFn Tryd.prog 15 = some (c15, r15, 18) := by kernel_rfl

/-- dynamo/dynamoref14.Right -/
def c16 : MC :=
  (.seq (.ops [⟨(some 1), .box (.t 0), none⟩, ⟨(some 2), .mv (.c (.bool false)), none⟩])
  (.seq (.seq (.ops [⟨(some 11), .fadd 0 (.t 1), none⟩, ⟨(some 12), .load1 (.t 11), none⟩, ⟨(some 13), .bin .lss (.t 12) (.c (.int .i64 1)), none⟩, ⟨(some 14), .mv (.t 13), none⟩, ⟨(some 15), .fadd 0 (.t 1), (some (14, false))⟩, ⟨(some 16), .load1 (.t 15), (some (14, false))⟩, ⟨(some 17), .bin .gtr (.t 16) (.c (.int .i64 8)), (some (14, false))⟩, ⟨(some 18), .pick (.t 14) (.c (.bool true)) (.t 17), none⟩, ⟨(some 19), .mv (.t 18), none⟩, ⟨(some 20), .fadd 1 (.t 1), (some (19, false))⟩, ⟨(some 21), .load1 (.t 20), (some (19, false))⟩, ⟨(some 22), .bin .lss (.t 21) (.c (.int .i64 1)), (some (19, false))⟩, ⟨(some 23), .pick (.t 19) (.c (.bool true)) (.t 22), none⟩, ⟨(some 24), .mv (.t 23), none⟩, ⟨(some 25), .fadd 1 (.t 1), (some (24, false))⟩, ⟨(some 26), .load1 (.t 25), (some (24, false))⟩, ⟨(some 27), .bin .gtr (.t 26) (.c (.int .i64 8)), (some (24, false))⟩, ⟨(some 28), .pick (.t 24) (.c (.bool true)) (.t 27), none⟩, ⟨(some 29), .mv (.t 28), none⟩, ⟨(some 30), .fadd 2 (.t 1), (some (29, false))⟩, ⟨(some 31), .load1 (.t 30), (some (29, false))⟩, ⟨(some 32), .len true (.t 31), (some (29, false))⟩, ⟨(some 33), .fadd 0 (.t 1), (some (29, false))⟩, ⟨(some 34), .load1 (.t 33), (some (29, false))⟩, ⟨(some 35), .fadd 1 (.t 1), (some (29, false))⟩, ⟨(some 36), .load1 (.t 35), (some (29, false))⟩, ⟨(some 37), .bin .mul (.t 34) (.t 36), (some (29, false))⟩, ⟨(some 38), .bin .neq (.t 32) (.t 37), (some (29, false))⟩, ⟨(some 39), .pick (.t 29) (.c (.bool true)) (.t 38), none⟩])
  (.cond (.t 39) (.seq (.ops [⟨(some 2), .mv (.c (.bool false)), none⟩])
  .ret) .skip))
  (.seq (.ops [⟨(some 40), .fadd 2 (.t 1), none⟩, ⟨(some 41), .load1 (.t 40), none⟩, ⟨(some 42), .len true (.t 41), none⟩, ⟨(some 43), .mks 1 1 [(.bool false)] (.t 42) (.t 42), none⟩, ⟨(some 3), .mv (.t 43), none⟩])
  (.seq (.ops [⟨(some 4), .mv (.c (.bool false)), none⟩])
  (.seq (.seq (.ops [⟨(some 5), .mv (.c (.int .i64 0)), none⟩])
  (.block 0 (.loop (.seq (.seq (.ops [⟨(some 44), .mv (.t 5), none⟩, ⟨(some 45), .fadd 2 (.t 1), none⟩, ⟨(some 46), .load1 (.t 45), none⟩, ⟨(some 47), .len true (.t 46), none⟩, ⟨(some 48), .bin .lss (.t 44) (.t 47), none⟩])
  (.cond (.t 48) .skip (.exit 0)))
  (.seq (.block 1 (.seq (.ops [⟨(some 51), .fadd 2 (.t 1), none⟩, ⟨(some 52), .load1 (.t 51), none⟩, ⟨(some 53), .mv (.t 5), none⟩, ⟨(some 54), .idxS (.t 52) (.t 53), none⟩, ⟨(some 6), .mv (.t 54), none⟩])
  (.seq (.seq (.ops [⟨(some 55), .mv (.t 6), none⟩, ⟨(some 56), .bin .neq (.t 55) (.c (.int .u8 35)), none⟩, ⟨(some 57), .mv (.t 56), none⟩, ⟨(some 58), .mv (.t 6), (some (57, true))⟩, ⟨(some 59), .bin .neq (.t 58) (.c (.int .u8 46)), (some (57, true))⟩, ⟨(some 60), .pick (.t 57) (.t 59) (.c (.bool false)), none⟩, ⟨(some 61), .mv (.t 60), none⟩, ⟨(some 62), .mv (.t 6), (some (61, true))⟩, ⟨(some 63), .bin .neq (.t 62) (.c (.int .u8 67)), (some (61, true))⟩, ⟨(some 64), .pick (.t 61) (.t 63) (.c (.bool false)), none⟩, ⟨(some 65), .mv (.t 64), none⟩, ⟨(some 66), .mv (.t 6), (some (65, true))⟩, ⟨(some 67), .bin .neq (.t 66) (.c (.int .u8 80)), (some (65, true))⟩, ⟨(some 68), .pick (.t 65) (.t 67) (.c (.bool false)), none⟩])
  (.cond (.t 68) (.seq (.ops [⟨(some 2), .mv (.c (.bool false)), none⟩])
  .ret) .skip))
  (.seq (.ops [⟨(some 69), .mv (.t 6), none⟩, ⟨(some 70), .bin .eql (.t 69) (.c (.int .u8 67)), none⟩, ⟨(some 71), .mv (.t 70), none⟩, ⟨(some 72), .mv (.t 4), (some (71, true))⟩, ⟨(some 73), .not (.t 72), (some (71, true))⟩, ⟨(some 74), .pick (.t 71) (.t 73) (.c (.bool false)), none⟩])
  (.cond (.t 74) (.seq (.ops [⟨(some 75), .mv (.t 3), none⟩, ⟨(some 76), .mv (.t 5), none⟩, ⟨(some 77), .iaS 1 (.t 75) (.t 76), none⟩, ⟨none, .store 1 (.t 77) (.c (.bool true)), none⟩])
  (.ops [⟨(some 4), .mv (.c (.bool true)), none⟩])) .skip)))))
  (.ops [⟨(some 49), .mv (.t 5), none⟩, ⟨(some 50), .bin .add (.t 49) (.c (.int .i64 1)), none⟩, ⟨(some 5), .mv (.t 50), none⟩]))))))
  (.seq (.seq (.ops [⟨(some 7), .mv (.c (.int .i64 0)), none⟩])
  (.block 2 (.loop (.seq (.seq (.ops [⟨(some 78), .mv (.t 7), none⟩, ⟨(some 79), .mv (.t 3), none⟩, ⟨(some 80), .len false (.t 79), none⟩, ⟨(some 81), .bin .lss (.t 78) (.t 80), none⟩])
  (.cond (.t 81) .skip (.exit 2)))
  (.seq (.block 3 (.seq (.ops [⟨(some 8), .mv (.c (.int .i64 0)), none⟩])
  (.block 4 (.loop (.seq (.seq (.ops [⟨(some 84), .mv (.t 8), none⟩, ⟨(some 85), .mv (.t 3), none⟩, ⟨(some 86), .len false (.t 85), none⟩, ⟨(some 87), .bin .lss (.t 84) (.t 86), none⟩])
  (.cond (.t 87) .skip (.exit 4)))
  (.seq (.block 5 (.seq (.ops [⟨(some 9), .mv (.c (.int .i64 0)), none⟩])
  (.block 6 (.loop (.seq (.seq (.ops [⟨(some 90), .mv (.t 9), none⟩, ⟨(some 91), .mv (.t 3), none⟩, ⟨(some 92), .len false (.t 91), none⟩, ⟨(some 93), .bin .lss (.t 90) (.t 92), none⟩, ⟨(some 94), .mv (.t 93), none⟩, ⟨(some 95), .fadd 2 (.t 1), (some (94, true))⟩, ⟨(some 96), .load1 (.t 95), (some (94, true))⟩, ⟨(some 97), .mv (.t 8), (some (94, true))⟩, ⟨(some 98), .idxS (.t 96) (.t 97), (some (94, true))⟩, ⟨(some 99), .bin .neq (.t 98) (.c (.int .u8 35)), (some (94, true))⟩, ⟨(some 100), .pick (.t 94) (.t 99) (.c (.bool false)), none⟩])
  (.cond (.t 100) .skip (.exit 6)))
  (.seq (.block 7 (.seq (.ops [⟨(some 103), .mv (.t 3), none⟩, ⟨(some 104), .mv (.t 9), none⟩, ⟨(some 105), .iaS 1 (.t 103) (.t 104), none⟩, ⟨(some 106), .load1 (.t 105), none⟩, ⟨(some 107), .mv (.t 106), none⟩, ⟨(some 108), .fadd 0 (.t 1), (some (107, true))⟩, ⟨(some 109), .load1 (.t 108), (some (107, true))⟩, ⟨(some 110), .mv (.t 8), (some (107, true))⟩, ⟨(some 111), .mv (.t 9), (some (107, true))⟩, ⟨(some 112), .call 26 [(.t 109), (.t 110), (.t 111)], (some (107, true))⟩, ⟨(some 113), .pick (.t 107) (.t 112) (.c (.bool false)), none⟩])
  (.cond (.t 113) (.ops [⟨(some 114), .mv (.t 3), none⟩, ⟨(some 115), .mv (.t 8), none⟩, ⟨(some 116), .iaS 1 (.t 114) (.t 115), none⟩, ⟨none, .store 1 (.t 116) (.c (.bool true)), none⟩]) .skip)))
  (.ops [⟨(some 101), .mv (.t 9), none⟩, ⟨(some 102), .bin .add (.t 101) (.c (.int .i64 1)), none⟩, ⟨(some 9), .mv (.t 102), none⟩])))))))
  (.ops [⟨(some 88), .mv (.t 8), none⟩, ⟨(some 89), .bin .add (.t 88) (.c (.int .i64 1)), none⟩, ⟨(some 8), .mv (.t 89), none⟩])))))))
  (.ops [⟨(some 82), .mv (.t 7), none⟩, ⟨(some 83), .bin .add (.t 82) (.c (.int .i64 1)), none⟩, ⟨(some 7), .mv (.t 83), none⟩]))))))
  (.seq (.seq (.ops [⟨(some 10), .mv (.c (.int .i64 0)), none⟩])
  (.block 8 (.loop (.seq (.seq (.ops [⟨(some 117), .mv (.t 10), none⟩, ⟨(some 118), .mv (.t 3), none⟩, ⟨(some 119), .len false (.t 118), none⟩, ⟨(some 120), .bin .lss (.t 117) (.t 119), none⟩])
  (.cond (.t 120) .skip (.exit 8)))
  (.seq (.block 9 (.seq (.ops [⟨(some 123), .mv (.t 3), none⟩, ⟨(some 124), .mv (.t 10), none⟩, ⟨(some 125), .iaS 1 (.t 123) (.t 124), none⟩, ⟨(some 126), .load1 (.t 125), none⟩, ⟨(some 127), .not (.t 126), none⟩, ⟨(some 128), .mv (.t 127), none⟩, ⟨(some 129), .fadd 2 (.t 1), (some (128, true))⟩, ⟨(some 130), .load1 (.t 129), (some (128, true))⟩, ⟨(some 131), .mv (.t 10), (some (128, true))⟩, ⟨(some 132), .idxS (.t 130) (.t 131), (some (128, true))⟩, ⟨(some 133), .bin .neq (.t 132) (.c (.int .u8 35)), (some (128, true))⟩, ⟨(some 134), .pick (.t 128) (.t 133) (.c (.bool false)), none⟩])
  (.cond (.t 134) (.seq (.ops [⟨(some 2), .mv (.c (.bool false)), none⟩])
  .ret) .skip)))
  (.ops [⟨(some 121), .mv (.t 10), none⟩, ⟨(some 122), .bin .add (.t 121) (.c (.int .i64 1)), none⟩, ⟨(some 10), .mv (.t 122), none⟩]))))))
  (.seq (.ops [⟨(some 135), .mv (.t 4), none⟩, ⟨(some 2), .mv (.t 135), none⟩])
  .ret))))))))
def r16 : List RV := [.t 2]
theorem fn16 : cFn Tryd.prog 16 = some (c16, r16, 136) := by kernel_rfl

/-- dynamo/dynamolaw14.Of -/
def c17 : MC :=
  (.seq (.ops [⟨(some 1), .box (.t 0), none⟩, ⟨(some 2), .alloc [(.int .i64 0), (.int .i64 0), (.string ⟨#[]⟩)], none⟩])
  (.seq (.ops [⟨(some 3), .fadd 0 (.t 1), none⟩, ⟨(some 4), .load1 (.t 3), none⟩, ⟨(some 5), .fadd 1 (.t 1), none⟩, ⟨(some 6), .load1 (.t 5), none⟩, ⟨(some 7), .fadd 2 (.t 1), none⟩, ⟨(some 8), .load1 (.t 7), none⟩, ⟨(some 9), .bld [(.int .i64 0), (.int .i64 0), (.string ⟨#[]⟩)] [(0, 1, (.t 4)), (1, 1, (.t 6)), (2, 1, (.t 8))], none⟩, ⟨none, .store 3 (.t 2) (.t 9), none⟩])
  .ret))
def r17 : List RV := [.cell 2 3 true]
theorem fn17 : cFn Tryd.prog 17 = some (c17, r17, 10) := by kernel_rfl

/-- dynamo/safe.On -/
def c18 : MC :=
  (.seq (.ops [⟨(some 2), .box (.t 0), none⟩, ⟨(some 3), .box (.t 1), none⟩, ⟨(some 4), .mv (.c (.slice none 0 0)), none⟩])
  (.seq (.ops [⟨(some 5), .loadN 3 (.t 2), none⟩, ⟨(some 6), .call 31 [(.t 5), (.c (.int .u8 67))], none⟩, ⟨(some 7), .mkf (.func 38) [] [(.t 3)], none⟩, ⟨(some 8), .call 37 [(.t 6), (.t 7)], none⟩, ⟨(some 4), .mv (.t 8), none⟩])
  .ret))
def r18 : List RV := [.t 4]
theorem fn18 : cFn Tryd.prog 18 = some (c18, r18, 9) := by kernel_rfl

/-- dynamo/safe.Need -/
def c19 : MC :=
  (.seq (.ops [⟨(some 4), .box (.t 0), none⟩, ⟨(some 8), .mv (.c (.int .i64 0)), none⟩, ⟨(some 9), .mv (.c (.bool false)), none⟩])
  (.seq (.ops [⟨(some 13), .loadN 3 (.t 4), none⟩, ⟨(some 14), .mv (.t 1), none⟩, ⟨(some 15), .mv (.t 3), none⟩, ⟨(some 16), .call 40 [(.t 13), (.t 14), (.t 15)], none⟩, ⟨(some 12), .mv (.t 16), none⟩, ⟨(some 17), .ext (.t 12) 0, none⟩, ⟨(some 18), .ext (.t 12) 1, none⟩, ⟨(some 10), .mv (.t 17), none⟩, ⟨(some 11), .mv (.t 18), none⟩])
  (.seq (.seq (.ops [⟨(some 19), .mv (.t 11), none⟩, ⟨(some 20), .eqN .iface true (.t 19) (.c .nilIface), none⟩, ⟨(some 21), .mv (.t 20), none⟩, ⟨(some 22), .loadN 3 (.t 4), (some (21, false))⟩, ⟨(some 23), .mv (.t 2), (some (21, false))⟩, ⟨(some 24), .call 30 [(.t 22), (.t 23)], (some (21, false))⟩, ⟨(some 25), .not (.t 24), (some (21, false))⟩, ⟨(some 26), .pick (.t 21) (.c (.bool true)) (.t 25), none⟩, ⟨(some 27), .mv (.t 26), none⟩, ⟨(some 28), .mv (.t 10), (some (27, false))⟩, ⟨(some 29), .mv (.t 2), (some (27, false))⟩, ⟨(some 30), .iaS 1 (.t 28) (.t 29), (some (27, false))⟩, ⟨(some 31), .load1 (.t 30), (some (27, false))⟩, ⟨(some 32), .bin .lss (.t 31) (.c (.int .i64 0)), (some (27, false))⟩, ⟨(some 33), .pick (.t 27) (.c (.bool true)) (.t 32), none⟩])
  (.cond (.t 33) (.seq (.ops [⟨(some 8), .mv (.c (.int .i64 0)), none⟩, ⟨(some 9), .mv (.c (.bool false)), none⟩])
  .ret) .skip))
  (.seq (.ops [⟨(some 34), .mv (.t 10), none⟩, ⟨(some 35), .mv (.t 2), none⟩, ⟨(some 36), .iaS 1 (.t 34) (.t 35), none⟩, ⟨(some 37), .load1 (.t 36), none⟩, ⟨(some 8), .mv (.t 37), none⟩, ⟨(some 9), .mv (.c (.bool true)), none⟩])
  .ret))))
def r19 : List RV := [.t 8, .t 9]
theorem fn19 : cFn Tryd.prog 19 = some (c19, r19, 38) := by kernel_rfl

/-- dynamo/safe.Safe -/
def c20 : MC :=
  (.seq (.ops [⟨(some 5), .box (.t 0), none⟩, ⟨(some 10), .mv (.c (.bool false)), none⟩])
  (.seq (.ops [⟨(some 14), .loadN 3 (.t 5), none⟩, ⟨(some 15), .mv (.t 1), none⟩, ⟨(some 16), .mv (.t 2), none⟩, ⟨(some 17), .mv (.t 4), none⟩, ⟨(some 18), .call 19 [(.t 14), (.t 15), (.t 16), (.t 17)], none⟩, ⟨(some 13), .mv (.t 18), none⟩, ⟨(some 19), .ext (.t 13) 0, none⟩, ⟨(some 20), .ext (.t 13) 1, none⟩, ⟨(some 11), .mv (.t 19), none⟩, ⟨(some 12), .mv (.t 20), none⟩])
  (.seq (.ops [⟨(some 21), .mv (.t 12), none⟩, ⟨(some 22), .mv (.t 21), none⟩, ⟨(some 23), .mv (.t 3), (some (22, true))⟩, ⟨(some 24), .mv (.t 11), (some (22, true))⟩, ⟨(some 25), .bin .geq (.t 23) (.t 24), (some (22, true))⟩, ⟨(some 26), .pick (.t 22) (.t 25) (.c (.bool false)), none⟩, ⟨(some 10), .mv (.t 26), none⟩])
  .ret)))
def r20 : List RV := [.t 10]
theorem fn20 : cFn Tryd.prog 20 = some (c20, r20, 27) := by kernel_rfl

/-- dynamo/dynamoref21.On -/
def c21 : MC :=
  (.seq (.ops [⟨(some 2), .box (.t 0), none⟩, ⟨(some 3), .box (.t 1), none⟩, ⟨(some 4), .mv (.c (.slice none 0 0)), none⟩])
  (.seq (.ops [⟨(some 5), .mv (.c (.slice none 0 0)), none⟩])
  (.seq (.seq (.ops [⟨(some 6), .mv (.c (.int .i64 0)), none⟩])
  (.block 0 (.loop (.seq (.seq (.ops [⟨(some 7), .mv (.t 6), none⟩, ⟨(some 8), .fadd 2 (.t 2), none⟩, ⟨(some 9), .load1 (.t 8), none⟩, ⟨(some 10), .len true (.t 9), none⟩, ⟨(some 11), .bin .lss (.t 7) (.t 10), none⟩])
  (.cond (.t 11) .skip (.exit 0)))
  (.seq (.block 1 (.seq (.ops [⟨(some 14), .fadd 2 (.t 2), none⟩, ⟨(some 15), .load1 (.t 14), none⟩, ⟨(some 16), .mv (.t 6), none⟩, ⟨(some 17), .idxS (.t 15) (.t 16), none⟩, ⟨(some 18), .bin .eql (.t 17) (.c (.int .u8 67)), none⟩, ⟨(some 19), .mv (.t 18), none⟩, ⟨(some 20), .loadN 8 (.t 3), (some (19, true))⟩, ⟨(some 21), .mv (.t 6), (some (19, true))⟩, ⟨(some 22), .call 23 [(.t 20), (.t 21)], (some (19, true))⟩, ⟨(some 23), .not (.t 22), (some (19, true))⟩, ⟨(some 24), .pick (.t 19) (.t 23) (.c (.bool false)), none⟩])
  (.cond (.t 24) (.ops [⟨(some 25), .mv (.t 5), none⟩, ⟨(some 26), .mv (.t 6), none⟩, ⟨(some 27), .bsl 1 1 [(.int .i64 0)] [(0, (.t 26))], none⟩, ⟨(some 28), .app 1 8 (.t 25) (.t 27), none⟩, ⟨(some 5), .mv (.t 28), none⟩]) .skip)))
  (.ops [⟨(some 12), .mv (.t 6), none⟩, ⟨(some 13), .bin .add (.t 12) (.c (.int .i64 1)), none⟩, ⟨(some 6), .mv (.t 13), none⟩]))))))
  (.seq (.ops [⟨(some 29), .mv (.t 5), none⟩, ⟨(some 4), .mv (.t 29), none⟩])
  .ret))))
def r21 : List RV := [.t 4]
theorem fn21 : cFn Tryd.prog 21 = some (c21, r21, 30) := by kernel_rfl

/-- dynamo/safe.Turn -/
def c22 : MC :=
  (.seq (.ops [⟨(some 3), .box (.t 0), none⟩, ⟨(some 6), .alloc [(.int .u8 0), (.int .u8 0), (.int .u8 0), (.int .u8 0), (.int .u8 0), (.int .u8 0), (.int .u8 0), (.int .u8 0)], none⟩])
  (.seq (.block 0 (.seq (.ops [⟨(some 16), .mv (.t 1), none⟩, ⟨(some 17), .bin .lss (.t 16) (.c (.int .i64 0)), none⟩, ⟨(some 18), .mv (.t 17), none⟩, ⟨(some 19), .mv (.t 1), (some (18, false))⟩, ⟨(some 20), .bin .geq (.t 19) (.c (.int .i64 64)), (some (18, false))⟩, ⟨(some 21), .pick (.t 18) (.c (.bool true)) (.t 20), none⟩, ⟨(some 15), .mv (.t 21), none⟩])
  (.cond (.t 15) (.seq (.ops [⟨(some 22), .loadN 8 (.t 3), none⟩, ⟨none, .store 8 (.t 6) (.t 22), none⟩])
  .ret) (.seq (.ops [⟨(some 24), .mv (.t 2), none⟩, ⟨(some 23), .mv (.t 24), none⟩])
  (.cond (.t 23) (.dops [⟨⟨(some 25), .mv (.t 1), none⟩, 0, false, false⟩, ⟨⟨(some 26), .bin .quo (.t 25) (.c (.int .i64 8)), none⟩, 1, false, false⟩, ⟨⟨(some 27), .iaA 8 1 (.t 3) (.t 26), none⟩, 2, false, false⟩, ⟨⟨(some 28), .load1 (.t 27), none⟩, 3, false, false⟩, ⟨⟨(some 29), .mv (.t 1), none⟩, 4, false, false⟩, ⟨⟨(some 30), .call 39 [(.t 29)], none⟩, 5, true, true⟩, ⟨⟨(some 31), .bin .or (.t 28) (.t 30), none⟩, 6, false, false⟩, ⟨⟨(some 32), .iaA 8 1 (.t 3) (.t 26), none⟩, 7, false, false⟩, ⟨⟨none, .store 1 (.t 32) (.t 31), none⟩, 8, true, false⟩]) (.dops [⟨⟨(some 7), .mv (.t 1), none⟩, 0, false, false⟩, ⟨⟨(some 8), .bin .quo (.t 7) (.c (.int .i64 8)), none⟩, 1, false, false⟩, ⟨⟨(some 9), .iaA 8 1 (.t 3) (.t 8), none⟩, 2, false, false⟩, ⟨⟨(some 10), .load1 (.t 9), none⟩, 3, false, false⟩, ⟨⟨(some 11), .mv (.t 1), none⟩, 4, false, false⟩, ⟨⟨(some 12), .call 39 [(.t 11)], none⟩, 5, true, true⟩, ⟨⟨(some 13), .bin .andNot (.t 10) (.t 12), none⟩, 6, false, false⟩, ⟨⟨(some 14), .iaA 8 1 (.t 3) (.t 8), none⟩, 7, false, false⟩, ⟨⟨none, .store 1 (.t 14) (.t 13), none⟩, 8, true, false⟩]))))))
  (.seq (.ops [⟨(some 33), .loadN 8 (.t 3), none⟩, ⟨none, .store 8 (.t 6) (.t 33), none⟩])
  .ret)))
def r22 : List RV := [.cell 6 8 true]
theorem fn22 : cFn Tryd.prog 22 = some (c22, r22, 34) := by kernel_rfl

/-- dynamo/dynamoref21.Off -/
def c23 : MC :=
  (.seq (.ops [⟨(some 2), .box (.t 0), none⟩, ⟨(some 4), .mv (.c (.bool false)), none⟩])
  (.seq (.ops [⟨(some 7), .mv (.t 1), none⟩, ⟨(some 8), .bin .quo (.t 7) (.c (.int .i64 8)), none⟩, ⟨(some 9), .iaA 8 1 (.t 2) (.t 8), none⟩, ⟨(some 10), .load1 (.t 9), none⟩, ⟨(some 5), .mv (.t 10), none⟩])
  (.seq (.seq (.ops [⟨(some 6), .mv (.c (.int .i64 0)), none⟩])
  (.block 0 (.loop (.seq (.seq (.ops [⟨(some 11), .mv (.t 6), none⟩, ⟨(some 12), .mv (.t 1), none⟩, ⟨(some 13), .bin .rem (.t 12) (.c (.int .i64 8)), none⟩, ⟨(some 14), .bin .lss (.t 11) (.t 13), none⟩])
  (.cond (.t 14) .skip (.exit 0)))
  (.seq (.block 1 (.ops [⟨(some 17), .mv (.t 5), none⟩, ⟨(some 18), .bin .quo (.t 17) (.c (.int .u8 2)), none⟩, ⟨(some 5), .mv (.t 18), none⟩]))
  (.ops [⟨(some 15), .mv (.t 6), none⟩, ⟨(some 16), .bin .add (.t 15) (.c (.int .i64 1)), none⟩, ⟨(some 6), .mv (.t 16), none⟩]))))))
  (.seq (.ops [⟨(some 19), .mv (.t 5), none⟩, ⟨(some 20), .bin .rem (.t 19) (.c (.int .u8 2)), none⟩, ⟨(some 21), .bin .eql (.t 20) (.c (.int .u8 1)), none⟩, ⟨(some 4), .mv (.t 21), none⟩])
  .ret))))
def r23 : List RV := [.t 4]
theorem fn23 : cFn Tryd.prog 23 = some (c23, r23, 22) := by kernel_rfl

/-- dynamo/dynamoref21.Need -/
def c24 : MC :=
  (.seq (.ops [⟨(some 4), .box (.t 0), none⟩, ⟨(some 8), .mv (.c (.int .i64 0)), none⟩])
  (.seq (.seq (.ops [⟨(some 9), .loadN 3 (.t 4), none⟩, ⟨(some 10), .call 16 [(.t 9)], none⟩, ⟨(some 11), .not (.t 10), none⟩, ⟨(some 12), .mv (.t 11), none⟩, ⟨(some 13), .mv (.t 3), (some (12, false))⟩, ⟨(some 14), .bin .lss (.t 13) (.c (.int .i64 1)), (some (12, false))⟩, ⟨(some 15), .pick (.t 12) (.c (.bool true)) (.t 14), none⟩, ⟨(some 16), .mv (.t 15), none⟩, ⟨(some 17), .mv (.t 3), (some (16, false))⟩, ⟨(some 18), .bin .gtr (.t 17) (.c (.int .i64 100)), (some (16, false))⟩, ⟨(some 19), .pick (.t 16) (.c (.bool true)) (.t 18), none⟩, ⟨(some 20), .mv (.t 19), none⟩, ⟨(some 21), .mv (.t 1), (some (20, false))⟩, ⟨(some 22), .len false (.t 21), (some (20, false))⟩, ⟨(some 23), .bin .gtr (.t 22) (.c (.int .i64 64)), (some (20, false))⟩, ⟨(some 24), .pick (.t 20) (.c (.bool true)) (.t 23), none⟩, ⟨(some 25), .mv (.t 24), none⟩, ⟨(some 26), .mv (.t 2), (some (25, false))⟩, ⟨(some 27), .bin .lss (.t 26) (.c (.int .i64 0)), (some (25, false))⟩, ⟨(some 28), .pick (.t 25) (.c (.bool true)) (.t 27), none⟩, ⟨(some 29), .mv (.t 28), none⟩, ⟨(some 30), .mv (.t 2), (some (29, false))⟩, ⟨(some 31), .fadd 2 (.t 4), (some (29, false))⟩, ⟨(some 32), .load1 (.t 31), (some (29, false))⟩, ⟨(some 33), .len true (.t 32), (some (29, false))⟩, ⟨(some 34), .bin .geq (.t 30) (.t 33), (some (29, false))⟩, ⟨(some 35), .pick (.t 29) (.c (.bool true)) (.t 34), none⟩])
  (.cond (.t 35) (.seq (.ops [⟨(some 8), .mv (.c (.int .i64 (-1))), none⟩])
  .ret) .skip))
  (.seq (.ops [⟨(some 36), .loadN 3 (.t 4), none⟩, ⟨(some 37), .mv (.t 1), none⟩, ⟨(some 38), .mv (.t 3), none⟩, ⟨(some 39), .call 41 [(.t 36), (.t 37), (.t 38)], none⟩, ⟨(some 40), .mv (.t 2), none⟩, ⟨(some 41), .iaS 1 (.t 39) (.t 40), none⟩, ⟨(some 42), .load1 (.t 41), none⟩, ⟨(some 8), .mv (.t 42), none⟩])
  .ret)))
def r24 : List RV := [.t 8]
theorem fn24 : cFn Tryd.prog 24 = some (c24, r24, 43) := by kernel_rfl

/-- dynamo/safe.May -/
def c25 : MC :=
  (.seq (.ops [⟨(some 6), .box (.t 0), none⟩, ⟨(some 12), .mv (.c (.bool false)), none⟩])
  (.seq (.ops [⟨(some 13), .loadN 3 (.t 6), none⟩, ⟨(some 14), .mv (.t 2), none⟩, ⟨(some 15), .call 27 [(.t 13), (.t 14)], none⟩, ⟨(some 16), .mv (.t 3), none⟩, ⟨(some 17), .call 42 [(.t 15), (.t 16)], none⟩, ⟨(some 18), .mv (.t 17), none⟩, ⟨(some 19), .mv (.t 4), (some (18, true))⟩, ⟨(some 20), .mv (.t 5), (some (18, true))⟩, ⟨(some 21), .bin .geq (.t 19) (.t 20), (some (18, true))⟩, ⟨(some 22), .pick (.t 18) (.t 21) (.c (.bool false)), none⟩, ⟨(some 23), .mv (.t 22), none⟩, ⟨(some 24), .loadN 3 (.t 6), (some (23, true))⟩, ⟨(some 25), .mv (.t 1), (some (23, true))⟩, ⟨(some 26), .mv (.t 3), (some (23, true))⟩, ⟨(some 27), .mv (.t 4), (some (23, true))⟩, ⟨(some 28), .mv (.t 5), (some (23, true))⟩, ⟨(some 29), .bin .sub (.t 27) (.t 28), (some (23, true))⟩, ⟨(some 30), .mv (.t 5), (some (23, true))⟩, ⟨(some 31), .call 20 [(.t 24), (.t 25), (.t 26), (.t 29), (.t 30)], (some (23, true))⟩, ⟨(some 32), .pick (.t 23) (.t 31) (.c (.bool false)), none⟩, ⟨(some 12), .mv (.t 32), none⟩])
  .ret))
def r25 : List RV := [.t 12]
theorem fn25 : cFn Tryd.prog 25 = some (c25, r25, 33) := by kernel_rfl

/-- dynamo/dynamoref14.Beside -/
def c26 : MC :=
  (.seq (.ops [⟨(some 6), .mv (.c (.bool false)), none⟩])
  (.seq (.seq (.dops [⟨⟨(some 7), .mv (.t 1), none⟩, 0, false, false⟩, ⟨⟨(some 8), .mv (.t 0), none⟩, 1, false, false⟩, ⟨⟨(some 9), .bin .quo (.t 7) (.t 8), none⟩, 2, false, false⟩, ⟨⟨(some 10), .mv (.t 2), none⟩, 3, false, false⟩, ⟨⟨(some 11), .mv (.t 0), none⟩, 4, false, false⟩, ⟨⟨(some 12), .bin .quo (.t 10) (.t 11), none⟩, 5, false, false⟩, ⟨⟨(some 13), .bin .eql (.t 9) (.t 12), none⟩, 6, false, false⟩])
  (.cond (.t 13) (.seq (.ops [⟨(some 14), .mv (.t 1), none⟩, ⟨(some 15), .mv (.t 2), none⟩, ⟨(some 16), .bin .add (.t 15) (.c (.int .i64 1)), none⟩, ⟨(some 17), .bin .eql (.t 14) (.t 16), none⟩, ⟨(some 18), .mv (.t 17), none⟩, ⟨(some 19), .mv (.t 2), (some (18, false))⟩, ⟨(some 20), .mv (.t 1), (some (18, false))⟩, ⟨(some 21), .bin .add (.t 20) (.c (.int .i64 1)), (some (18, false))⟩, ⟨(some 22), .bin .eql (.t 19) (.t 21), (some (18, false))⟩, ⟨(some 23), .pick (.t 18) (.c (.bool true)) (.t 22), none⟩, ⟨(some 6), .mv (.t 23), none⟩])
  .ret) .skip))
  (.seq (.ops [⟨(some 24), .mv (.t 1), none⟩, ⟨(some 25), .mv (.t 2), none⟩, ⟨(some 26), .mv (.t 0), none⟩, ⟨(some 27), .bin .add (.t 25) (.t 26), none⟩, ⟨(some 28), .bin .eql (.t 24) (.t 27), none⟩, ⟨(some 29), .mv (.t 28), none⟩, ⟨(some 30), .mv (.t 2), (some (29, false))⟩, ⟨(some 31), .mv (.t 1), (some (29, false))⟩, ⟨(some 32), .mv (.t 0), (some (29, false))⟩, ⟨(some 33), .bin .add (.t 31) (.t 32), (some (29, false))⟩, ⟨(some 34), .bin .eql (.t 30) (.t 33), (some (29, false))⟩, ⟨(some 35), .pick (.t 29) (.c (.bool true)) (.t 34), none⟩, ⟨(some 6), .mv (.t 35), none⟩])
  .ret)))
def r26 : List RV := [.t 6]
theorem fn26 : cFn Tryd.prog 26 = some (c26, r26, 36) := by kernel_rfl

/-- dynamo/grid.Near -/
def c27 : MC :=
  (.seq (.ops [⟨(some 2), .box (.t 0), none⟩, ⟨(some 4), .mv (.c (.slice none 0 0)), none⟩])
  (.seq (.seq (.ops [⟨(some 5), .loadN 3 (.t 2), none⟩, ⟨(some 6), .mv (.t 1), none⟩, ⟨(some 7), .call 30 [(.t 5), (.t 6)], none⟩, ⟨(some 8), .not (.t 7), none⟩])
  (.cond (.t 8) (.seq (.ops [⟨(some 4), .mv (.c (.slice none 0 0)), none⟩])
  .ret) .skip))
  (.seq (.ops [⟨(some 9), .loadN 3 (.t 2), none⟩, ⟨(some 10), .mv (.t 1), none⟩, ⟨(some 11), .call 43 [(.t 9), (.t 10)], none⟩, ⟨(some 4), .mv (.t 11), none⟩])
  .ret)))
def r27 : List RV := [.t 4]
theorem fn27 : cFn Tryd.prog 27 = some (c27, r27, 12) := by kernel_rfl

/-- dynamo/dynamolaw14.awake -/
def c28 : MC :=
  (.seq (.ops [⟨(some 0), .mv (.c (.bool false)), none⟩])
  (.seq (.ops [⟨(some 4), .call 34 [(.c (.string ⟨#[46, 67, 10]⟩))], none⟩, ⟨(some 3), .mv (.t 4), none⟩, ⟨(some 5), .ext (.t 3) 0, none⟩, ⟨(some 6), .ext (.t 3) 1, none⟩, ⟨(some 1), .alloc [(.int .i64 0), (.int .i64 0), (.string ⟨#[]⟩)], none⟩, ⟨none, .store 3 (.t 1) (.t 5), none⟩, ⟨(some 2), .mv (.t 6), none⟩])
  (.seq (.ops [⟨(some 7), .mv (.t 2), none⟩, ⟨(some 8), .call 33 [(.t 7)], none⟩, ⟨(some 9), .bin .eql (.t 8) (.c (.int .i64 0)), none⟩, ⟨(some 10), .mv (.t 9), none⟩, ⟨(some 11), .fadd 0 (.t 1), (some (10, true))⟩, ⟨(some 12), .load1 (.t 11), (some (10, true))⟩, ⟨(some 13), .bin .eql (.t 12) (.c (.int .i64 2)), (some (10, true))⟩, ⟨(some 14), .pick (.t 10) (.t 13) (.c (.bool false)), none⟩, ⟨(some 15), .mv (.t 14), none⟩, ⟨(some 16), .fadd 1 (.t 1), (some (15, true))⟩, ⟨(some 17), .load1 (.t 16), (some (15, true))⟩, ⟨(some 18), .bin .eql (.t 17) (.c (.int .i64 1)), (some (15, true))⟩, ⟨(some 19), .pick (.t 15) (.t 18) (.c (.bool false)), none⟩, ⟨(some 20), .mv (.t 19), none⟩, ⟨(some 21), .loadN 3 (.t 1), (some (20, true))⟩, ⟨(some 22), .call 30 [(.t 21), (.c (.int .i64 0))], (some (20, true))⟩, ⟨(some 23), .pick (.t 20) (.t 22) (.c (.bool false)), none⟩, ⟨(some 0), .mv (.t 23), none⟩])
  .ret)))
def r28 : List RV := [.t 0]
theorem fn28 : cFn Tryd.prog 28 = some (c28, r28, 24) := by kernel_rfl

/-- dynamo/grid.Right -/
def c29 : MC :=
  (.seq (.ops [⟨(some 1), .box (.t 0), none⟩, ⟨(some 2), .mv (.c (.bool false)), none⟩])
  (.seq (.seq (.ops [⟨(some 4), .loadN 3 (.t 1), none⟩, ⟨(some 5), .call 44 [(.t 4)], none⟩, ⟨(some 6), .not (.t 5), none⟩])
  (.cond (.t 6) (.seq (.ops [⟨(some 2), .mv (.c (.bool false)), none⟩])
  .ret) .skip))
  (.seq (.ops [⟨(some 7), .fadd 2 (.t 1), none⟩, ⟨(some 8), .load1 (.t 7), none⟩, ⟨(some 9), .call 45 [(.t 8), (.c (.string ⟨#[67]⟩))], none⟩, ⟨(some 3), .mv (.t 9), none⟩])
  (.seq (.dops [⟨⟨(some 10), .mv (.t 3), none⟩, 0, false, false⟩, ⟨⟨(some 11), .bin .geq (.t 10) (.c (.int .i64 0)), none⟩, 1, false, false⟩, ⟨⟨(some 12), .mv (.t 11), none⟩, 2, false, false⟩, ⟨⟨(some 13), .loadN 3 (.t 1), (some (12, true))⟩, 3, false, false⟩, ⟨⟨(some 14), .mv (.t 3), (some (12, true))⟩, 4, false, false⟩, ⟨⟨(some 16), .fadd 2 (.t 1), (some (12, true))⟩, 6, false, false⟩, ⟨⟨(some 17), .load1 (.t 16), (some (12, true))⟩, 7, false, false⟩, ⟨⟨(some 18), .len true (.t 17), (some (12, true))⟩, 8, false, false⟩, ⟨⟨(some 19), .fadd 2 (.t 1), (some (12, true))⟩, 9, false, false⟩, ⟨⟨(some 20), .load1 (.t 19), (some (12, true))⟩, 10, false, false⟩, ⟨⟨(some 15), .call 46 [(.t 13), (.t 14)], (some (12, true))⟩, 5, true, true⟩, ⟨⟨(some 21), .call 47 [(.t 20), (.c (.string ⟨#[35]⟩))], (some (12, true))⟩, 11, true, true⟩, ⟨⟨(some 22), .bin .sub (.t 18) (.t 21), (some (12, true))⟩, 12, false, false⟩, ⟨⟨(some 23), .bin .eql (.t 15) (.t 22), (some (12, true))⟩, 13, false, false⟩, ⟨⟨(some 24), .pick (.t 12) (.t 23) (.c (.bool false)), none⟩, 14, false, false⟩, ⟨⟨(some 2), .mv (.t 24), none⟩, 15, false, false⟩])
  .ret))))
def r29 : List RV := [.t 2]
theorem fn29 : cFn Tryd.prog 29 = some (c29, r29, 25) := by kernel_rfl

/-- dynamo/grid.Open -/
def c30 : MC :=
  (.seq (.ops [⟨(some 2), .box (.t 0), none⟩, ⟨(some 4), .mv (.c (.bool false)), none⟩])
  (.seq (.ops [⟨(some 5), .loadN 3 (.t 2), none⟩, ⟨(some 6), .call 29 [(.t 5)], none⟩, ⟨(some 7), .mv (.t 6), none⟩, ⟨(some 8), .loadN 3 (.t 2), (some (7, true))⟩, ⟨(some 9), .mv (.t 1), (some (7, true))⟩, ⟨(some 10), .call 48 [(.t 8), (.t 9)], (some (7, true))⟩, ⟨(some 11), .pick (.t 7) (.t 10) (.c (.bool false)), none⟩, ⟨(some 4), .mv (.t 11), none⟩])
  .ret))
def r30 : List RV := [.t 4]
theorem fn30 : cFn Tryd.prog 30 = some (c30, r30, 12) := by kernel_rfl

/-- dynamo/grid.Kind -/
def c31 : MC :=
  (.seq (.ops [⟨(some 2), .box (.t 0), none⟩, ⟨(some 4), .mv (.c (.slice none 0 0)), none⟩])
  (.seq (.seq (.ops [⟨(some 7), .loadN 3 (.t 2), none⟩, ⟨(some 8), .call 29 [(.t 7)], none⟩, ⟨(some 9), .not (.t 8), none⟩])
  (.cond (.t 9) (.seq (.ops [⟨(some 4), .mv (.c (.slice none 0 0)), none⟩])
  .ret) .skip))
  (.seq (.ops [⟨(some 5), .mv (.c (.slice none 0 0)), none⟩])
  (.seq (.seq (.ops [⟨(some 10), .fadd 2 (.t 2), none⟩, ⟨(some 11), .load1 (.t 10), none⟩, ⟨(some 12), .len true (.t 11), none⟩, ⟨(some 13), .mv (.c (.int .i64 0)), none⟩])
  (.block 0 (.loop (.seq (.ops [⟨(some 14), .bin .lss (.t 13) (.t 12), none⟩])
  (.seq (.cond (.t 14) .skip (.exit 0))
  (.seq (.block 1 (.seq (.ops [⟨(some 15), .mv (.t 13), none⟩, ⟨(some 6), .mv (.t 15), none⟩])
  (.seq (.ops [⟨(some 16), .fadd 2 (.t 2), none⟩, ⟨(some 17), .load1 (.t 16), none⟩, ⟨(some 18), .mv (.t 6), none⟩, ⟨(some 19), .idxS (.t 17) (.t 18), none⟩, ⟨(some 20), .mv (.t 1), none⟩, ⟨(some 21), .bin .eql (.t 19) (.t 20), none⟩])
  (.cond (.t 21) (.ops [⟨(some 22), .mv (.t 5), none⟩, ⟨(some 23), .mv (.t 6), none⟩, ⟨(some 24), .bsl 1 1 [(.int .i64 0)] [(0, (.t 23))], none⟩, ⟨(some 25), .app 1 8 (.t 22) (.t 24), none⟩, ⟨(some 5), .mv (.t 25), none⟩]) .skip))))
  (.ops [⟨(some 26), .bin .add (.t 13) (.c (.int .i64 1)), none⟩, ⟨(some 13), .mv (.t 26), none⟩])))))))
  (.seq (.ops [⟨(some 27), .mv (.t 5), none⟩, ⟨(some 4), .mv (.t 27), none⟩])
  .ret)))))
def r31 : List RV := [.t 4]
theorem fn31 : cFn Tryd.prog 31 = some (c31, r31, 28) := by kernel_rfl

/-- dynamo/tag.Num -/
def c33 : MC :=
  (.seq (.ops [⟨(some 2), .mv (.c (.int .i64 0)), none⟩])
  (.seq (.seq (.ops [⟨(some 4), .mv (.t 0), none⟩, ⟨(some 5), .eqN .iface false (.t 4) (.c .nilIface), none⟩])
  (.cond (.t 5) (.seq (.ops [⟨(some 2), .mv (.c (.int .i64 0)), none⟩])
  .ret) .skip))
  (.seq (.ops [⟨(some 3), .alloc [(.int .i64 0)], none⟩])
  (.seq (.seq (.ops [⟨(some 6), .mv (.t 0), none⟩, ⟨(some 7), .mki 86 (.t 3), none⟩, ⟨(some 8), .call 53 [(.t 6), (.t 7)], none⟩])
  (.cond (.t 8) (.seq (.ops [⟨(some 9), .load1 (.t 3), none⟩, ⟨(some 2), .mv (.t 9), none⟩])
  .ret) .skip))
  (.seq (.ops [⟨(some 2), .mv (.c (.int .i64 (-1))), none⟩])
  .ret)))))
def r33 : List RV := [.t 2]
theorem fn33 : cFn Tryd.prog 33 = some (c33, r33, 10) := by kernel_rfl

/-- dynamo/dynamoref14.Lay -/
def c35 : MC :=
  (.seq (.ops [⟨(some 1), .box (.t 0), none⟩, ⟨(some 2), .mv (.c (.string ⟨#[]⟩)), none⟩])
  (.seq (.ops [⟨(some 3), .mv (.c (.string ⟨#[]⟩)), none⟩])
  (.seq (.seq (.ops [⟨(some 4), .mv (.c (.int .i64 0)), none⟩])
  (.block 0 (.loop (.seq (.seq (.ops [⟨(some 5), .mv (.t 4), none⟩, ⟨(some 6), .fadd 1 (.t 1), none⟩, ⟨(some 7), .load1 (.t 6), none⟩, ⟨(some 8), .bin .lss (.t 5) (.t 7), none⟩])
  (.cond (.t 8) .skip (.exit 0)))
  (.seq (.block 1 (.ops [⟨(some 11), .mv (.t 3), none⟩, ⟨(some 12), .fadd 2 (.t 1), none⟩, ⟨(some 13), .load1 (.t 12), none⟩, ⟨(some 14), .mv (.t 4), none⟩, ⟨(some 15), .fadd 0 (.t 1), none⟩, ⟨(some 16), .load1 (.t 15), none⟩, ⟨(some 17), .bin .mul (.t 14) (.t 16), none⟩, ⟨(some 18), .mv (.t 4), none⟩, ⟨(some 19), .bin .add (.t 18) (.c (.int .i64 1)), none⟩, ⟨(some 20), .fadd 0 (.t 1), none⟩, ⟨(some 21), .load1 (.t 20), none⟩, ⟨(some 22), .bin .mul (.t 19) (.t 21), none⟩, ⟨(some 23), .slcS (.t 13) (some (.t 17)) (some (.t 22)), none⟩, ⟨(some 24), .bin .add (.t 11) (.t 23), none⟩, ⟨(some 25), .bin .add (.t 24) (.c (.string ⟨#[10]⟩)), none⟩, ⟨(some 3), .mv (.t 25), none⟩]))
  (.ops [⟨(some 9), .mv (.t 4), none⟩, ⟨(some 10), .bin .add (.t 9) (.c (.int .i64 1)), none⟩, ⟨(some 4), .mv (.t 10), none⟩]))))))
  (.seq (.ops [⟨(some 26), .mv (.t 3), none⟩, ⟨(some 2), .mv (.t 26), none⟩])
  .ret))))
def r35 : List RV := [.t 2]
theorem fn35 : cFn Tryd.prog 35 = some (c35, r35, 27) := by kernel_rfl

/-- dynamo/dynamoref14.Read -/
def c36 : MC :=
  (.seq (.ops [⟨(some 2), .alloc [(.int .i64 0), (.int .i64 0), (.string ⟨#[]⟩)], none⟩, ⟨(some 3), .mv (.c (.bool false)), none⟩])
  (.seq (.ops [⟨(some 4), .alloc [(.int .i64 0), (.int .i64 0), (.string ⟨#[]⟩)], none⟩])
  (.seq (.ops [⟨(some 5), .mv (.c (.int .i64 0)), none⟩])
  (.seq (.seq (.ops [⟨(some 6), .mv (.c (.int .i64 0)), none⟩])
  (.block 0 (.loop (.seq (.seq (.ops [⟨(some 7), .mv (.t 6), none⟩, ⟨(some 8), .mv (.t 0), none⟩, ⟨(some 9), .len true (.t 8), none⟩, ⟨(some 10), .bin .lss (.t 7) (.t 9), none⟩])
  (.cond (.t 10) .skip (.exit 0)))
  (.seq (.block 1 (.seq (.seq (.ops [⟨(some 13), .mv (.t 0), none⟩, ⟨(some 14), .mv (.t 6), none⟩, ⟨(some 15), .idxS (.t 13) (.t 14), none⟩, ⟨(some 16), .bin .neq (.t 15) (.c (.int .u8 10)), none⟩])
  (.cond (.t 16) (.exit 1) .skip))
  (.seq (.seq (.ops [⟨(some 17), .fadd 1 (.t 4), none⟩, ⟨(some 18), .load1 (.t 17), none⟩, ⟨(some 19), .bin .gtr (.t 18) (.c (.int .i64 0)), none⟩, ⟨(some 20), .mv (.t 19), none⟩, ⟨(some 21), .mv (.t 6), (some (20, true))⟩, ⟨(some 22), .mv (.t 5), (some (20, true))⟩, ⟨(some 23), .bin .sub (.t 21) (.t 22), (some (20, true))⟩, ⟨(some 24), .fadd 0 (.t 4), (some (20, true))⟩, ⟨(some 25), .load1 (.t 24), (some (20, true))⟩, ⟨(some 26), .bin .neq (.t 23) (.t 25), (some (20, true))⟩, ⟨(some 27), .pick (.t 20) (.t 26) (.c (.bool false)), none⟩])
  (.cond (.t 27) (.seq (.ops [⟨(some 28), .bld [(.int .i64 0), (.int .i64 0), (.string ⟨#[]⟩)] [], none⟩, ⟨none, .store 3 (.t 2) (.t 28), none⟩, ⟨(some 3), .mv (.c (.bool false)), none⟩])
  .ret) .skip))
  (.seq (.ops [⟨(some 29), .mv (.t 6), none⟩, ⟨(some 30), .mv (.t 5), none⟩, ⟨(some 31), .bin .sub (.t 29) (.t 30), none⟩, ⟨(some 32), .fadd 0 (.t 4), none⟩, ⟨none, .store 1 (.t 32) (.t 31), none⟩])
  (.seq (.ops [⟨(some 33), .fadd 1 (.t 4), none⟩, ⟨(some 34), .load1 (.t 33), none⟩, ⟨(some 35), .bin .add (.t 34) (.c (.int .i64 1)), none⟩, ⟨(some 36), .fadd 1 (.t 4), none⟩, ⟨none, .store 1 (.t 36) (.t 35), none⟩])
  (.seq (.dops [⟨⟨(some 37), .fadd 2 (.t 4), none⟩, 0, false, false⟩, ⟨⟨(some 38), .load1 (.t 37), none⟩, 1, false, false⟩, ⟨⟨(some 39), .mv (.t 0), none⟩, 2, false, false⟩, ⟨⟨(some 40), .mv (.t 5), none⟩, 3, false, false⟩, ⟨⟨(some 41), .mv (.t 6), none⟩, 4, false, false⟩, ⟨⟨(some 42), .slcS (.t 39) (some (.t 40)) (some (.t 41)), none⟩, 5, false, false⟩, ⟨⟨(some 43), .bin .add (.t 38) (.t 42), none⟩, 6, false, false⟩, ⟨⟨(some 44), .fadd 2 (.t 4), none⟩, 7, false, false⟩, ⟨⟨none, .store 1 (.t 44) (.t 43), none⟩, 8, true, false⟩])
  (.ops [⟨(some 45), .mv (.t 6), none⟩, ⟨(some 46), .bin .add (.t 45) (.c (.int .i64 1)), none⟩, ⟨(some 5), .mv (.t 46), none⟩])))))))
  (.ops [⟨(some 11), .mv (.t 6), none⟩, ⟨(some 12), .bin .add (.t 11) (.c (.int .i64 1)), none⟩, ⟨(some 6), .mv (.t 12), none⟩]))))))
  (.seq (.seq (.ops [⟨(some 47), .mv (.t 5), none⟩, ⟨(some 48), .mv (.t 0), none⟩, ⟨(some 49), .len true (.t 48), none⟩, ⟨(some 50), .bin .neq (.t 47) (.t 49), none⟩, ⟨(some 51), .mv (.t 50), none⟩, ⟨(some 52), .loadN 3 (.t 4), (some (51, false))⟩, ⟨(some 53), .call 16 [(.t 52)], (some (51, false))⟩, ⟨(some 54), .not (.t 53), (some (51, false))⟩, ⟨(some 55), .pick (.t 51) (.c (.bool true)) (.t 54), none⟩])
  (.cond (.t 55) (.seq (.ops [⟨(some 56), .bld [(.int .i64 0), (.int .i64 0), (.string ⟨#[]⟩)] [], none⟩, ⟨none, .store 3 (.t 2) (.t 56), none⟩, ⟨(some 3), .mv (.c (.bool false)), none⟩])
  .ret) .skip))
  (.seq (.ops [⟨(some 57), .loadN 3 (.t 4), none⟩, ⟨none, .store 3 (.t 2) (.t 57), none⟩, ⟨(some 3), .mv (.c (.bool true)), none⟩])
  .ret))))))
def r36 : List RV := [.cell 2 3 true, .t 3]
theorem fn36 : cFn Tryd.prog 36 = some (c36, r36, 58) := by kernel_rfl

/-- slices.DeleteFunc[[]int,int] -/
def c37 : MC :=
  (.seq (.ops [⟨(some 4), .mv (.c (.slice none 0 0)), none⟩])
  (.seq (.ops [⟨(some 8), .mv (.t 0), none⟩, ⟨(some 9), .mv (.t 1), none⟩, ⟨(some 10), .call 56 [(.t 8), (.t 9)], none⟩, ⟨(some 5), .mv (.t 10), none⟩])
  (.seq (.seq (.ops [⟨(some 11), .mv (.t 5), none⟩, ⟨(some 12), .bin .eql (.t 11) (.c (.int .i64 (-1))), none⟩])
  (.cond (.t 12) (.seq (.ops [⟨(some 13), .mv (.t 0), none⟩, ⟨(some 4), .mv (.t 13), none⟩])
  .ret) .skip))
  (.seq (.seq (.ops [⟨(some 14), .mv (.t 5), none⟩, ⟨(some 15), .bin .add (.t 14) (.c (.int .i64 1)), none⟩, ⟨(some 6), .mv (.t 15), none⟩])
  (.block 0 (.loop (.seq (.seq (.ops [⟨(some 16), .mv (.t 6), none⟩, ⟨(some 17), .mv (.t 0), none⟩, ⟨(some 18), .len false (.t 17), none⟩, ⟨(some 19), .bin .lss (.t 16) (.t 18), none⟩])
  (.cond (.t 19) .skip (.exit 0)))
  (.seq (.block 1 (.seq (.ops [⟨(some 22), .mv (.t 0), none⟩, ⟨(some 23), .mv (.t 6), none⟩, ⟨(some 24), .iaS 1 (.t 22) (.t 23), none⟩, ⟨(some 25), .load1 (.t 24), none⟩, ⟨(some 7), .mv (.t 25), none⟩])
  (.seq (.ops [⟨(some 26), .mv (.t 1), none⟩, ⟨(some 27), .mv (.t 7), none⟩, ⟨(some 28), .callv (.t 26) [(.t 27)], none⟩, ⟨(some 29), .not (.t 28), none⟩])
  (.cond (.t 29) (.seq (.ops [⟨(some 30), .mv (.t 0), none⟩, ⟨(some 31), .mv (.t 5), none⟩, ⟨(some 32), .mv (.t 7), none⟩, ⟨(some 33), .iaS 1 (.t 30) (.t 31), none⟩, ⟨none, .store 1 (.t 33) (.t 32), none⟩])
  (.ops [⟨(some 34), .mv (.t 5), none⟩, ⟨(some 35), .bin .add (.t 34) (.c (.int .i64 1)), none⟩, ⟨(some 5), .mv (.t 35), none⟩])) .skip))))
  (.ops [⟨(some 20), .mv (.t 6), none⟩, ⟨(some 21), .bin .add (.t 20) (.c (.int .i64 1)), none⟩, ⟨(some 6), .mv (.t 21), none⟩]))))))
  (.seq (.ops [⟨(some 36), .mv (.t 0), none⟩, ⟨(some 37), .mv (.t 5), none⟩, ⟨(some 38), .slc 1 (.t 36) (some (.t 37)) none none, none⟩, ⟨none, .clr [(.int .i64 0)] (.t 38), none⟩])
  (.seq (.ops [⟨(some 39), .mv (.t 0), none⟩, ⟨(some 40), .mv (.t 5), none⟩, ⟨(some 41), .slc 1 (.t 39) none (some (.t 40)) none, none⟩, ⟨(some 4), .mv (.t 41), none⟩])
  .ret))))))
def r37 : List RV := [.t 4]
theorem fn37 : cFn Tryd.prog 37 = some (c37, r37, 42) := by kernel_rfl

/-- dynamo/safe.On$1 -/
def c38 : MC :=
  (.seq (.ops [⟨(some 3), .mv (.c (.bool false)), none⟩])
  (.seq (.dops [⟨⟨(some 4), .mv (.t 0), none⟩, 0, false, false⟩, ⟨⟨(some 5), .bin .quo (.t 4) (.c (.int .i64 8)), none⟩, 1, false, false⟩, ⟨⟨(some 6), .iaA 8 1 (.t 1) (.t 5), none⟩, 2, false, false⟩, ⟨⟨(some 7), .load1 (.t 6), none⟩, 3, false, false⟩, ⟨⟨(some 8), .mv (.t 0), none⟩, 4, false, false⟩, ⟨⟨(some 9), .call 39 [(.t 8)], none⟩, 5, true, true⟩, ⟨⟨(some 10), .bin .and (.t 7) (.t 9), none⟩, 6, false, false⟩, ⟨⟨(some 11), .bin .neq (.t 10) (.c (.int .u8 0)), none⟩, 7, false, false⟩, ⟨⟨(some 3), .mv (.t 11), none⟩, 8, false, false⟩])
  .ret))
def r38 : List RV := [.t 3]
theorem fn38 : cFn Tryd.prog 38 = some (c38, r38, 12) := by kernel_rfl

/-- dynamo/safe.bit -/
def c39 : MC :=
  (.seq (.ops [⟨(some 2), .mv (.c (.int .u8 0)), none⟩])
  (.seq (.ops [⟨(some 3), .mv (.t 0), none⟩, ⟨(some 4), .bin .rem (.t 3) (.c (.int .i64 8)), none⟩, ⟨(some 5), .bin .shl (.c (.int .u8 1)) (.t 4), none⟩, ⟨(some 2), .mv (.t 5), none⟩])
  .ret))
def r39 : List RV := [.t 2]
theorem fn39 : cFn Tryd.prog 39 = some (c39, r39, 6) := by kernel_rfl

/-- dynamo/field.Costs -/
def c40 : MC :=
  (.seq (.ops [⟨(some 3), .box (.t 0), none⟩, ⟨(some 6), .mv (.c (.slice none 0 0)), none⟩, ⟨(some 7), .mv (.c .nilIface), none⟩])
  (.seq (.seq (.ops [⟨(some 16), .loadN 3 (.t 3), none⟩, ⟨(some 17), .call 29 [(.t 16)], none⟩, ⟨(some 18), .not (.t 17), none⟩, ⟨(some 19), .mv (.t 18), none⟩, ⟨(some 20), .mv (.t 2), (some (19, false))⟩, ⟨(some 21), .bin .lss (.t 20) (.c (.int .i64 1)), (some (19, false))⟩, ⟨(some 22), .pick (.t 19) (.c (.bool true)) (.t 21), none⟩, ⟨(some 23), .mv (.t 22), none⟩, ⟨(some 24), .mv (.t 2), (some (23, false))⟩, ⟨(some 25), .bin .gtr (.t 24) (.c (.int .i64 100)), (some (23, false))⟩, ⟨(some 26), .pick (.t 23) (.c (.bool true)) (.t 25), none⟩, ⟨(some 27), .mv (.t 26), none⟩, ⟨(some 28), .mv (.t 1), (some (27, false))⟩, ⟨(some 29), .len false (.t 28), (some (27, false))⟩, ⟨(some 30), .bin .gtr (.t 29) (.c (.int .i64 64)), (some (27, false))⟩, ⟨(some 31), .pick (.t 27) (.c (.bool true)) (.t 30), none⟩])
  (.cond (.t 31) (.seq (.ops [⟨(some 32), .mki 75 (.c (.int .i64 1)), none⟩, ⟨(some 33), .call 49 [(.c (.string ⟨#[102, 105, 101, 108, 100]⟩)), (.t 32)], none⟩, ⟨(some 6), .mv (.c (.slice none 0 0)), none⟩, ⟨(some 7), .mv (.t 33), none⟩])
  .ret) .skip))
  (.seq (.ops [⟨(some 34), .bsl 1 1 [(.int .i64 0)] [(0, (.c (.int .i64 (-1))))], none⟩, ⟨(some 35), .fadd 2 (.t 3), none⟩, ⟨(some 36), .load1 (.t 35), none⟩, ⟨(some 37), .len true (.t 36), none⟩, ⟨(some 38), .call 57 [(.t 34), (.t 37)], none⟩, ⟨(some 8), .mv (.t 38), none⟩])
  (.seq (.ops [⟨(some 39), .call 58 [], none⟩, ⟨(some 9), .mv (.t 39), none⟩])
  (.seq (.seq (.ops [⟨(some 40), .mv (.t 1), none⟩, ⟨(some 41), .len false (.t 40), none⟩, ⟨(some 42), .mv (.c (.int .i64 0)), none⟩])
  (.block 0 (.loop (.seq (.ops [⟨(some 43), .bin .lss (.t 42) (.t 41), none⟩])
  (.seq (.cond (.t 43) .skip (.exit 0))
  (.seq (.block 1 (.seq (.ops [⟨(some 44), .iaS 1 (.t 40) (.t 42), none⟩, ⟨(some 45), .load1 (.t 44), none⟩, ⟨(some 11), .mv (.t 45), none⟩])
  (.seq (.ops [⟨(some 46), .loadN 3 (.t 3), none⟩, ⟨(some 47), .mv (.t 11), none⟩, ⟨(some 48), .call 30 [(.t 46), (.t 47)], none⟩])
  (.cond (.t 48) (.ops [⟨(some 49), .mv (.t 9), none⟩, ⟨(some 50), .mv (.t 11), none⟩, ⟨(some 51), .bld [(.int .i64 0), (.int .i64 0)] [(1, 1, (.t 50))], none⟩, ⟨(some 52), .call 59 [(.t 49), (.t 51)], none⟩]) .skip))))
  (.ops [⟨(some 53), .bin .add (.t 42) (.c (.int .i64 1)), none⟩, ⟨(some 42), .mv (.t 53), none⟩])))))))
  (.seq .skip
  (.seq (.block 2 (.loop (.block 3 (.seq (.ops [⟨(some 55), .mv (.t 9), none⟩, ⟨(some 56), .call 60 [(.t 55)], none⟩, ⟨(some 54), .mv (.t 56), none⟩, ⟨(some 57), .ext (.t 54) 0, none⟩, ⟨(some 58), .ext (.t 54) 1, none⟩, ⟨(some 12), .alloc [(.int .i64 0), (.int .i64 0)], none⟩, ⟨none, .store 2 (.t 12) (.t 57), none⟩, ⟨(some 13), .mv (.t 58), none⟩])
  (.seq (.seq (.ops [⟨(some 59), .mv (.t 13), none⟩, ⟨(some 60), .not (.t 59), none⟩])
  (.cond (.t 60) (.exit 2) .skip))
  (.seq (.seq (.ops [⟨(some 61), .mv (.t 8), none⟩, ⟨(some 62), .fadd 1 (.t 12), none⟩, ⟨(some 63), .load1 (.t 62), none⟩, ⟨(some 64), .iaS 1 (.t 61) (.t 63), none⟩, ⟨(some 65), .load1 (.t 64), none⟩, ⟨(some 66), .bin .geq (.t 65) (.c (.int .i64 0)), none⟩])
  (.cond (.t 66) (.exit 3) .skip))
  (.seq (.ops [⟨(some 67), .mv (.t 8), none⟩, ⟨(some 68), .fadd 1 (.t 12), none⟩, ⟨(some 69), .load1 (.t 68), none⟩, ⟨(some 70), .fadd 0 (.t 12), none⟩, ⟨(some 71), .load1 (.t 70), none⟩, ⟨(some 72), .iaS 1 (.t 67) (.t 69), none⟩, ⟨none, .store 1 (.t 72) (.t 71), none⟩])
  (.seq (.ops [⟨(some 73), .loadN 3 (.t 3), none⟩, ⟨(some 74), .fadd 1 (.t 12), none⟩, ⟨(some 75), .load1 (.t 74), none⟩, ⟨(some 76), .call 27 [(.t 73), (.t 75)], none⟩, ⟨(some 77), .len false (.t 76), none⟩, ⟨(some 78), .mv (.c (.int .i64 0)), none⟩])
  (.block 4 (.loop (.seq (.ops [⟨(some 79), .bin .lss (.t 78) (.t 77), none⟩])
  (.seq (.cond (.t 79) .skip (.exit 4))
  (.seq (.block 5 (.seq (.ops [⟨(some 80), .iaS 1 (.t 76) (.t 78), none⟩, ⟨(some 81), .load1 (.t 80), none⟩, ⟨(some 15), .mv (.t 81), none⟩])
  (.ops [⟨(some 82), .mv (.t 9), none⟩, ⟨(some 83), .fadd 0 (.t 12), none⟩, ⟨(some 84), .load1 (.t 83), none⟩, ⟨(some 85), .mv (.t 2), none⟩, ⟨(some 86), .bin .add (.t 84) (.t 85), none⟩, ⟨(some 87), .mv (.t 15), none⟩, ⟨(some 88), .bld [(.int .i64 0), (.int .i64 0)] [(0, 1, (.t 86)), (1, 1, (.t 87))], none⟩, ⟨(some 89), .call 59 [(.t 82), (.t 88)], none⟩])))
  (.ops [⟨(some 90), .bin .add (.t 78) (.c (.int .i64 1)), none⟩, ⟨(some 78), .mv (.t 90), none⟩]))))))))))))))
  (.seq (.ops [⟨(some 91), .mv (.t 8), none⟩, ⟨(some 6), .mv (.t 91), none⟩, ⟨(some 7), .mv (.c .nilIface), none⟩])
  .ret))))))))
def r40 : List RV := [.t 6, .t 7]
theorem fn40 : cFn Tryd.prog 40 = some (c40, r40, 92) := by kernel_rfl

/-- dynamo/dynamoref16.Costs -/
def c41 : MC :=
  (.seq (.ops [⟨(some 3), .box (.t 0), none⟩, ⟨(some 6), .mv (.c (.slice none 0 0)), none⟩])
  (.seq (.ops [⟨(some 14), .fadd 2 (.t 3), none⟩, ⟨(some 15), .load1 (.t 14), none⟩, ⟨(some 16), .len true (.t 15), none⟩, ⟨(some 7), .mv (.t 16), none⟩])
  (.seq (.ops [⟨(some 17), .mv (.t 7), none⟩, ⟨(some 18), .mks 1 8 [(.int .i64 0)] (.t 17) (.t 17), none⟩, ⟨(some 8), .mv (.t 18), none⟩])
  (.seq (.seq (.ops [⟨(some 9), .mv (.c (.int .i64 0)), none⟩])
  (.block 0 (.loop (.seq (.seq (.ops [⟨(some 19), .mv (.t 9), none⟩, ⟨(some 20), .mv (.t 7), none⟩, ⟨(some 21), .bin .lss (.t 19) (.t 20), none⟩])
  (.cond (.t 21) .skip (.exit 0)))
  (.seq (.block 1 (.seq (.ops [⟨(some 24), .mv (.t 8), none⟩, ⟨(some 25), .mv (.t 9), none⟩, ⟨(some 26), .iaS 1 (.t 24) (.t 25), none⟩, ⟨none, .store 1 (.t 26) (.c (.int .i64 (-1))), none⟩])
  (.seq (.ops [⟨(some 10), .mv (.c (.int .i64 0)), none⟩])
  (.block 2 (.loop (.seq (.seq (.ops [⟨(some 27), .mv (.t 10), none⟩, ⟨(some 28), .mv (.t 1), none⟩, ⟨(some 29), .len false (.t 28), none⟩, ⟨(some 30), .bin .lss (.t 27) (.t 29), none⟩])
  (.cond (.t 30) .skip (.exit 2)))
  (.seq (.block 3 (.seq (.ops [⟨(some 33), .mv (.t 1), none⟩, ⟨(some 34), .mv (.t 10), none⟩, ⟨(some 35), .iaS 1 (.t 33) (.t 34), none⟩, ⟨(some 36), .load1 (.t 35), none⟩, ⟨(some 37), .mv (.t 9), none⟩, ⟨(some 38), .bin .eql (.t 36) (.t 37), none⟩, ⟨(some 39), .mv (.t 38), none⟩, ⟨(some 40), .fadd 2 (.t 3), (some (39, true))⟩, ⟨(some 41), .load1 (.t 40), (some (39, true))⟩, ⟨(some 42), .mv (.t 9), (some (39, true))⟩, ⟨(some 43), .idxS (.t 41) (.t 42), (some (39, true))⟩, ⟨(some 44), .bin .neq (.t 43) (.c (.int .u8 35)), (some (39, true))⟩, ⟨(some 45), .pick (.t 39) (.t 44) (.c (.bool false)), none⟩])
  (.cond (.t 45) (.ops [⟨(some 46), .mv (.t 8), none⟩, ⟨(some 47), .mv (.t 9), none⟩, ⟨(some 48), .iaS 1 (.t 46) (.t 47), none⟩, ⟨none, .store 1 (.t 48) (.c (.int .i64 0)), none⟩]) .skip)))
  (.ops [⟨(some 31), .mv (.t 10), none⟩, ⟨(some 32), .bin .add (.t 31) (.c (.int .i64 1)), none⟩, ⟨(some 10), .mv (.t 32), none⟩]))))))))
  (.ops [⟨(some 22), .mv (.t 9), none⟩, ⟨(some 23), .bin .add (.t 22) (.c (.int .i64 1)), none⟩, ⟨(some 9), .mv (.t 23), none⟩]))))))
  (.seq (.seq (.ops [⟨(some 11), .mv (.c (.int .i64 0)), none⟩])
  (.block 4 (.loop (.seq (.seq (.ops [⟨(some 49), .mv (.t 11), none⟩, ⟨(some 50), .mv (.t 7), none⟩, ⟨(some 51), .bin .lss (.t 49) (.t 50), none⟩])
  (.cond (.t 51) .skip (.exit 4)))
  (.seq (.block 5 (.seq (.ops [⟨(some 12), .mv (.c (.int .i64 0)), none⟩])
  (.block 6 (.loop (.seq (.seq (.ops [⟨(some 54), .mv (.t 12), none⟩, ⟨(some 55), .mv (.t 7), none⟩, ⟨(some 56), .bin .lss (.t 54) (.t 55), none⟩])
  (.cond (.t 56) .skip (.exit 6)))
  (.seq (.block 7 (.seq (.ops [⟨(some 13), .mv (.c (.int .i64 0)), none⟩])
  (.block 8 (.loop (.seq (.seq (.ops [⟨(some 59), .mv (.t 13), none⟩, ⟨(some 60), .mv (.t 7), none⟩, ⟨(some 61), .bin .lss (.t 59) (.t 60), none⟩, ⟨(some 62), .mv (.t 61), none⟩, ⟨(some 63), .fadd 2 (.t 3), (some (62, true))⟩, ⟨(some 64), .load1 (.t 63), (some (62, true))⟩, ⟨(some 65), .mv (.t 12), (some (62, true))⟩, ⟨(some 66), .idxS (.t 64) (.t 65), (some (62, true))⟩, ⟨(some 67), .bin .neq (.t 66) (.c (.int .u8 35)), (some (62, true))⟩, ⟨(some 68), .pick (.t 62) (.t 67) (.c (.bool false)), none⟩])
  (.cond (.t 68) .skip (.exit 8)))
  (.seq (.block 9 (.seq (.dops [⟨⟨(some 71), .fadd 0 (.t 3), none⟩, 0, false, false⟩, ⟨⟨(some 72), .load1 (.t 71), none⟩, 1, false, false⟩, ⟨⟨(some 73), .mv (.t 12), none⟩, 2, false, false⟩, ⟨⟨(some 74), .mv (.t 13), none⟩, 3, false, false⟩, ⟨⟨(some 75), .call 26 [(.t 72), (.t 73), (.t 74)], none⟩, 4, true, false⟩, ⟨⟨(some 76), .mv (.t 75), none⟩, 5, false, false⟩, ⟨⟨(some 77), .mv (.t 8), (some (76, true))⟩, 6, false, false⟩, ⟨⟨(some 78), .mv (.t 13), (some (76, true))⟩, 7, false, false⟩, ⟨⟨(some 79), .iaS 1 (.t 77) (.t 78), (some (76, true))⟩, 8, false, false⟩, ⟨⟨(some 80), .load1 (.t 79), (some (76, true))⟩, 9, false, false⟩, ⟨⟨(some 81), .bin .geq (.t 80) (.c (.int .i64 0)), (some (76, true))⟩, 10, false, false⟩, ⟨⟨(some 82), .pick (.t 76) (.t 81) (.c (.bool false)), none⟩, 11, false, false⟩, ⟨⟨(some 83), .mv (.t 82), none⟩, 12, false, false⟩, ⟨⟨(some 84), .mv (.t 8), (some (83, true))⟩, 13, false, false⟩, ⟨⟨(some 85), .mv (.t 12), (some (83, true))⟩, 14, false, false⟩, ⟨⟨(some 86), .iaS 1 (.t 84) (.t 85), (some (83, true))⟩, 15, false, false⟩, ⟨⟨(some 87), .load1 (.t 86), (some (83, true))⟩, 16, false, false⟩, ⟨⟨(some 88), .bin .lss (.t 87) (.c (.int .i64 0)), (some (83, true))⟩, 17, false, false⟩, ⟨⟨(some 89), .mv (.t 88), (some (83, true))⟩, 18, false, false⟩, ⟨⟨(some 90), .mv (.t 8), (some (89, false))⟩, 19, false, false⟩, ⟨⟨(some 91), .mv (.t 13), (some (89, false))⟩, 20, false, false⟩, ⟨⟨(some 92), .iaS 1 (.t 90) (.t 91), (some (89, false))⟩, 21, false, false⟩, ⟨⟨(some 93), .load1 (.t 92), (some (89, false))⟩, 22, false, false⟩, ⟨⟨(some 94), .mv (.t 2), (some (89, false))⟩, 23, false, false⟩, ⟨⟨(some 95), .bin .add (.t 93) (.t 94), (some (89, false))⟩, 24, false, false⟩, ⟨⟨(some 96), .mv (.t 8), (some (89, false))⟩, 25, false, false⟩, ⟨⟨(some 97), .mv (.t 12), (some (89, false))⟩, 26, false, false⟩, ⟨⟨(some 98), .iaS 1 (.t 96) (.t 97), (some (89, false))⟩, 27, false, false⟩, ⟨⟨(some 99), .load1 (.t 98), (some (89, false))⟩, 28, false, false⟩, ⟨⟨(some 100), .bin .lss (.t 95) (.t 99), (some (89, false))⟩, 29, false, false⟩, ⟨⟨(some 101), .pick (.t 89) (.c (.bool true)) (.t 100), (some (83, true))⟩, 30, false, false⟩, ⟨⟨(some 102), .pick (.t 83) (.t 101) (.c (.bool false)), none⟩, 31, false, false⟩])
  (.cond (.t 102) (.ops [⟨(some 103), .mv (.t 8), none⟩, ⟨(some 104), .mv (.t 12), none⟩, ⟨(some 105), .mv (.t 8), none⟩, ⟨(some 106), .mv (.t 13), none⟩, ⟨(some 107), .iaS 1 (.t 105) (.t 106), none⟩, ⟨(some 108), .load1 (.t 107), none⟩, ⟨(some 109), .mv (.t 2), none⟩, ⟨(some 110), .bin .add (.t 108) (.t 109), none⟩, ⟨(some 111), .iaS 1 (.t 103) (.t 104), none⟩, ⟨none, .store 1 (.t 111) (.t 110), none⟩]) .skip)))
  (.ops [⟨(some 69), .mv (.t 13), none⟩, ⟨(some 70), .bin .add (.t 69) (.c (.int .i64 1)), none⟩, ⟨(some 13), .mv (.t 70), none⟩])))))))
  (.ops [⟨(some 57), .mv (.t 12), none⟩, ⟨(some 58), .bin .add (.t 57) (.c (.int .i64 1)), none⟩, ⟨(some 12), .mv (.t 58), none⟩])))))))
  (.ops [⟨(some 52), .mv (.t 11), none⟩, ⟨(some 53), .bin .add (.t 52) (.c (.int .i64 1)), none⟩, ⟨(some 11), .mv (.t 53), none⟩]))))))
  (.seq (.ops [⟨(some 112), .mv (.t 8), none⟩, ⟨(some 6), .mv (.t 112), none⟩])
  .ret))))))
def r41 : List RV := [.t 6]
theorem fn41 : cFn Tryd.prog 41 = some (c41, r41, 113) := by kernel_rfl

/-- slices.Contains[[]int,int] -/
def c42 : MC :=
  (.seq (.ops [⟨(some 4), .mv (.c (.bool false)), none⟩])
  (.seq (.ops [⟨(some 5), .mv (.t 0), none⟩, ⟨(some 6), .mv (.t 1), none⟩, ⟨(some 7), .call 61 [(.t 5), (.t 6)], none⟩, ⟨(some 8), .bin .geq (.t 7) (.c (.int .i64 0)), none⟩, ⟨(some 4), .mv (.t 8), none⟩])
  .ret))
def r42 : List RV := [.t 4]
theorem fn42 : cFn Tryd.prog 42 = some (c42, r42, 9) := by kernel_rfl

/-- (dynamo/grid.Map).near -/
def c43 : MC :=
  (.seq (.ops [⟨(some 2), .box (.t 0), none⟩, ⟨(some 4), .mv (.c (.slice none 0 0)), none⟩])
  (.seq (.ops [⟨(some 5), .alloc [(.slice none 0 0)], none⟩])
  (.seq (.ops [⟨(some 8), .mkf (.func 62) [] [(.t 2), (.t 5)], none⟩, ⟨(some 6), .mv (.t 8), none⟩])
  (.seq (.ops [⟨(some 9), .mv (.t 1), none⟩, ⟨(some 10), .fadd 0 (.t 2), none⟩, ⟨(some 11), .load1 (.t 10), none⟩, ⟨(some 12), .bin .rem (.t 9) (.t 11), none⟩, ⟨(some 7), .mv (.t 12), none⟩])
  (.seq (.ops [⟨(some 13), .mv (.t 6), none⟩, ⟨(some 14), .mv (.t 1), none⟩, ⟨(some 15), .fadd 0 (.t 2), none⟩, ⟨(some 16), .load1 (.t 15), none⟩, ⟨(some 17), .bin .sub (.t 14) (.t 16), none⟩, ⟨(some 18), .callv (.t 13) [(.t 17), (.c (.bool true))], none⟩])
  (.seq (.ops [⟨(some 19), .mv (.t 6), none⟩, ⟨(some 20), .mv (.t 1), none⟩, ⟨(some 21), .bin .sub (.t 20) (.c (.int .i64 1)), none⟩, ⟨(some 22), .mv (.t 7), none⟩, ⟨(some 23), .bin .gtr (.t 22) (.c (.int .i64 0)), none⟩, ⟨(some 24), .callv (.t 19) [(.t 21), (.t 23)], none⟩])
  (.seq (.ops [⟨(some 25), .mv (.t 6), none⟩, ⟨(some 26), .mv (.t 1), none⟩, ⟨(some 27), .bin .add (.t 26) (.c (.int .i64 1)), none⟩, ⟨(some 28), .mv (.t 7), none⟩, ⟨(some 29), .fadd 0 (.t 2), none⟩, ⟨(some 30), .load1 (.t 29), none⟩, ⟨(some 31), .bin .sub (.t 30) (.c (.int .i64 1)), none⟩, ⟨(some 32), .bin .lss (.t 28) (.t 31), none⟩, ⟨(some 33), .callv (.t 25) [(.t 27), (.t 32)], none⟩])
  (.seq (.ops [⟨(some 34), .mv (.t 6), none⟩, ⟨(some 35), .mv (.t 1), none⟩, ⟨(some 36), .fadd 0 (.t 2), none⟩, ⟨(some 37), .load1 (.t 36), none⟩, ⟨(some 38), .bin .add (.t 35) (.t 37), none⟩, ⟨(some 39), .callv (.t 34) [(.t 38), (.c (.bool true))], none⟩])
  (.seq (.ops [⟨(some 40), .load1 (.t 5), none⟩, ⟨(some 4), .mv (.t 40), none⟩])
  .ret)))))))))
def r43 : List RV := [.t 4]
theorem fn43 : cFn Tryd.prog 43 = some (c43, r43, 41) := by kernel_rfl

/-- dynamo/grid.sized -/
def c44 : MC :=
  (.seq (.ops [⟨(some 1), .box (.t 0), none⟩, ⟨(some 2), .mv (.c (.bool false)), none⟩])
  (.seq (.ops [⟨(some 3), .mv (.f 63), none⟩])
  (.seq (.ops [⟨(some 4), .mv (.t 3), none⟩, ⟨(some 5), .fadd 0 (.t 1), none⟩, ⟨(some 6), .load1 (.t 5), none⟩, ⟨(some 7), .callv (.t 4) [(.t 6)], none⟩, ⟨(some 8), .mv (.t 7), none⟩, ⟨(some 9), .mv (.t 3), (some (8, true))⟩, ⟨(some 10), .fadd 1 (.t 1), (some (8, true))⟩, ⟨(some 11), .load1 (.t 10), (some (8, true))⟩, ⟨(some 12), .callv (.t 9) [(.t 11)], (some (8, true))⟩, ⟨(some 13), .pick (.t 8) (.t 12) (.c (.bool false)), none⟩, ⟨(some 14), .mv (.t 13), none⟩, ⟨(some 15), .fadd 2 (.t 1), (some (14, true))⟩, ⟨(some 16), .load1 (.t 15), (some (14, true))⟩, ⟨(some 17), .len true (.t 16), (some (14, true))⟩, ⟨(some 18), .fadd 0 (.t 1), (some (14, true))⟩, ⟨(some 19), .load1 (.t 18), (some (14, true))⟩, ⟨(some 20), .fadd 1 (.t 1), (some (14, true))⟩, ⟨(some 21), .load1 (.t 20), (some (14, true))⟩, ⟨(some 22), .bin .mul (.t 19) (.t 21), (some (14, true))⟩, ⟨(some 23), .bin .eql (.t 17) (.t 22), (some (14, true))⟩, ⟨(some 24), .pick (.t 14) (.t 23) (.c (.bool false)), none⟩, ⟨(some 25), .mv (.t 24), none⟩, ⟨(some 26), .fadd 2 (.t 1), (some (25, true))⟩, ⟨(some 27), .load1 (.t 26), (some (25, true))⟩, ⟨(some 28), .call 64 [(.t 27), (.c (.string ⟨#[35, 46, 67, 80]⟩))], (some (25, true))⟩, ⟨(some 29), .bin .eql (.t 28) (.c (.string ⟨#[]⟩)), (some (25, true))⟩, ⟨(some 30), .pick (.t 25) (.t 29) (.c (.bool false)), none⟩, ⟨(some 31), .mv (.t 30), none⟩, ⟨(some 32), .fadd 2 (.t 1), (some (31, true))⟩, ⟨(some 33), .load1 (.t 32), (some (31, true))⟩, ⟨(some 34), .call 65 [(.t 33), (.f 66)], (some (31, true))⟩, ⟨(some 35), .not (.t 34), (some (31, true))⟩, ⟨(some 36), .pick (.t 31) (.t 35) (.c (.bool false)), none⟩, ⟨(some 2), .mv (.t 36), none⟩])
  .ret)))
def r44 : List RV := [.t 2]
theorem fn44 : cFn Tryd.prog 44 = some (c44, r44, 37) := by kernel_rfl

/-- strings.Index -/
def c45 : MC :=
  (.seq (.ops [⟨(some 4), .mv (.c (.int .i64 0)), none⟩])
  (.seq (.ops [⟨(some 5), .mv (.t 0), none⟩, ⟨(some 6), .mv (.t 1), none⟩, ⟨(some 7), .call 68 [(.t 5), (.t 6)], none⟩, ⟨(some 4), .mv (.t 7), none⟩])
  .ret))
def r45 : List RV := [.t 4]
theorem fn45 : cFn Tryd.prog 45 = some (c45, r45, 8) := by kernel_rfl

/-- (dynamo/grid.Map).reached -/
def c46 : MC :=
  (.seq (.ops [⟨(some 2), .box (.t 0), none⟩, ⟨(some 4), .mv (.c (.int .i64 0)), none⟩])
  (.seq (.ops [⟨(some 10), .mkmap, none⟩, ⟨(some 11), .mv (.t 1), none⟩, ⟨none, .mupd .int (.t 10) (.t 11) (.c (.bool true)), none⟩, ⟨(some 12), .mv (.t 10), none⟩, ⟨(some 5), .mv (.t 12), none⟩])
  (.seq (.ops [⟨(some 13), .mv (.t 1), none⟩, ⟨(some 14), .bsl 1 1 [(.int .i64 0)] [(0, (.t 13))], none⟩, ⟨(some 6), .mv (.t 14), none⟩])
  (.seq (.block 0 (.loop (.seq (.seq (.ops [⟨(some 15), .mv (.t 6), none⟩, ⟨(some 16), .len false (.t 15), none⟩, ⟨(some 17), .bin .gtr (.t 16) (.c (.int .i64 0)), none⟩])
  (.cond (.t 17) .skip (.exit 0)))
  (.block 1 (.seq (.ops [⟨(some 18), .mv (.t 6), none⟩, ⟨(some 19), .iaS 1 (.t 18) (.c (.int .i64 0)), none⟩, ⟨(some 20), .load1 (.t 19), none⟩, ⟨(some 7), .mv (.t 20), none⟩])
  (.seq (.ops [⟨(some 21), .mv (.t 6), none⟩, ⟨(some 22), .slc 1 (.t 21) (some (.c (.int .i64 1))) none none, none⟩, ⟨(some 6), .mv (.t 22), none⟩])
  (.seq (.ops [⟨(some 23), .loadN 3 (.t 2), none⟩, ⟨(some 24), .mv (.t 7), none⟩, ⟨(some 25), .call 43 [(.t 23), (.t 24)], none⟩, ⟨(some 26), .len false (.t 25), none⟩, ⟨(some 27), .mv (.c (.int .i64 0)), none⟩])
  (.block 2 (.loop (.seq (.ops [⟨(some 28), .bin .lss (.t 27) (.t 26), none⟩])
  (.seq (.cond (.t 28) .skip (.exit 2))
  (.seq (.block 3 (.seq (.ops [⟨(some 29), .iaS 1 (.t 25) (.t 27), none⟩, ⟨(some 30), .load1 (.t 29), none⟩, ⟨(some 9), .mv (.t 30), none⟩])
  (.seq (.ops [⟨(some 31), .mv (.t 5), none⟩, ⟨(some 32), .mv (.t 9), none⟩, ⟨(some 33), .mlook .int false (.bool false) (.t 31) (.t 32), none⟩, ⟨(some 34), .not (.t 33), none⟩])
  (.cond (.t 34) (.seq (.ops [⟨(some 35), .mv (.t 5), none⟩, ⟨(some 36), .mv (.t 9), none⟩, ⟨none, .mupd .int (.t 35) (.t 36) (.c (.bool true)), none⟩])
  (.ops [⟨(some 37), .mv (.t 6), none⟩, ⟨(some 38), .mv (.t 9), none⟩, ⟨(some 39), .bsl 1 1 [(.int .i64 0)] [(0, (.t 38))], none⟩, ⟨(some 40), .app 1 8 (.t 37) (.t 39), none⟩, ⟨(some 6), .mv (.t 40), none⟩])) .skip))))
  (.ops [⟨(some 41), .bin .add (.t 27) (.c (.int .i64 1)), none⟩, ⟨(some 27), .mv (.t 41), none⟩])))))))))))))
  (.seq (.ops [⟨(some 42), .mv (.t 5), none⟩, ⟨(some 43), .mlen (.t 42), none⟩, ⟨(some 4), .mv (.t 43), none⟩])
  .ret)))))
def r46 : List RV := [.t 4]
theorem fn46 : cFn Tryd.prog 46 = some (c46, r46, 44) := by kernel_rfl

/-- strings.Count -/
def c47 : MC :=
  (.seq (.ops [⟨(some 4), .mv (.c (.int .i64 0)), none⟩])
  (.seq (.seq (.ops [⟨(some 7), .mv (.t 1), none⟩, ⟨(some 8), .len true (.t 7), none⟩, ⟨(some 9), .bin .eql (.t 8) (.c (.int .i64 0)), none⟩])
  (.cond (.t 9) (.seq (.ops [⟨(some 10), .mv (.t 0), none⟩, ⟨(some 11), .call 69 [(.t 10)], none⟩, ⟨(some 12), .bin .add (.t 11) (.c (.int .i64 1)), none⟩, ⟨(some 4), .mv (.t 12), none⟩])
  .ret) .skip))
  (.seq (.seq (.ops [⟨(some 13), .mv (.t 1), none⟩, ⟨(some 14), .len true (.t 13), none⟩, ⟨(some 15), .bin .eql (.t 14) (.c (.int .i64 1)), none⟩])
  (.cond (.t 15) (.seq (.ops [⟨(some 16), .mv (.t 0), none⟩, ⟨(some 17), .mv (.t 1), none⟩, ⟨(some 18), .idxS (.t 17) (.c (.int .i64 0)), none⟩, ⟨(some 19), .call 70 [(.t 16), (.t 18)], none⟩, ⟨(some 4), .mv (.t 19), none⟩])
  .ret) .skip))
  (.seq (.ops [⟨(some 5), .mv (.c (.int .i64 0)), none⟩])
  (.block 0 (.loop (.block 1 (.seq (.ops [⟨(some 20), .mv (.t 0), none⟩, ⟨(some 21), .mv (.t 1), none⟩, ⟨(some 22), .call 45 [(.t 20), (.t 21)], none⟩, ⟨(some 6), .mv (.t 22), none⟩])
  (.seq (.seq (.ops [⟨(some 23), .mv (.t 6), none⟩, ⟨(some 24), .bin .eql (.t 23) (.c (.int .i64 (-1))), none⟩])
  (.cond (.t 24) (.seq (.ops [⟨(some 25), .mv (.t 5), none⟩, ⟨(some 4), .mv (.t 25), none⟩])
  .ret) .skip))
  (.seq (.ops [⟨(some 26), .mv (.t 5), none⟩, ⟨(some 27), .bin .add (.t 26) (.c (.int .i64 1)), none⟩, ⟨(some 5), .mv (.t 27), none⟩])
  (.ops [⟨(some 28), .mv (.t 0), none⟩, ⟨(some 29), .mv (.t 6), none⟩, ⟨(some 30), .mv (.t 1), none⟩, ⟨(some 31), .len true (.t 30), none⟩, ⟨(some 32), .bin .add (.t 29) (.t 31), none⟩, ⟨(some 33), .slcS (.t 28) (some (.t 32)) none, none⟩, ⟨(some 0), .mv (.t 33), none⟩])))))))))))
def r47 : List RV := [.t 4]
theorem fn47 : cFn Tryd.prog 47 = some (c47, r47, 34) := by kernel_rfl

/-- (dynamo/grid.Map).open -/
def c48 : MC :=
  (.seq (.ops [⟨(some 2), .box (.t 0), none⟩, ⟨(some 4), .mv (.c (.bool false)), none⟩])
  (.seq (.ops [⟨(some 5), .mv (.t 1), none⟩, ⟨(some 6), .bin .geq (.t 5) (.c (.int .i64 0)), none⟩, ⟨(some 7), .mv (.t 6), none⟩, ⟨(some 8), .mv (.t 1), (some (7, true))⟩, ⟨(some 9), .fadd 2 (.t 2), (some (7, true))⟩, ⟨(some 10), .load1 (.t 9), (some (7, true))⟩, ⟨(some 11), .len true (.t 10), (some (7, true))⟩, ⟨(some 12), .bin .lss (.t 8) (.t 11), (some (7, true))⟩, ⟨(some 13), .pick (.t 7) (.t 12) (.c (.bool false)), none⟩, ⟨(some 14), .mv (.t 13), none⟩, ⟨(some 15), .fadd 2 (.t 2), (some (14, true))⟩, ⟨(some 16), .load1 (.t 15), (some (14, true))⟩, ⟨(some 17), .mv (.t 1), (some (14, true))⟩, ⟨(some 18), .idxS (.t 16) (.t 17), (some (14, true))⟩, ⟨(some 19), .bin .neq (.t 18) (.c (.int .u8 35)), (some (14, true))⟩, ⟨(some 20), .pick (.t 14) (.t 19) (.c (.bool false)), none⟩, ⟨(some 4), .mv (.t 20), none⟩])
  .ret))
def r48 : List RV := [.t 4]
theorem fn48 : cFn Tryd.prog 48 = some (c48, r48, 21) := by kernel_rfl

/-- dynamo/tag.Tag -/
def c49 : MC :=
  (.seq (.ops [⟨(some 4), .mv (.c .nilIface), none⟩])
  (.seq (.seq (.ops [⟨(some 5), .mv (.t 1), none⟩, ⟨(some 6), .eqN .iface false (.t 5) (.c .nilIface), none⟩])
  (.cond (.t 6) (.seq (.ops [⟨(some 4), .mv (.c .nilIface), none⟩])
  .ret) .skip))
  (.seq (.ops [⟨(some 7), .mv (.t 0), none⟩, ⟨(some 8), .mv (.t 1), none⟩, ⟨(some 9), .bld [(.string ⟨#[]⟩), .nilIface] [(0, 1, (.t 7)), (1, 1, (.t 8))], none⟩, ⟨(some 10), .box (.t 9), none⟩, ⟨(some 11), .mki 110 (.t 10), none⟩, ⟨(some 4), .mv (.t 11), none⟩])
  .ret)))
def r49 : List RV := [.t 4]
theorem fn49 : cFn Tryd.prog 49 = some (c49, r49, 12) := by kernel_rfl

/-- slices.Chunk[[]byte,byte] -/
def c50 : MC :=
  (.seq (.ops [⟨(some 2), .box (.t 0), none⟩, ⟨(some 3), .box (.t 1), none⟩, ⟨(some 4), .mv (.c .nilFunc), none⟩])
  (.seq (.seq (.ops [⟨(some 5), .load1 (.t 3), none⟩, ⟨(some 6), .bin .lss (.t 5) (.c (.int .i64 1)), none⟩])
  (.cond (.t 6) (.ops [⟨(some 7), .mki 9 (.c (.string ⟨#[99, 97, 110, 110, 111, 116, 32, 98, 101, 32, 108, 101, 115, 115, 32, 116, 104, 97, 110, 32, 49]⟩)), none⟩, ⟨none, .bad, none⟩]) .skip))
  (.seq (.ops [⟨(some 8), .mkf (.func 71) [] [(.t 2), (.t 3)], none⟩, ⟨(some 4), .mv (.t 8), none⟩])
  .ret)))
def r50 : List RV := [.t 4]
theorem fn50 : cFn Tryd.prog 50 = some (c50, r50, 9) := by kernel_rfl

/-- errors.As -/
def c53 : MC :=
  (.seq (.ops [⟨(some 4), .mv (.c (.bool false)), none⟩])
  (.seq (.seq (.ops [⟨(some 8), .mv (.t 0), none⟩, ⟨(some 9), .eqN .iface false (.t 8) (.c .nilIface), none⟩])
  (.cond (.t 9) (.seq (.ops [⟨(some 4), .mv (.c (.bool false)), none⟩])
  .ret) .skip))
  (.seq (.seq (.ops [⟨(some 10), .mv (.t 1), none⟩, ⟨(some 11), .eqN .iface false (.t 10) (.c .nilIface), none⟩])
  (.cond (.t 11) (.ops [⟨(some 12), .mki 9 (.c (.string ⟨#[101, 114, 114, 111, 114, 115, 58, 32, 116, 97, 114, 103, 101, 116, 32, 99, 97, 110, 110, 111, 116, 32, 98, 101, 32, 110, 105, 108]⟩)), none⟩, ⟨none, .bad, none⟩]) .skip))
  (.seq (.ops [⟨(some 13), .mv (.t 1), none⟩, ⟨(some 14), .call 73 [(.t 13)], none⟩, ⟨(some 5), .alloc [(.pointer none), (.pointer none), (.int .u64 0)], none⟩, ⟨none, .store 3 (.t 5) (.t 14), none⟩])
  (.seq (.ops [⟨(some 15), .loadN 3 (.t 5), none⟩, ⟨(some 16), .call 74 [(.t 15)], none⟩, ⟨(some 6), .mv (.t 16), none⟩])
  (.seq (.seq (.ops [⟨(some 17), .mv (.t 6), none⟩, ⟨(some 18), .bad, none⟩, ⟨(some 19), .bin .neq (.t 18) (.c (.int .u8 22)), none⟩, ⟨(some 20), .mv (.t 19), none⟩, ⟨(some 21), .loadN 3 (.t 5), (some (20, false))⟩, ⟨(some 22), .call 75 [(.t 21)], (some (20, false))⟩, ⟨(some 23), .pick (.t 20) (.c (.bool true)) (.t 22), none⟩])
  (.cond (.t 23) (.ops [⟨(some 24), .mki 9 (.c (.string ⟨#[101, 114, 114, 111, 114, 115, 58, 32, 116, 97, 114, 103, 101, 116, 32, 109, 117, 115, 116, 32, 98, 101, 32, 97, 32, 110, 111, 110, 45, 110, 105, 108, 32, 112, 111, 105, 110, 116, 101, 114]⟩)), none⟩, ⟨none, .bad, none⟩]) .skip))
  (.seq (.ops [⟨(some 25), .mv (.t 6), none⟩, ⟨(some 26), .bad, none⟩, ⟨(some 7), .mv (.t 26), none⟩])
  (.seq (.seq (.ops [⟨(some 27), .mv (.t 7), none⟩, ⟨(some 28), .bad, none⟩, ⟨(some 29), .bin .neq (.t 28) (.c (.int .u8 20)), none⟩, ⟨(some 30), .mv (.t 29), none⟩, ⟨(some 31), .mv (.t 7), (some (30, true))⟩, ⟨(some 32), .bad, (some (30, true))⟩, ⟨(some 33), .bad, (some (30, true))⟩, ⟨(some 34), .not (.t 33), (some (30, true))⟩, ⟨(some 35), .pick (.t 30) (.t 34) (.c (.bool false)), none⟩])
  (.cond (.t 35) (.ops [⟨(some 36), .mki 9 (.c (.string ⟨#[101, 114, 114, 111, 114, 115, 58, 32, 42, 116, 97, 114, 103, 101, 116, 32, 109, 117, 115, 116, 32, 98, 101, 32, 105, 110, 116, 101, 114, 102, 97, 99, 101, 32, 111, 114, 32, 105, 109, 112, 108, 101, 109, 101, 110, 116, 32, 101, 114, 114, 111, 114]⟩)), none⟩, ⟨none, .bad, none⟩]) .skip))
  (.seq (.ops [⟨(some 37), .mv (.t 0), none⟩, ⟨(some 38), .mv (.t 1), none⟩, ⟨(some 39), .loadN 3 (.t 5), none⟩, ⟨(some 40), .mv (.t 7), none⟩, ⟨(some 41), .call 76 [(.t 37), (.t 38), (.t 39), (.t 40)], none⟩, ⟨(some 4), .mv (.t 41), none⟩])
  .ret)))))))))
def r53 : List RV := [.t 4]
theorem fn53 : cFn Tryd.prog 53 = some (c53, r53, 42) := by kernel_rfl

/-- strings.Lines -/
def c54 : MC :=
  (.seq (.ops [⟨(some 1), .box (.t 0), none⟩, ⟨(some 2), .mv (.c .nilFunc), none⟩])
  (.seq (.ops [⟨(some 3), .mkf (.func 77) [] [(.t 1)], none⟩, ⟨(some 2), .mv (.t 3), none⟩])
  .ret))
def r54 : List RV := [.t 2]
theorem fn54 : cFn Tryd.prog 54 = some (c54, r54, 4) := by kernel_rfl

/-- strings.CutSuffix -/
def c55 : MC :=
  (.seq (.ops [⟨(some 4), .mv (.c (.string ⟨#[]⟩)), none⟩, ⟨(some 5), .mv (.c (.bool false)), none⟩])
  (.seq (.ops [⟨(some 6), .mv (.t 0), none⟩, ⟨(some 7), .mv (.t 1), none⟩, ⟨(some 8), .call 79 [(.t 6), (.t 7)], none⟩, ⟨(some 9), .ext (.t 8) 0, none⟩, ⟨(some 10), .ext (.t 8) 1, none⟩, ⟨(some 4), .mv (.t 9), none⟩, ⟨(some 5), .mv (.t 10), none⟩])
  .ret))
def r55 : List RV := [.t 4, .t 5]
theorem fn55 : cFn Tryd.prog 55 = some (c55, r55, 11) := by kernel_rfl

/-- slices.IndexFunc[[]int,int] -/
def c56 : MC :=
  (.seq (.ops [⟨(some 4), .mv (.c (.int .i64 0)), none⟩])
  (.seq (.seq (.ops [⟨(some 6), .mv (.t 0), none⟩, ⟨(some 7), .len false (.t 6), none⟩, ⟨(some 8), .mv (.c (.int .i64 0)), none⟩])
  (.block 0 (.loop (.seq (.ops [⟨(some 9), .bin .lss (.t 8) (.t 7), none⟩])
  (.seq (.cond (.t 9) .skip (.exit 0))
  (.seq (.block 1 (.seq (.ops [⟨(some 10), .mv (.t 8), none⟩, ⟨(some 5), .mv (.t 10), none⟩])
  (.seq (.ops [⟨(some 11), .mv (.t 1), none⟩, ⟨(some 12), .mv (.t 0), none⟩, ⟨(some 13), .mv (.t 5), none⟩, ⟨(some 14), .iaS 1 (.t 12) (.t 13), none⟩, ⟨(some 15), .load1 (.t 14), none⟩, ⟨(some 16), .callv (.t 11) [(.t 15)], none⟩])
  (.cond (.t 16) (.seq (.ops [⟨(some 17), .mv (.t 5), none⟩, ⟨(some 4), .mv (.t 17), none⟩])
  .ret) .skip))))
  (.ops [⟨(some 18), .bin .add (.t 8) (.c (.int .i64 1)), none⟩, ⟨(some 8), .mv (.t 18), none⟩])))))))
  (.seq (.ops [⟨(some 4), .mv (.c (.int .i64 (-1))), none⟩])
  .ret)))
def r56 : List RV := [.t 4]
theorem fn56 : cFn Tryd.prog 56 = some (c56, r56, 19) := by kernel_rfl

/-- slices.Repeat[[]int,int] -/
def c57 : MC :=
  (.seq (.ops [⟨(some 4), .mv (.c (.slice none 0 0)), none⟩])
  (.seq (.seq (.ops [⟨(some 9), .mv (.t 1), none⟩, ⟨(some 10), .bin .lss (.t 9) (.c (.int .i64 0)), none⟩])
  (.cond (.t 10) (.ops [⟨(some 11), .mki 9 (.c (.string ⟨#[99, 97, 110, 110, 111, 116, 32, 98, 101, 32, 110, 101, 103, 97, 116, 105, 118, 101]⟩)), none⟩, ⟨none, .bad, none⟩]) .skip))
  (.seq (.ops [⟨(some 13), .mv (.t 0), none⟩, ⟨(some 14), .len false (.t 13), none⟩, ⟨(some 15), .conv .u64 (.t 14), none⟩, ⟨(some 16), .mv (.t 1), none⟩, ⟨(some 17), .conv .u64 (.t 16), none⟩, ⟨(some 18), .call 80 [(.t 15), (.t 17)], none⟩, ⟨(some 12), .mv (.t 18), none⟩, ⟨(some 19), .ext (.t 12) 0, none⟩, ⟨(some 20), .ext (.t 12) 1, none⟩, ⟨(some 5), .mv (.t 19), none⟩, ⟨(some 6), .mv (.t 20), none⟩])
  (.seq (.seq (.ops [⟨(some 21), .mv (.t 5), none⟩, ⟨(some 22), .bin .gtr (.t 21) (.c (.int .u64 0)), none⟩, ⟨(some 23), .mv (.t 22), none⟩, ⟨(some 24), .mv (.t 6), (some (23, false))⟩, ⟨(some 25), .bin .gtr (.t 24) (.c (.int .u64 9223372036854775807)), (some (23, false))⟩, ⟨(some 26), .pick (.t 23) (.c (.bool true)) (.t 25), none⟩])
  (.cond (.t 26) (.ops [⟨(some 27), .mki 9 (.c (.string ⟨#[116, 104, 101, 32, 114, 101, 115, 117, 108, 116, 32, 111, 102, 32, 40, 108, 101, 110, 40, 120, 41, 32, 42, 32, 99, 111, 117, 110, 116, 41, 32, 111, 118, 101, 114, 102, 108, 111, 119, 115]⟩)), none⟩, ⟨none, .bad, none⟩]) .skip))
  (.seq (.ops [⟨(some 28), .mv (.t 6), none⟩, ⟨(some 29), .conv .i64 (.t 28), none⟩, ⟨(some 30), .mks 1 8 [(.int .i64 0)] (.t 29) (.t 29), none⟩, ⟨(some 7), .mv (.t 30), none⟩])
  (.seq (.ops [⟨(some 31), .mv (.t 7), none⟩, ⟨(some 32), .mv (.t 0), none⟩, ⟨(some 33), .cpy 1 (.t 31) (.t 32), none⟩, ⟨(some 8), .mv (.t 33), none⟩])
  (.seq (.block 0 (.loop (.seq (.seq (.ops [⟨(some 34), .mv (.t 8), none⟩, ⟨(some 35), .mv (.t 7), none⟩, ⟨(some 36), .len false (.t 35), none⟩, ⟨(some 37), .bin .lss (.t 34) (.t 36), none⟩])
  (.cond (.t 37) .skip (.exit 0)))
  (.block 1 (.dops [⟨⟨(some 38), .mv (.t 8), none⟩, 0, false, false⟩, ⟨⟨(some 39), .mv (.t 7), none⟩, 1, false, false⟩, ⟨⟨(some 40), .mv (.t 8), none⟩, 2, false, false⟩, ⟨⟨(some 41), .slc 1 (.t 39) (some (.t 40)) none none, none⟩, 3, false, false⟩, ⟨⟨(some 42), .mv (.t 7), none⟩, 4, false, false⟩, ⟨⟨(some 43), .mv (.t 8), none⟩, 5, false, false⟩, ⟨⟨(some 44), .slc 1 (.t 42) none (some (.t 43)) none, none⟩, 6, false, false⟩, ⟨⟨(some 45), .cpy 1 (.t 41) (.t 44), none⟩, 7, true, false⟩, ⟨⟨(some 46), .bin .add (.t 38) (.t 45), none⟩, 8, false, false⟩, ⟨⟨(some 8), .mv (.t 46), none⟩, 9, true, false⟩])))))
  (.seq (.ops [⟨(some 47), .mv (.t 7), none⟩, ⟨(some 4), .mv (.t 47), none⟩])
  .ret))))))))
def r57 : List RV := [.t 4]
theorem fn57 : cFn Tryd.prog 57 = some (c57, r57, 48) := by kernel_rfl

/-- dynamo/heap.New -/
def c58 : MC :=
  (.seq (.ops [⟨(some 0), .mv (.c (.pointer none)), none⟩])
  (.seq (.ops [⟨(some 1), .bld [(.slice none 0 0)] [], none⟩, ⟨(some 2), .box (.t 1), none⟩, ⟨(some 0), .mv (.t 2), none⟩])
  .ret))
def r58 : List RV := [.t 0]
theorem fn58 : cFn Tryd.prog 58 = some (c58, r58, 3) := by kernel_rfl

/-- (*dynamo/heap.Heap).Push -/
def c59 : MC :=
  (.seq (.ops [⟨(some 3), .box (.t 1), none⟩])
  (.seq (.seq (.ops [⟨(some 5), .mv (.t 0), none⟩, ⟨(some 6), .eqN .ptr false (.t 5) (.c (.pointer none)), none⟩])
  (.cond (.t 6) .ret .skip))
  (.seq (.dops [⟨⟨(some 7), .mv (.t 0), none⟩, 0, false, false⟩, ⟨⟨(some 8), .mv (.t 0), none⟩, 1, false, false⟩, ⟨⟨(some 9), .nilck (.t 8), none⟩, 2, false, false⟩, ⟨⟨(some 10), .fadd 0 (.t 9), none⟩, 3, false, false⟩, ⟨⟨(some 11), .load1 (.t 10), none⟩, 4, false, false⟩, ⟨⟨(some 12), .loadN 2 (.t 3), none⟩, 5, false, false⟩, ⟨⟨(some 13), .bsl 2 1 [(.int .i64 0), (.int .i64 0)] [(0, (.t 12))], none⟩, 6, true, true⟩, ⟨⟨(some 14), .app 2 16 (.t 11) (.t 13), none⟩, 7, true, false⟩, ⟨⟨(some 15), .nilck (.t 7), none⟩, 8, false, false⟩, ⟨⟨(some 16), .fadd 0 (.t 15), none⟩, 9, false, false⟩, ⟨⟨none, .store 1 (.t 16) (.t 14), none⟩, 10, true, false⟩])
  (.seq (.ops [⟨(some 17), .mv (.t 0), none⟩, ⟨(some 18), .nilck (.t 17), none⟩, ⟨(some 19), .fadd 0 (.t 18), none⟩, ⟨(some 20), .load1 (.t 19), none⟩, ⟨(some 21), .len false (.t 20), none⟩, ⟨(some 22), .bin .sub (.t 21) (.c (.int .i64 1)), none⟩, ⟨(some 4), .mv (.t 22), none⟩])
  (.block 0 (.loop (.seq (.seq (.ops [⟨(some 23), .mv (.t 4), none⟩, ⟨(some 24), .bin .gtr (.t 23) (.c (.int .i64 0)), none⟩, ⟨(some 25), .mv (.t 24), none⟩, ⟨(some 26), .mv (.t 0), (some (25, true))⟩, ⟨(some 27), .mv (.t 4), (some (25, true))⟩, ⟨(some 28), .mv (.t 4), (some (25, true))⟩, ⟨(some 29), .bin .sub (.t 28) (.c (.int .i64 1)), (some (25, true))⟩, ⟨(some 30), .bin .quo (.t 29) (.c (.int .i64 2)), (some (25, true))⟩, ⟨(some 31), .call 81 [(.t 26), (.t 27), (.t 30)], (some (25, true))⟩, ⟨(some 32), .pick (.t 25) (.t 31) (.c (.bool false)), none⟩])
  (.cond (.t 32) .skip (.exit 0)))
  (.seq (.block 1 (.ops [⟨(some 36), .mv (.t 0), none⟩, ⟨(some 37), .mv (.t 4), none⟩, ⟨(some 38), .mv (.t 4), none⟩, ⟨(some 39), .bin .sub (.t 38) (.c (.int .i64 1)), none⟩, ⟨(some 40), .bin .quo (.t 39) (.c (.int .i64 2)), none⟩, ⟨(some 41), .call 82 [(.t 36), (.t 37), (.t 40)], none⟩]))
  (.ops [⟨(some 33), .mv (.t 4), none⟩, ⟨(some 34), .bin .sub (.t 33) (.c (.int .i64 1)), none⟩, ⟨(some 35), .bin .quo (.t 34) (.c (.int .i64 2)), none⟩, ⟨(some 4), .mv (.t 35), none⟩])))))))))
def r59 : List RV := []
theorem fn59 : cFn Tryd.prog 59 = some (c59, r59, 42) := by kernel_rfl

/-- (*dynamo/heap.Heap).Pop -/
def c60 : MC :=
  (.seq (.ops [⟨(some 2), .alloc [(.int .i64 0), (.int .i64 0)], none⟩, ⟨(some 3), .mv (.c (.bool false)), none⟩])
  (.seq (.seq (.ops [⟨(some 6), .mv (.t 0), none⟩, ⟨(some 7), .call 83 [(.t 6)], none⟩, ⟨(some 8), .bin .eql (.t 7) (.c (.int .i64 0)), none⟩])
  (.cond (.t 8) (.seq (.ops [⟨(some 9), .bld [(.int .i64 0), (.int .i64 0)] [], none⟩, ⟨none, .store 2 (.t 2) (.t 9), none⟩, ⟨(some 3), .mv (.c (.bool false)), none⟩])
  .ret) .skip))
  (.seq (.ops [⟨(some 10), .mv (.t 0), none⟩, ⟨(some 11), .nilck (.t 10), none⟩, ⟨(some 12), .fadd 0 (.t 11), none⟩, ⟨(some 13), .load1 (.t 12), none⟩, ⟨(some 14), .iaS 2 (.t 13) (.c (.int .i64 0)), none⟩, ⟨(some 15), .loadN 2 (.t 14), none⟩, ⟨(some 4), .alloc [(.int .i64 0), (.int .i64 0)], none⟩, ⟨none, .store 2 (.t 4) (.t 15), none⟩])
  (.seq (.ops [⟨(some 16), .mv (.t 0), none⟩, ⟨(some 17), .nilck (.t 16), none⟩, ⟨(some 18), .fadd 0 (.t 17), none⟩, ⟨(some 19), .load1 (.t 18), none⟩, ⟨(some 20), .len false (.t 19), none⟩, ⟨(some 21), .bin .sub (.t 20) (.c (.int .i64 1)), none⟩, ⟨(some 5), .mv (.t 21), none⟩])
  (.seq (.dops [⟨⟨(some 22), .mv (.t 0), none⟩, 0, false, false⟩, ⟨⟨(some 23), .nilck (.t 22), none⟩, 1, false, false⟩, ⟨⟨(some 24), .fadd 0 (.t 23), none⟩, 2, false, false⟩, ⟨⟨(some 25), .load1 (.t 24), none⟩, 3, false, false⟩, ⟨⟨(some 26), .mv (.t 0), none⟩, 4, false, false⟩, ⟨⟨(some 27), .nilck (.t 26), none⟩, 5, false, false⟩, ⟨⟨(some 28), .fadd 0 (.t 27), none⟩, 6, false, false⟩, ⟨⟨(some 29), .load1 (.t 28), none⟩, 7, false, false⟩, ⟨⟨(some 30), .mv (.t 5), none⟩, 8, false, false⟩, ⟨⟨(some 31), .iaS 2 (.t 29) (.t 30), none⟩, 9, false, false⟩, ⟨⟨(some 32), .loadN 2 (.t 31), none⟩, 10, false, false⟩, ⟨⟨(some 33), .iaS 2 (.t 25) (.c (.int .i64 0)), none⟩, 11, false, false⟩, ⟨⟨none, .store 2 (.t 33) (.t 32), none⟩, 12, true, false⟩])
  (.seq (.ops [⟨(some 34), .mv (.t 0), none⟩, ⟨(some 35), .mv (.t 0), none⟩, ⟨(some 36), .nilck (.t 35), none⟩, ⟨(some 37), .fadd 0 (.t 36), none⟩, ⟨(some 38), .load1 (.t 37), none⟩, ⟨(some 39), .mv (.t 5), none⟩, ⟨(some 40), .slc 2 (.t 38) none (some (.t 39)) none, none⟩, ⟨(some 41), .nilck (.t 34), none⟩, ⟨(some 42), .fadd 0 (.t 41), none⟩, ⟨none, .store 1 (.t 42) (.t 40), none⟩])
  (.seq (.ops [⟨(some 43), .mv (.t 0), none⟩, ⟨(some 44), .call 84 [(.t 43)], none⟩])
  (.seq (.ops [⟨(some 45), .loadN 2 (.t 4), none⟩, ⟨none, .store 2 (.t 2) (.t 45), none⟩, ⟨(some 3), .mv (.c (.bool true)), none⟩])
  .ret))))))))
def r60 : List RV := [.cell 2 2 true, .t 3]
theorem fn60 : cFn Tryd.prog 60 = some (c60, r60, 46) := by kernel_rfl

/-- slices.Index[[]int,int] -/
def c61 : MC :=
  (.seq (.ops [⟨(some 4), .mv (.c (.int .i64 0)), none⟩])
  (.seq (.seq (.ops [⟨(some 6), .mv (.t 0), none⟩, ⟨(some 7), .len false (.t 6), none⟩, ⟨(some 8), .mv (.c (.int .i64 0)), none⟩])
  (.block 0 (.loop (.seq (.ops [⟨(some 9), .bin .lss (.t 8) (.t 7), none⟩])
  (.seq (.cond (.t 9) .skip (.exit 0))
  (.seq (.block 1 (.seq (.ops [⟨(some 10), .mv (.t 8), none⟩, ⟨(some 5), .mv (.t 10), none⟩])
  (.seq (.ops [⟨(some 11), .mv (.t 1), none⟩, ⟨(some 12), .mv (.t 0), none⟩, ⟨(some 13), .mv (.t 5), none⟩, ⟨(some 14), .iaS 1 (.t 12) (.t 13), none⟩, ⟨(some 15), .load1 (.t 14), none⟩, ⟨(some 16), .bin .eql (.t 11) (.t 15), none⟩])
  (.cond (.t 16) (.seq (.ops [⟨(some 17), .mv (.t 5), none⟩, ⟨(some 4), .mv (.t 17), none⟩])
  .ret) .skip))))
  (.ops [⟨(some 18), .bin .add (.t 8) (.c (.int .i64 1)), none⟩, ⟨(some 8), .mv (.t 18), none⟩])))))))
  (.seq (.ops [⟨(some 4), .mv (.c (.int .i64 (-1))), none⟩])
  .ret)))
def r61 : List RV := [.t 4]
theorem fn61 : cFn Tryd.prog 61 = some (c61, r61, 19) := by kernel_rfl

/-- (dynamo/grid.Map).near$1 -/
def c62 : MC :=
  (.seq (.ops [⟨(some 6), .mv (.t 1), none⟩, ⟨(some 7), .mv (.t 6), none⟩, ⟨(some 8), .loadN 3 (.t 2), (some (7, true))⟩, ⟨(some 9), .mv (.t 0), (some (7, true))⟩, ⟨(some 10), .call 48 [(.t 8), (.t 9)], (some (7, true))⟩, ⟨(some 11), .pick (.t 7) (.t 10) (.c (.bool false)), none⟩])
  (.cond (.t 11) (.ops [⟨(some 12), .load1 (.t 3), none⟩, ⟨(some 13), .mv (.t 0), none⟩, ⟨(some 14), .bsl 1 1 [(.int .i64 0)] [(0, (.t 13))], none⟩, ⟨(some 15), .app 1 8 (.t 12) (.t 14), none⟩, ⟨none, .store 1 (.t 3) (.t 15), none⟩]) .skip))
def r62 : List RV := []
theorem fn62 : cFn Tryd.prog 62 = some (c62, r62, 16) := by kernel_rfl

/-- dynamo/grid.sized$1 -/
def c63 : MC :=
  (.seq (.ops [⟨(some 2), .mv (.c (.bool false)), none⟩])
  (.seq (.ops [⟨(some 3), .mv (.t 0), none⟩, ⟨(some 4), .bin .geq (.t 3) (.c (.int .i64 1)), none⟩, ⟨(some 5), .mv (.t 4), none⟩, ⟨(some 6), .mv (.t 0), (some (5, true))⟩, ⟨(some 7), .bin .leq (.t 6) (.c (.int .i64 8)), (some (5, true))⟩, ⟨(some 8), .pick (.t 5) (.t 7) (.c (.bool false)), none⟩, ⟨(some 2), .mv (.t 8), none⟩])
  .ret))
def r63 : List RV := [.t 2]
theorem fn63 : cFn Tryd.prog 63 = some (c63, r63, 9) := by kernel_rfl

/-- strings.Trim -/
def c64 : MC :=
  (.seq (.ops [⟨(some 4), .mv (.c (.string ⟨#[]⟩)), none⟩])
  (.seq (.seq (.ops [⟨(some 7), .mv (.t 0), none⟩, ⟨(some 8), .bin .eql (.t 7) (.c (.string ⟨#[]⟩)), none⟩, ⟨(some 9), .mv (.t 8), none⟩, ⟨(some 10), .mv (.t 1), (some (9, false))⟩, ⟨(some 11), .bin .eql (.t 10) (.c (.string ⟨#[]⟩)), (some (9, false))⟩, ⟨(some 12), .pick (.t 9) (.c (.bool true)) (.t 11), none⟩])
  (.cond (.t 12) (.seq (.ops [⟨(some 13), .mv (.t 0), none⟩, ⟨(some 4), .mv (.t 13), none⟩])
  .ret) .skip))
  (.seq (.seq (.ops [⟨(some 14), .mv (.t 1), none⟩, ⟨(some 15), .len true (.t 14), none⟩, ⟨(some 16), .bin .eql (.t 15) (.c (.int .i64 1)), none⟩, ⟨(some 17), .mv (.t 16), none⟩, ⟨(some 18), .mv (.t 1), (some (17, true))⟩, ⟨(some 19), .idxS (.t 18) (.c (.int .i64 0)), (some (17, true))⟩, ⟨(some 20), .bin .lss (.t 19) (.c (.int .u8 128)), (some (17, true))⟩, ⟨(some 21), .pick (.t 17) (.t 20) (.c (.bool false)), none⟩])
  (.cond (.t 21) (.seq (.dops [⟨⟨(some 22), .mv (.t 0), none⟩, 0, false, false⟩, ⟨⟨(some 23), .mv (.t 1), none⟩, 1, false, false⟩, ⟨⟨(some 24), .idxS (.t 23) (.c (.int .i64 0)), none⟩, 2, false, false⟩, ⟨⟨(some 26), .mv (.t 1), none⟩, 4, false, false⟩, ⟨⟨(some 27), .idxS (.t 26) (.c (.int .i64 0)), none⟩, 5, false, false⟩, ⟨⟨(some 25), .call 86 [(.t 22), (.t 24)], none⟩, 3, true, false⟩, ⟨⟨(some 28), .call 85 [(.t 25), (.t 27)], none⟩, 6, true, false⟩, ⟨⟨(some 4), .mv (.t 28), none⟩, 7, false, false⟩])
  .ret) .skip))
  (.seq (.seq (.ops [⟨(some 30), .mv (.t 1), none⟩, ⟨(some 31), .call 87 [(.t 30)], none⟩, ⟨(some 29), .mv (.t 31), none⟩, ⟨(some 32), .ext (.t 29) 0, none⟩, ⟨(some 33), .ext (.t 29) 1, none⟩, ⟨(some 5), .alloc (List.replicate 256 (.bool false)), none⟩, ⟨none, .store 256 (.t 5) (.t 32), none⟩, ⟨(some 6), .mv (.t 33), none⟩])
  (.seq (.ops [⟨(some 34), .mv (.t 6), none⟩])
  (.cond (.t 34) (.seq (.ops [⟨(some 35), .mv (.t 0), none⟩, ⟨(some 36), .call 89 [(.t 35), (.t 5)], none⟩, ⟨(some 37), .call 88 [(.t 36), (.t 5)], none⟩, ⟨(some 4), .mv (.t 37), none⟩])
  .ret) .skip)))
  (.seq (.ops [⟨(some 38), .mv (.t 0), none⟩, ⟨(some 39), .mv (.t 1), none⟩, ⟨(some 40), .call 91 [(.t 38), (.t 39)], none⟩, ⟨(some 41), .mv (.t 1), none⟩, ⟨(some 42), .call 90 [(.t 40), (.t 41)], none⟩, ⟨(some 4), .mv (.t 42), none⟩])
  .ret)))))
def r64 : List RV := [.t 4]
theorem fn64 : cFn Tryd.prog 64 = some (c64, r64, 43) := by kernel_rfl

/-- strings.ContainsFunc -/
def c65 : MC :=
  (.seq (.ops [⟨(some 4), .mv (.c (.bool false)), none⟩])
  (.seq (.ops [⟨(some 5), .mv (.t 0), none⟩, ⟨(some 6), .mv (.t 1), none⟩, ⟨(some 7), .call 92 [(.t 5), (.t 6)], none⟩, ⟨(some 8), .bin .geq (.t 7) (.c (.int .i64 0)), none⟩, ⟨(some 4), .mv (.t 8), none⟩])
  .ret))
def r65 : List RV := [.t 4]
theorem fn65 : cFn Tryd.prog 65 = some (c65, r65, 9) := by kernel_rfl

/-- dynamo/grid.sized$2 -/
def c66 : MC :=
  (.seq (.ops [⟨(some 2), .mv (.c (.bool false)), none⟩])
  (.seq (.ops [⟨(some 3), .mv (.t 0), none⟩, ⟨(some 4), .call 67 [(.c (.string ⟨#[35, 46, 67, 80]⟩)), (.t 3)], none⟩, ⟨(some 5), .not (.t 4), none⟩, ⟨(some 2), .mv (.t 5), none⟩])
  .ret))
def r66 : List RV := [.t 2]
theorem fn66 : cFn Tryd.prog 66 = some (c66, r66, 6) := by kernel_rfl

/-- strings.ContainsRune -/
def c67 : MC :=
  (.seq (.ops [⟨(some 4), .mv (.c (.bool false)), none⟩])
  (.seq (.ops [⟨(some 5), .mv (.t 0), none⟩, ⟨(some 6), .mv (.t 1), none⟩, ⟨(some 7), .call 93 [(.t 5), (.t 6)], none⟩, ⟨(some 8), .bin .geq (.t 7) (.c (.int .i64 0)), none⟩, ⟨(some 4), .mv (.t 8), none⟩])
  .ret))
def r67 : List RV := [.t 4]
theorem fn67 : cFn Tryd.prog 67 = some (c67, r67, 9) := by kernel_rfl

/-- slices.Chunk[[]byte,byte]$1 -/
def c71 : MC :=
  (.seq (.ops [⟨(some 4), .mv (.c (.int .i64 0)), none⟩])
  (.block 0 (.loop (.seq (.seq (.ops [⟨(some 6), .mv (.t 4), none⟩, ⟨(some 7), .load1 (.t 1), none⟩, ⟨(some 8), .len false (.t 7), none⟩, ⟨(some 9), .bin .lss (.t 6) (.t 8), none⟩])
  (.cond (.t 9) .skip (.exit 0)))
  (.seq (.block 1 (.seq (.dops [⟨⟨(some 13), .load1 (.t 2), none⟩, 0, false, false⟩, ⟨⟨(some 14), .load1 (.t 1), none⟩, 1, false, false⟩, ⟨⟨(some 15), .mv (.t 4), none⟩, 2, false, false⟩, ⟨⟨(some 16), .slc 1 (.t 14) (some (.t 15)) none none, none⟩, 3, false, false⟩, ⟨⟨(some 17), .len false (.t 16), none⟩, 4, false, false⟩, ⟨⟨(some 18), .min2 (.t 13) (.t 17), none⟩, 5, false, false⟩, ⟨⟨(some 5), .mv (.t 18), none⟩, 6, false, false⟩])
  (.seq (.ops [⟨(some 19), .mv (.t 0), none⟩, ⟨(some 20), .load1 (.t 1), none⟩, ⟨(some 21), .mv (.t 4), none⟩, ⟨(some 22), .mv (.t 4), none⟩, ⟨(some 23), .mv (.t 5), none⟩, ⟨(some 24), .bin .add (.t 22) (.t 23), none⟩, ⟨(some 25), .mv (.t 4), none⟩, ⟨(some 26), .mv (.t 5), none⟩, ⟨(some 27), .bin .add (.t 25) (.t 26), none⟩, ⟨(some 28), .slc 1 (.t 20) (some (.t 21)) (some (.t 24)) (some (.t 27)), none⟩, ⟨(some 29), .callv (.t 19) [(.t 28)], none⟩, ⟨(some 30), .not (.t 29), none⟩])
  (.cond (.t 30) .ret .skip))))
  (.ops [⟨(some 10), .mv (.t 4), none⟩, ⟨(some 11), .load1 (.t 2), none⟩, ⟨(some 12), .bin .add (.t 10) (.t 11), none⟩, ⟨(some 4), .mv (.t 12), none⟩]))))))
def r71 : List RV := []
theorem fn71 : cFn Tryd.prog 71 = some (c71, r71, 31) := by kernel_rfl

/-- strings.Lines$1 -/
def c77 : MC :=
  (.block 0 (.loop (.seq (.seq (.ops [⟨(some 5), .load1 (.t 1), none⟩, ⟨(some 6), .len true (.t 5), none⟩, ⟨(some 7), .bin .gtr (.t 6) (.c (.int .i64 0)), none⟩])
  (.cond (.t 7) .skip (.exit 0)))
  (.block 1 (.seq (.ops [⟨(some 3), .mv (.c (.string ⟨#[]⟩)), none⟩])
  (.seq (.seq (.ops [⟨(some 8), .load1 (.t 1), none⟩, ⟨(some 9), .call 78 [(.t 8), (.c (.int .u8 10))], none⟩, ⟨(some 4), .mv (.t 9), none⟩])
  (.seq (.ops [⟨(some 10), .mv (.t 4), none⟩, ⟨(some 11), .bin .geq (.t 10) (.c (.int .i64 0)), none⟩])
  (.cond (.t 11) (.dops [⟨⟨(some 12), .load1 (.t 1), none⟩, 0, false, false⟩, ⟨⟨(some 13), .mv (.t 4), none⟩, 1, false, false⟩, ⟨⟨(some 14), .bin .add (.t 13) (.c (.int .i64 1)), none⟩, 2, false, false⟩, ⟨⟨(some 15), .slcS (.t 12) none (some (.t 14)), none⟩, 3, false, false⟩, ⟨⟨(some 16), .load1 (.t 1), none⟩, 4, false, false⟩, ⟨⟨(some 17), .mv (.t 4), none⟩, 5, false, false⟩, ⟨⟨(some 18), .bin .add (.t 17) (.c (.int .i64 1)), none⟩, 6, false, false⟩, ⟨⟨(some 19), .slcS (.t 16) (some (.t 18)) none, none⟩, 7, false, false⟩, ⟨⟨(some 3), .mv (.t 15), none⟩, 8, false, false⟩, ⟨⟨none, .store 1 (.t 1) (.t 19), none⟩, 9, true, false⟩]) (.ops [⟨(some 20), .load1 (.t 1), none⟩, ⟨(some 3), .mv (.t 20), none⟩, ⟨none, .store 1 (.t 1) (.c (.string ⟨#[]⟩)), none⟩]))))
  (.seq (.ops [⟨(some 21), .mv (.t 0), none⟩, ⟨(some 22), .mv (.t 3), none⟩, ⟨(some 23), .callv (.t 21) [(.t 22)], none⟩, ⟨(some 24), .not (.t 23), none⟩])
  (.cond (.t 24) .ret .skip))))))))
def r77 : List RV := []
theorem fn77 : cFn Tryd.prog 77 = some (c77, r77, 25) := by kernel_rfl

/-- strings.IndexByte -/
def c78 : MC :=
  (.seq (.ops [⟨(some 4), .mv (.c (.int .i64 0)), none⟩])
  (.seq (.ops [⟨(some 5), .mv (.t 0), none⟩, ⟨(some 6), .mv (.t 1), none⟩, ⟨(some 7), .call 94 [(.t 5), (.t 6)], none⟩, ⟨(some 4), .mv (.t 7), none⟩])
  .ret))
def r78 : List RV := [.t 4]
theorem fn78 : cFn Tryd.prog 78 = some (c78, r78, 8) := by kernel_rfl

/-- internal/stringslite.CutSuffix -/
def c79 : MC :=
  (.seq (.ops [⟨(some 4), .mv (.c (.string ⟨#[]⟩)), none⟩, ⟨(some 5), .mv (.c (.bool false)), none⟩])
  (.seq (.seq (.ops [⟨(some 6), .mv (.t 0), none⟩, ⟨(some 7), .mv (.t 1), none⟩, ⟨(some 8), .call 102 [(.t 6), (.t 7)], none⟩, ⟨(some 9), .not (.t 8), none⟩])
  (.cond (.t 9) (.seq (.ops [⟨(some 10), .mv (.t 0), none⟩, ⟨(some 4), .mv (.t 10), none⟩, ⟨(some 5), .mv (.c (.bool false)), none⟩])
  .ret) .skip))
  (.seq (.ops [⟨(some 11), .mv (.t 0), none⟩, ⟨(some 12), .mv (.t 0), none⟩, ⟨(some 13), .len true (.t 12), none⟩, ⟨(some 14), .mv (.t 1), none⟩, ⟨(some 15), .len true (.t 14), none⟩, ⟨(some 16), .bin .sub (.t 13) (.t 15), none⟩, ⟨(some 17), .slcS (.t 11) none (some (.t 16)), none⟩, ⟨(some 4), .mv (.t 17), none⟩, ⟨(some 5), .mv (.c (.bool true)), none⟩])
  .ret)))
def r79 : List RV := [.t 4, .t 5]
theorem fn79 : cFn Tryd.prog 79 = some (c79, r79, 18) := by kernel_rfl

/-- math/bits.Mul -/
def c80 : MC :=
  (.seq (.ops [⟨(some 4), .mv (.c (.int .u64 0)), none⟩, ⟨(some 5), .mv (.c (.int .u64 0)), none⟩])
  (.seq (.cond (.c (.bool false)) (.seq (.ops [⟨(some 11), .mv (.t 0), none⟩, ⟨(some 12), .conv .u32 (.t 11), none⟩, ⟨(some 13), .mv (.t 1), none⟩, ⟨(some 14), .conv .u32 (.t 13), none⟩, ⟨(some 15), .call 103 [(.t 12), (.t 14)], none⟩, ⟨(some 10), .mv (.t 15), none⟩, ⟨(some 16), .ext (.t 10) 0, none⟩, ⟨(some 17), .ext (.t 10) 1, none⟩, ⟨(some 6), .mv (.t 16), none⟩, ⟨(some 7), .mv (.t 17), none⟩])
  (.seq (.ops [⟨(some 18), .mv (.t 6), none⟩, ⟨(some 19), .conv .u64 (.t 18), none⟩, ⟨(some 20), .mv (.t 7), none⟩, ⟨(some 21), .conv .u64 (.t 20), none⟩, ⟨(some 4), .mv (.t 19), none⟩, ⟨(some 5), .mv (.t 21), none⟩])
  .ret)) .skip)
  (.seq (.ops [⟨(some 23), .mv (.t 0), none⟩, ⟨(some 24), .mv (.t 1), none⟩, ⟨(some 25), .call 104 [(.t 23), (.t 24)], none⟩, ⟨(some 22), .mv (.t 25), none⟩, ⟨(some 26), .ext (.t 22) 0, none⟩, ⟨(some 27), .ext (.t 22) 1, none⟩, ⟨(some 8), .mv (.t 26), none⟩, ⟨(some 9), .mv (.t 27), none⟩])
  (.seq (.ops [⟨(some 28), .mv (.t 8), none⟩, ⟨(some 29), .mv (.t 9), none⟩, ⟨(some 4), .mv (.t 28), none⟩, ⟨(some 5), .mv (.t 29), none⟩])
  .ret))))
def r80 : List RV := [.t 4, .t 5]
theorem fn80 : cFn Tryd.prog 80 = some (c80, r80, 30) := by kernel_rfl

/-- (*dynamo/heap.Heap).less -/
def c81 : MC :=
  (.seq (.ops [⟨(some 6), .mv (.c (.bool false)), none⟩])
  (.seq (.dops [⟨⟨(some 7), .mv (.t 0), none⟩, 0, false, false⟩, ⟨⟨(some 8), .nilck (.t 7), none⟩, 1, false, false⟩, ⟨⟨(some 9), .fadd 0 (.t 8), none⟩, 2, false, false⟩, ⟨⟨(some 10), .load1 (.t 9), none⟩, 3, false, false⟩, ⟨⟨(some 11), .mv (.t 1), none⟩, 4, false, false⟩, ⟨⟨(some 12), .iaS 2 (.t 10) (.t 11), none⟩, 5, false, false⟩, ⟨⟨(some 13), .loadN 2 (.t 12), none⟩, 6, false, false⟩, ⟨⟨(some 14), .mv (.t 0), none⟩, 7, false, false⟩, ⟨⟨(some 15), .nilck (.t 14), none⟩, 8, false, false⟩, ⟨⟨(some 16), .fadd 0 (.t 15), none⟩, 9, false, false⟩, ⟨⟨(some 17), .load1 (.t 16), none⟩, 10, false, false⟩, ⟨⟨(some 18), .mv (.t 2), none⟩, 11, false, false⟩, ⟨⟨(some 19), .iaS 2 (.t 17) (.t 18), none⟩, 12, false, false⟩, ⟨⟨(some 20), .loadN 2 (.t 19), none⟩, 13, false, false⟩, ⟨⟨(some 21), .call 105 [(.t 13), (.t 20)], none⟩, 14, true, false⟩, ⟨⟨(some 6), .mv (.t 21), none⟩, 15, false, false⟩])
  .ret))
def r81 : List RV := [.t 6]
theorem fn81 : cFn Tryd.prog 81 = some (c81, r81, 22) := by kernel_rfl

/-- (*dynamo/heap.Heap).swap -/
def c82 : MC :=
  (.dops [⟨⟨(some 6), .mv (.t 0), none⟩, 0, false, false⟩, ⟨⟨(some 7), .nilck (.t 6), none⟩, 1, false, false⟩, ⟨⟨(some 8), .fadd 0 (.t 7), none⟩, 2, false, false⟩, ⟨⟨(some 9), .load1 (.t 8), none⟩, 3, false, false⟩, ⟨⟨(some 10), .mv (.t 1), none⟩, 4, false, false⟩, ⟨⟨(some 11), .mv (.t 0), none⟩, 5, false, false⟩, ⟨⟨(some 12), .nilck (.t 11), none⟩, 6, false, false⟩, ⟨⟨(some 13), .fadd 0 (.t 12), none⟩, 7, false, false⟩, ⟨⟨(some 14), .load1 (.t 13), none⟩, 8, false, false⟩, ⟨⟨(some 15), .mv (.t 2), none⟩, 9, false, false⟩, ⟨⟨(some 16), .mv (.t 0), none⟩, 10, false, false⟩, ⟨⟨(some 17), .nilck (.t 16), none⟩, 11, false, false⟩, ⟨⟨(some 18), .fadd 0 (.t 17), none⟩, 12, false, false⟩, ⟨⟨(some 19), .load1 (.t 18), none⟩, 13, false, false⟩, ⟨⟨(some 20), .mv (.t 2), none⟩, 14, false, false⟩, ⟨⟨(some 21), .iaS 2 (.t 19) (.t 20), none⟩, 15, false, false⟩, ⟨⟨(some 22), .loadN 2 (.t 21), none⟩, 16, false, false⟩, ⟨⟨(some 23), .mv (.t 0), none⟩, 17, false, false⟩, ⟨⟨(some 24), .nilck (.t 23), none⟩, 18, false, false⟩, ⟨⟨(some 25), .fadd 0 (.t 24), none⟩, 19, false, false⟩, ⟨⟨(some 26), .load1 (.t 25), none⟩, 20, false, false⟩, ⟨⟨(some 27), .mv (.t 1), none⟩, 21, false, false⟩, ⟨⟨(some 28), .iaS 2 (.t 26) (.t 27), none⟩, 22, false, false⟩, ⟨⟨(some 29), .loadN 2 (.t 28), none⟩, 23, false, false⟩, ⟨⟨(some 30), .iaS 2 (.t 9) (.t 10), none⟩, 24, false, false⟩, ⟨⟨none, .store 2 (.t 30) (.t 22), none⟩, 25, true, false⟩, ⟨⟨(some 31), .iaS 2 (.t 14) (.t 15), none⟩, 26, false, false⟩, ⟨⟨none, .store 2 (.t 31) (.t 29), none⟩, 27, true, false⟩])
def r82 : List RV := []
theorem fn82 : cFn Tryd.prog 82 = some (c82, r82, 32) := by kernel_rfl

/-- (*dynamo/heap.Heap).Len -/
def c83 : MC :=
  (.seq (.ops [⟨(some 2), .mv (.c (.int .i64 0)), none⟩])
  (.seq (.seq (.ops [⟨(some 3), .mv (.t 0), none⟩, ⟨(some 4), .eqN .ptr false (.t 3) (.c (.pointer none)), none⟩])
  (.cond (.t 4) (.seq (.ops [⟨(some 2), .mv (.c (.int .i64 0)), none⟩])
  .ret) .skip))
  (.seq (.ops [⟨(some 5), .mv (.t 0), none⟩, ⟨(some 6), .nilck (.t 5), none⟩, ⟨(some 7), .fadd 0 (.t 6), none⟩, ⟨(some 8), .load1 (.t 7), none⟩, ⟨(some 9), .len false (.t 8), none⟩, ⟨(some 2), .mv (.t 9), none⟩])
  .ret)))
def r83 : List RV := [.t 2]
theorem fn83 : cFn Tryd.prog 83 = some (c83, r83, 10) := by kernel_rfl

/-- (*dynamo/heap.Heap).sink -/
def c84 : MC :=
  (.seq (.ops [⟨(some 2), .mv (.c (.int .i64 0)), none⟩])
  (.block 0 (.loop (.block 1 (.seq (.ops [⟨(some 4), .mv (.t 2), none⟩, ⟨(some 5), .bin .mul (.c (.int .i64 2)) (.t 4), none⟩, ⟨(some 6), .bin .add (.t 5) (.c (.int .i64 1)), none⟩, ⟨(some 3), .mv (.t 6), none⟩])
  (.seq (.seq (.ops [⟨(some 7), .mv (.t 3), none⟩, ⟨(some 8), .mv (.t 0), none⟩, ⟨(some 9), .nilck (.t 8), none⟩, ⟨(some 10), .fadd 0 (.t 9), none⟩, ⟨(some 11), .load1 (.t 10), none⟩, ⟨(some 12), .len false (.t 11), none⟩, ⟨(some 13), .bin .geq (.t 7) (.t 12), none⟩])
  (.cond (.t 13) .ret .skip))
  (.seq (.seq (.ops [⟨(some 14), .mv (.t 3), none⟩, ⟨(some 15), .bin .add (.t 14) (.c (.int .i64 1)), none⟩, ⟨(some 16), .mv (.t 0), none⟩, ⟨(some 17), .nilck (.t 16), none⟩, ⟨(some 18), .fadd 0 (.t 17), none⟩, ⟨(some 19), .load1 (.t 18), none⟩, ⟨(some 20), .len false (.t 19), none⟩, ⟨(some 21), .bin .lss (.t 15) (.t 20), none⟩, ⟨(some 22), .mv (.t 21), none⟩, ⟨(some 23), .mv (.t 0), (some (22, true))⟩, ⟨(some 24), .mv (.t 3), (some (22, true))⟩, ⟨(some 25), .bin .add (.t 24) (.c (.int .i64 1)), (some (22, true))⟩, ⟨(some 26), .mv (.t 3), (some (22, true))⟩, ⟨(some 27), .call 81 [(.t 23), (.t 25), (.t 26)], (some (22, true))⟩, ⟨(some 28), .pick (.t 22) (.t 27) (.c (.bool false)), none⟩])
  (.cond (.t 28) (.ops [⟨(some 29), .mv (.t 3), none⟩, ⟨(some 30), .bin .add (.t 29) (.c (.int .i64 1)), none⟩, ⟨(some 3), .mv (.t 30), none⟩]) .skip))
  (.seq (.seq (.ops [⟨(some 31), .mv (.t 0), none⟩, ⟨(some 32), .mv (.t 3), none⟩, ⟨(some 33), .mv (.t 2), none⟩, ⟨(some 34), .call 81 [(.t 31), (.t 32), (.t 33)], none⟩, ⟨(some 35), .not (.t 34), none⟩])
  (.cond (.t 35) .ret .skip))
  (.seq (.ops [⟨(some 36), .mv (.t 0), none⟩, ⟨(some 37), .mv (.t 2), none⟩, ⟨(some 38), .mv (.t 3), none⟩, ⟨(some 39), .call 82 [(.t 36), (.t 37), (.t 38)], none⟩])
  (.ops [⟨(some 40), .mv (.t 3), none⟩, ⟨(some 2), .mv (.t 40), none⟩]))))))))))
def r84 : List RV := []
theorem fn84 : cFn Tryd.prog 84 = some (c84, r84, 41) := by kernel_rfl

/-- strings.trimLeftByte -/
def c85 : MC :=
  (.seq (.ops [⟨(some 4), .mv (.c (.string ⟨#[]⟩)), none⟩])
  (.seq (.block 0 (.loop (.seq (.seq (.ops [⟨(some 5), .mv (.t 0), none⟩, ⟨(some 6), .len true (.t 5), none⟩, ⟨(some 7), .bin .gtr (.t 6) (.c (.int .i64 0)), none⟩, ⟨(some 8), .mv (.t 7), none⟩, ⟨(some 9), .mv (.t 0), (some (8, true))⟩, ⟨(some 10), .idxS (.t 9) (.c (.int .i64 0)), (some (8, true))⟩, ⟨(some 11), .mv (.t 1), (some (8, true))⟩, ⟨(some 12), .bin .eql (.t 10) (.t 11), (some (8, true))⟩, ⟨(some 13), .pick (.t 8) (.t 12) (.c (.bool false)), none⟩])
  (.cond (.t 13) .skip (.exit 0)))
  (.block 1 (.ops [⟨(some 14), .mv (.t 0), none⟩, ⟨(some 15), .slcS (.t 14) (some (.c (.int .i64 1))) none, none⟩, ⟨(some 0), .mv (.t 15), none⟩])))))
  (.seq (.ops [⟨(some 16), .mv (.t 0), none⟩, ⟨(some 4), .mv (.t 16), none⟩])
  .ret)))
def r85 : List RV := [.t 4]
theorem fn85 : cFn Tryd.prog 85 = some (c85, r85, 17) := by kernel_rfl

/-- strings.trimRightByte -/
def c86 : MC :=
  (.seq (.ops [⟨(some 4), .mv (.c (.string ⟨#[]⟩)), none⟩])
  (.seq (.block 0 (.loop (.seq (.seq (.ops [⟨(some 5), .mv (.t 0), none⟩, ⟨(some 6), .len true (.t 5), none⟩, ⟨(some 7), .bin .gtr (.t 6) (.c (.int .i64 0)), none⟩, ⟨(some 8), .mv (.t 7), none⟩, ⟨(some 9), .mv (.t 0), (some (8, true))⟩, ⟨(some 10), .mv (.t 0), (some (8, true))⟩, ⟨(some 11), .len true (.t 10), (some (8, true))⟩, ⟨(some 12), .bin .sub (.t 11) (.c (.int .i64 1)), (some (8, true))⟩, ⟨(some 13), .idxS (.t 9) (.t 12), (some (8, true))⟩, ⟨(some 14), .mv (.t 1), (some (8, true))⟩, ⟨(some 15), .bin .eql (.t 13) (.t 14), (some (8, true))⟩, ⟨(some 16), .pick (.t 8) (.t 15) (.c (.bool false)), none⟩])
  (.cond (.t 16) .skip (.exit 0)))
  (.block 1 (.ops [⟨(some 17), .mv (.t 0), none⟩, ⟨(some 18), .mv (.t 0), none⟩, ⟨(some 19), .len true (.t 18), none⟩, ⟨(some 20), .bin .sub (.t 19) (.c (.int .i64 1)), none⟩, ⟨(some 21), .slcS (.t 17) none (some (.t 20)), none⟩, ⟨(some 0), .mv (.t 21), none⟩])))))
  (.seq (.ops [⟨(some 22), .mv (.t 0), none⟩, ⟨(some 4), .mv (.t 22), none⟩])
  .ret)))
def r86 : List RV := [.t 4]
theorem fn86 : cFn Tryd.prog 86 = some (c86, r86, 23) := by kernel_rfl

/-- strings.makeASCIISet -/
def c87 : MC :=
  (.seq (.ops [⟨(some 2), .alloc (List.replicate 256 (.bool false)), none⟩, ⟨(some 3), .mv (.c (.bool false)), none⟩])
  (.seq (.seq (.ops [⟨(some 4), .mv (.c (.int .i64 0)), none⟩])
  (.block 0 (.loop (.seq (.seq (.ops [⟨(some 6), .mv (.t 4), none⟩, ⟨(some 7), .mv (.t 0), none⟩, ⟨(some 8), .len true (.t 7), none⟩, ⟨(some 9), .bin .lss (.t 6) (.t 8), none⟩])
  (.cond (.t 9) .skip (.exit 0)))
  (.seq (.block 1 (.seq (.ops [⟨(some 12), .mv (.t 0), none⟩, ⟨(some 13), .mv (.t 4), none⟩, ⟨(some 14), .idxS (.t 12) (.t 13), none⟩, ⟨(some 5), .mv (.t 14), none⟩])
  (.seq (.seq (.ops [⟨(some 15), .mv (.t 5), none⟩, ⟨(some 16), .bin .geq (.t 15) (.c (.int .u8 128)), none⟩])
  (.cond (.t 16) (.seq (.ops [⟨(some 17), .loadN 256 (.t 2), none⟩, ⟨none, .store 256 (.t 2) (.t 17), none⟩, ⟨(some 3), .mv (.c (.bool false)), none⟩])
  .ret) .skip))
  (.ops [⟨(some 18), .mv (.t 5), none⟩, ⟨(some 19), .iaA 256 1 (.t 2) (.t 18), none⟩, ⟨none, .store 1 (.t 19) (.c (.bool true)), none⟩]))))
  (.ops [⟨(some 10), .mv (.t 4), none⟩, ⟨(some 11), .bin .add (.t 10) (.c (.int .i64 1)), none⟩, ⟨(some 4), .mv (.t 11), none⟩]))))))
  (.seq (.ops [⟨(some 20), .loadN 256 (.t 2), none⟩, ⟨none, .store 256 (.t 2) (.t 20), none⟩, ⟨(some 3), .mv (.c (.bool true)), none⟩])
  .ret)))
def r87 : List RV := [.cell 2 256 true, .t 3]
theorem fn87 : cFn Tryd.prog 87 = some (c87, r87, 21) := by kernel_rfl

/-- strings.trimLeftASCII -/
def c88 : MC :=
  (.seq (.ops [⟨(some 4), .mv (.c (.string ⟨#[]⟩)), none⟩])
  (.seq (.block 0 (.loop (.seq (.seq (.ops [⟨(some 5), .mv (.t 0), none⟩, ⟨(some 6), .len true (.t 5), none⟩, ⟨(some 7), .bin .gtr (.t 6) (.c (.int .i64 0)), none⟩])
  (.cond (.t 7) .skip (.exit 0)))
  (.block 1 (.seq (.seq (.ops [⟨(some 8), .mv (.t 1), none⟩, ⟨(some 9), .mv (.t 0), none⟩, ⟨(some 10), .idxS (.t 9) (.c (.int .i64 0)), none⟩, ⟨(some 11), .call 106 [(.t 8), (.t 10)], none⟩, ⟨(some 12), .not (.t 11), none⟩])
  (.cond (.t 12) (.exit 0) .skip))
  (.ops [⟨(some 13), .mv (.t 0), none⟩, ⟨(some 14), .slcS (.t 13) (some (.c (.int .i64 1))) none, none⟩, ⟨(some 0), .mv (.t 14), none⟩]))))))
  (.seq (.ops [⟨(some 15), .mv (.t 0), none⟩, ⟨(some 4), .mv (.t 15), none⟩])
  .ret)))
def r88 : List RV := [.t 4]
theorem fn88 : cFn Tryd.prog 88 = some (c88, r88, 16) := by kernel_rfl

/-- strings.trimRightASCII -/
def c89 : MC :=
  (.seq (.ops [⟨(some 4), .mv (.c (.string ⟨#[]⟩)), none⟩])
  (.seq (.block 0 (.loop (.seq (.seq (.ops [⟨(some 5), .mv (.t 0), none⟩, ⟨(some 6), .len true (.t 5), none⟩, ⟨(some 7), .bin .gtr (.t 6) (.c (.int .i64 0)), none⟩])
  (.cond (.t 7) .skip (.exit 0)))
  (.block 1 (.seq (.seq (.ops [⟨(some 8), .mv (.t 1), none⟩, ⟨(some 9), .mv (.t 0), none⟩, ⟨(some 10), .mv (.t 0), none⟩, ⟨(some 11), .len true (.t 10), none⟩, ⟨(some 12), .bin .sub (.t 11) (.c (.int .i64 1)), none⟩, ⟨(some 13), .idxS (.t 9) (.t 12), none⟩, ⟨(some 14), .call 106 [(.t 8), (.t 13)], none⟩, ⟨(some 15), .not (.t 14), none⟩])
  (.cond (.t 15) (.exit 0) .skip))
  (.ops [⟨(some 16), .mv (.t 0), none⟩, ⟨(some 17), .mv (.t 0), none⟩, ⟨(some 18), .len true (.t 17), none⟩, ⟨(some 19), .bin .sub (.t 18) (.c (.int .i64 1)), none⟩, ⟨(some 20), .slcS (.t 16) none (some (.t 19)), none⟩, ⟨(some 0), .mv (.t 20), none⟩]))))))
  (.seq (.ops [⟨(some 21), .mv (.t 0), none⟩, ⟨(some 4), .mv (.t 21), none⟩])
  .ret)))
def r89 : List RV := [.t 4]
theorem fn89 : cFn Tryd.prog 89 = some (c89, r89, 22) := by kernel_rfl

/-- strings.trimLeftUnicode -/
def c90 : MC :=
  (.seq (.ops [⟨(some 4), .mv (.c (.string ⟨#[]⟩)), none⟩])
  (.seq (.block 0 (.loop (.seq (.seq (.ops [⟨(some 7), .mv (.t 0), none⟩, ⟨(some 8), .len true (.t 7), none⟩, ⟨(some 9), .bin .gtr (.t 8) (.c (.int .i64 0)), none⟩])
  (.cond (.t 9) .skip (.exit 0)))
  (.block 1 (.seq (.ops [⟨(some 11), .mv (.t 0), none⟩, ⟨(some 12), .call 107 [(.t 11)], none⟩, ⟨(some 10), .mv (.t 12), none⟩, ⟨(some 13), .ext (.t 10) 0, none⟩, ⟨(some 14), .ext (.t 10) 1, none⟩, ⟨(some 5), .mv (.t 13), none⟩, ⟨(some 6), .mv (.t 14), none⟩])
  (.seq (.seq (.ops [⟨(some 15), .mv (.t 1), none⟩, ⟨(some 16), .mv (.t 5), none⟩, ⟨(some 17), .call 67 [(.t 15), (.t 16)], none⟩, ⟨(some 18), .not (.t 17), none⟩])
  (.cond (.t 18) (.exit 0) .skip))
  (.ops [⟨(some 19), .mv (.t 0), none⟩, ⟨(some 20), .mv (.t 6), none⟩, ⟨(some 21), .slcS (.t 19) (some (.t 20)) none, none⟩, ⟨(some 0), .mv (.t 21), none⟩])))))))
  (.seq (.ops [⟨(some 22), .mv (.t 0), none⟩, ⟨(some 4), .mv (.t 22), none⟩])
  .ret)))
def r90 : List RV := [.t 4]
theorem fn90 : cFn Tryd.prog 90 = some (c90, r90, 23) := by kernel_rfl

/-- strings.trimRightUnicode -/
def c91 : MC :=
  (.seq (.ops [⟨(some 4), .mv (.c (.string ⟨#[]⟩)), none⟩])
  (.seq (.block 0 (.loop (.seq (.seq (.ops [⟨(some 7), .mv (.t 0), none⟩, ⟨(some 8), .len true (.t 7), none⟩, ⟨(some 9), .bin .gtr (.t 8) (.c (.int .i64 0)), none⟩])
  (.cond (.t 9) .skip (.exit 0)))
  (.block 1 (.seq (.ops [⟨(some 10), .mv (.t 0), none⟩, ⟨(some 11), .mv (.t 0), none⟩, ⟨(some 12), .len true (.t 11), none⟩, ⟨(some 13), .bin .sub (.t 12) (.c (.int .i64 1)), none⟩, ⟨(some 14), .idxS (.t 10) (.t 13), none⟩, ⟨(some 15), .conv .i32 (.t 14), none⟩, ⟨(some 5), .mv (.t 15), none⟩, ⟨(some 6), .mv (.c (.int .i64 1)), none⟩])
  (.seq (.seq (.ops [⟨(some 16), .mv (.t 5), none⟩, ⟨(some 17), .bin .geq (.t 16) (.c (.int .i32 128)), none⟩])
  (.cond (.t 17) (.ops [⟨(some 19), .mv (.t 0), none⟩, ⟨(some 20), .call 108 [(.t 19)], none⟩, ⟨(some 18), .mv (.t 20), none⟩, ⟨(some 21), .ext (.t 18) 0, none⟩, ⟨(some 22), .ext (.t 18) 1, none⟩, ⟨(some 5), .mv (.t 21), none⟩, ⟨(some 6), .mv (.t 22), none⟩]) .skip))
  (.seq (.seq (.ops [⟨(some 23), .mv (.t 1), none⟩, ⟨(some 24), .mv (.t 5), none⟩, ⟨(some 25), .call 67 [(.t 23), (.t 24)], none⟩, ⟨(some 26), .not (.t 25), none⟩])
  (.cond (.t 26) (.exit 0) .skip))
  (.ops [⟨(some 27), .mv (.t 0), none⟩, ⟨(some 28), .mv (.t 0), none⟩, ⟨(some 29), .len true (.t 28), none⟩, ⟨(some 30), .mv (.t 6), none⟩, ⟨(some 31), .bin .sub (.t 29) (.t 30), none⟩, ⟨(some 32), .slcS (.t 27) none (some (.t 31)), none⟩, ⟨(some 0), .mv (.t 32), none⟩]))))))))
  (.seq (.ops [⟨(some 33), .mv (.t 0), none⟩, ⟨(some 4), .mv (.t 33), none⟩])
  .ret)))
def r91 : List RV := [.t 4]
theorem fn91 : cFn Tryd.prog 91 = some (c91, r91, 34) := by kernel_rfl

/-- strings.IndexFunc -/
def c92 : MC :=
  (.seq (.ops [⟨(some 4), .mv (.c (.int .i64 0)), none⟩])
  (.seq (.ops [⟨(some 5), .mv (.t 0), none⟩, ⟨(some 6), .mv (.t 1), none⟩, ⟨(some 7), .call 109 [(.t 5), (.t 6), (.c (.bool true))], none⟩, ⟨(some 4), .mv (.t 7), none⟩])
  .ret))
def r92 : List RV := [.t 4]
theorem fn92 : cFn Tryd.prog 92 = some (c92, r92, 8) := by kernel_rfl

/-- internal/stringslite.IndexByte -/
def c94 : MC :=
  (.seq (.ops [⟨(some 4), .mv (.c (.int .i64 0)), none⟩])
  (.seq (.ops [⟨(some 5), .mv (.t 0), none⟩, ⟨(some 6), .mv (.t 1), none⟩, ⟨(some 7), .call 111 [(.t 5), (.t 6)], none⟩, ⟨(some 4), .mv (.t 7), none⟩])
  .ret))
def r94 : List RV := [.t 4]
theorem fn94 : cFn Tryd.prog 94 = some (c94, r94, 8) := by kernel_rfl

/-- internal/bytealg.Cutover -/
def c96 : MC :=
  (.seq (.ops [⟨(some 2), .mv (.c (.int .i64 0)), none⟩])
  (.seq (.ops [⟨(some 3), .mv (.t 0), none⟩, ⟨(some 4), .bin .add (.t 3) (.c (.int .i64 16)), none⟩, ⟨(some 5), .bin .quo (.t 4) (.c (.int .i64 8)), none⟩, ⟨(some 2), .mv (.t 5), none⟩])
  .ret))
def r96 : List RV := [.t 2]
theorem fn96 : cFn Tryd.prog 96 = some (c96, r96, 6) := by kernel_rfl

/-- internal/stringslite.HasSuffix -/
def c102 : MC :=
  (.seq (.ops [⟨(some 4), .mv (.c (.bool false)), none⟩])
  (.seq (.ops [⟨(some 5), .mv (.t 0), none⟩, ⟨(some 6), .len true (.t 5), none⟩, ⟨(some 7), .mv (.t 1), none⟩, ⟨(some 8), .len true (.t 7), none⟩, ⟨(some 9), .bin .geq (.t 6) (.t 8), none⟩, ⟨(some 10), .mv (.t 9), none⟩, ⟨(some 11), .mv (.t 0), (some (10, true))⟩, ⟨(some 12), .mv (.t 0), (some (10, true))⟩, ⟨(some 13), .len true (.t 12), (some (10, true))⟩, ⟨(some 14), .mv (.t 1), (some (10, true))⟩, ⟨(some 15), .len true (.t 14), (some (10, true))⟩, ⟨(some 16), .bin .sub (.t 13) (.t 15), (some (10, true))⟩, ⟨(some 17), .slcS (.t 11) (some (.t 16)) none, (some (10, true))⟩, ⟨(some 18), .mv (.t 1), (some (10, true))⟩, ⟨(some 19), .bin .eql (.t 17) (.t 18), (some (10, true))⟩, ⟨(some 20), .pick (.t 10) (.t 19) (.c (.bool false)), none⟩, ⟨(some 4), .mv (.t 20), none⟩])
  .ret))
def r102 : List RV := [.t 4]
theorem fn102 : cFn Tryd.prog 102 = some (c102, r102, 21) := by kernel_rfl

/-- math/bits.Mul32 -/
def c103 : MC :=
  (.seq (.ops [⟨(some 4), .mv (.c (.int .u32 0)), none⟩, ⟨(some 5), .mv (.c (.int .u32 0)), none⟩])
  (.seq (.ops [⟨(some 7), .mv (.t 0), none⟩, ⟨(some 8), .conv .u64 (.t 7), none⟩, ⟨(some 9), .mv (.t 1), none⟩, ⟨(some 10), .conv .u64 (.t 9), none⟩, ⟨(some 11), .bin .mul (.t 8) (.t 10), none⟩, ⟨(some 6), .mv (.t 11), none⟩])
  (.seq (.ops [⟨(some 12), .mv (.t 6), none⟩, ⟨(some 13), .bin .shr (.t 12) (.c (.int .u64 32)), none⟩, ⟨(some 14), .conv .u32 (.t 13), none⟩, ⟨(some 15), .mv (.t 6), none⟩, ⟨(some 16), .conv .u32 (.t 15), none⟩, ⟨(some 4), .mv (.t 14), none⟩, ⟨(some 5), .mv (.t 16), none⟩])
  .ret)))
def r103 : List RV := [.t 4, .t 5]
theorem fn103 : cFn Tryd.prog 103 = some (c103, r103, 17) := by kernel_rfl

/-- math/bits.Mul64 -/
def c104 : MC :=
  (.seq (.ops [⟨(some 4), .mv (.c (.int .u64 0)), none⟩, ⟨(some 5), .mv (.c (.int .u64 0)), none⟩])
  (.seq (.ops [⟨(some 14), .mv (.t 0), none⟩, ⟨(some 15), .bin .and (.t 14) (.c (.int .u64 4294967295)), none⟩, ⟨(some 6), .mv (.t 15), none⟩])
  (.seq (.ops [⟨(some 16), .mv (.t 0), none⟩, ⟨(some 17), .bin .shr (.t 16) (.c (.int .u64 32)), none⟩, ⟨(some 7), .mv (.t 17), none⟩])
  (.seq (.ops [⟨(some 18), .mv (.t 1), none⟩, ⟨(some 19), .bin .and (.t 18) (.c (.int .u64 4294967295)), none⟩, ⟨(some 8), .mv (.t 19), none⟩])
  (.seq (.ops [⟨(some 20), .mv (.t 1), none⟩, ⟨(some 21), .bin .shr (.t 20) (.c (.int .u64 32)), none⟩, ⟨(some 9), .mv (.t 21), none⟩])
  (.seq (.ops [⟨(some 22), .mv (.t 6), none⟩, ⟨(some 23), .mv (.t 8), none⟩, ⟨(some 24), .bin .mul (.t 22) (.t 23), none⟩, ⟨(some 10), .mv (.t 24), none⟩])
  (.seq (.ops [⟨(some 25), .mv (.t 7), none⟩, ⟨(some 26), .mv (.t 8), none⟩, ⟨(some 27), .bin .mul (.t 25) (.t 26), none⟩, ⟨(some 28), .mv (.t 10), none⟩, ⟨(some 29), .bin .shr (.t 28) (.c (.int .u64 32)), none⟩, ⟨(some 30), .bin .add (.t 27) (.t 29), none⟩, ⟨(some 11), .mv (.t 30), none⟩])
  (.seq (.ops [⟨(some 31), .mv (.t 11), none⟩, ⟨(some 32), .bin .and (.t 31) (.c (.int .u64 4294967295)), none⟩, ⟨(some 12), .mv (.t 32), none⟩])
  (.seq (.ops [⟨(some 33), .mv (.t 11), none⟩, ⟨(some 34), .bin .shr (.t 33) (.c (.int .u64 32)), none⟩, ⟨(some 13), .mv (.t 34), none⟩])
  (.seq (.ops [⟨(some 35), .mv (.t 12), none⟩, ⟨(some 36), .mv (.t 6), none⟩, ⟨(some 37), .mv (.t 9), none⟩, ⟨(some 38), .bin .mul (.t 36) (.t 37), none⟩, ⟨(some 39), .bin .add (.t 35) (.t 38), none⟩, ⟨(some 12), .mv (.t 39), none⟩])
  (.seq (.ops [⟨(some 40), .mv (.t 7), none⟩, ⟨(some 41), .mv (.t 9), none⟩, ⟨(some 42), .bin .mul (.t 40) (.t 41), none⟩, ⟨(some 43), .mv (.t 13), none⟩, ⟨(some 44), .bin .add (.t 42) (.t 43), none⟩, ⟨(some 45), .mv (.t 12), none⟩, ⟨(some 46), .bin .shr (.t 45) (.c (.int .u64 32)), none⟩, ⟨(some 47), .bin .add (.t 44) (.t 46), none⟩, ⟨(some 4), .mv (.t 47), none⟩])
  (.seq (.ops [⟨(some 48), .mv (.t 0), none⟩, ⟨(some 49), .mv (.t 1), none⟩, ⟨(some 50), .bin .mul (.t 48) (.t 49), none⟩, ⟨(some 5), .mv (.t 50), none⟩])
  .ret))))))))))))
def r104 : List RV := [.t 4, .t 5]
theorem fn104 : cFn Tryd.prog 104 = some (c104, r104, 51) := by kernel_rfl

/-- dynamo/heap.Less -/
def c105 : MC :=
  (.seq (.ops [⟨(some 2), .box (.t 0), none⟩, ⟨(some 3), .box (.t 1), none⟩, ⟨(some 4), .mv (.c (.bool false)), none⟩])
  (.seq (.seq (.ops [⟨(some 5), .fadd 0 (.t 2), none⟩, ⟨(some 6), .load1 (.t 5), none⟩, ⟨(some 7), .fadd 0 (.t 3), none⟩, ⟨(some 8), .load1 (.t 7), none⟩, ⟨(some 9), .bin .neq (.t 6) (.t 8), none⟩])
  (.cond (.t 9) (.seq (.ops [⟨(some 10), .fadd 0 (.t 2), none⟩, ⟨(some 11), .load1 (.t 10), none⟩, ⟨(some 12), .fadd 0 (.t 3), none⟩, ⟨(some 13), .load1 (.t 12), none⟩, ⟨(some 14), .bin .lss (.t 11) (.t 13), none⟩, ⟨(some 4), .mv (.t 14), none⟩])
  .ret) .skip))
  (.seq (.ops [⟨(some 15), .fadd 1 (.t 2), none⟩, ⟨(some 16), .load1 (.t 15), none⟩, ⟨(some 17), .fadd 1 (.t 3), none⟩, ⟨(some 18), .load1 (.t 17), none⟩, ⟨(some 19), .bin .lss (.t 16) (.t 18), none⟩, ⟨(some 4), .mv (.t 19), none⟩])
  .ret)))
def r105 : List RV := [.t 4]
theorem fn105 : cFn Tryd.prog 105 = some (c105, r105, 20) := by kernel_rfl

/-- (*strings.asciiSet).contains -/
def c106 : MC :=
  (.seq (.ops [⟨(some 4), .mv (.c (.bool false)), none⟩])
  (.seq (.ops [⟨(some 5), .mv (.t 0), none⟩, ⟨(some 6), .mv (.t 1), none⟩, ⟨(some 7), .nilck (.t 5), none⟩, ⟨(some 8), .iaA 256 1 (.t 7) (.t 6), none⟩, ⟨(some 9), .load1 (.t 8), none⟩, ⟨(some 4), .mv (.t 9), none⟩])
  .ret))
def r106 : List RV := [.t 4]
theorem fn106 : cFn Tryd.prog 106 = some (c106, r106, 10) := by kernel_rfl

/-- unicode/utf8.DecodeRuneInString -/
def c107 : MC :=
  (.seq (.ops [⟨(some 2), .mv (.c (.int .i32 0)), none⟩, ⟨(some 3), .mv (.c (.int .i64 0)), none⟩])
  (.seq (.seq (.ops [⟨(some 4), .mv (.t 0), none⟩, ⟨(some 5), .bin .neq (.t 4) (.c (.string ⟨#[]⟩)), none⟩, ⟨(some 6), .mv (.t 5), none⟩, ⟨(some 7), .mv (.t 0), (some (6, true))⟩, ⟨(some 8), .idxS (.t 7) (.c (.int .i64 0)), (some (6, true))⟩, ⟨(some 9), .bin .lss (.t 8) (.c (.int .u8 128)), (some (6, true))⟩, ⟨(some 10), .pick (.t 6) (.t 9) (.c (.bool false)), none⟩])
  (.cond (.t 10) (.seq (.ops [⟨(some 11), .mv (.t 0), none⟩, ⟨(some 12), .idxS (.t 11) (.c (.int .i64 0)), none⟩, ⟨(some 13), .conv .i32 (.t 12), none⟩, ⟨(some 2), .mv (.t 13), none⟩, ⟨(some 3), .mv (.c (.int .i64 1)), none⟩])
  .ret) (.ops [⟨(some 15), .mv (.t 0), none⟩, ⟨(some 16), .call 113 [(.t 15)], none⟩, ⟨(some 14), .mv (.t 16), none⟩, ⟨(some 17), .ext (.t 14) 0, none⟩, ⟨(some 18), .ext (.t 14) 1, none⟩, ⟨(some 2), .mv (.t 17), none⟩, ⟨(some 3), .mv (.t 18), none⟩])))
  .ret))
def r107 : List RV := [.t 2, .t 3]
theorem fn107 : cFn Tryd.prog 107 = some (c107, r107, 19) := by kernel_rfl

/-- unicode/utf8.DecodeLastRuneInString -/
def c108 : MC :=
  (.seq (.ops [⟨(some 2), .mv (.c (.int .i32 0)), none⟩, ⟨(some 3), .mv (.c (.int .i64 0)), none⟩])
  (.seq (.ops [⟨(some 7), .mv (.t 0), none⟩, ⟨(some 8), .len true (.t 7), none⟩, ⟨(some 4), .mv (.t 8), none⟩])
  (.seq (.seq (.ops [⟨(some 9), .mv (.t 4), none⟩, ⟨(some 10), .bin .eql (.t 9) (.c (.int .i64 0)), none⟩])
  (.cond (.t 10) (.seq (.ops [⟨(some 2), .mv (.c (.int .i32 65533)), none⟩, ⟨(some 3), .mv (.c (.int .i64 0)), none⟩])
  .ret) .skip))
  (.seq (.ops [⟨(some 11), .mv (.t 4), none⟩, ⟨(some 12), .bin .sub (.t 11) (.c (.int .i64 1)), none⟩, ⟨(some 5), .mv (.t 12), none⟩])
  (.seq (.ops [⟨(some 13), .mv (.t 0), none⟩, ⟨(some 14), .mv (.t 5), none⟩, ⟨(some 15), .idxS (.t 13) (.t 14), none⟩, ⟨(some 16), .conv .i32 (.t 15), none⟩, ⟨(some 2), .mv (.t 16), none⟩])
  (.seq (.seq (.ops [⟨(some 17), .mv (.t 2), none⟩, ⟨(some 18), .bin .lss (.t 17) (.c (.int .i32 128)), none⟩])
  (.cond (.t 18) (.seq (.ops [⟨(some 19), .mv (.t 2), none⟩, ⟨(some 2), .mv (.t 19), none⟩, ⟨(some 3), .mv (.c (.int .i64 1)), none⟩])
  .ret) .skip))
  (.seq (.ops [⟨(some 20), .mv (.t 4), none⟩, ⟨(some 21), .bin .sub (.t 20) (.c (.int .i64 4)), none⟩, ⟨(some 22), .max2 (.t 21) (.c (.int .i64 0)), none⟩, ⟨(some 6), .mv (.t 22), none⟩])
  (.seq (.seq (.ops [⟨(some 23), .mv (.t 5), none⟩, ⟨(some 24), .bin .sub (.t 23) (.c (.int .i64 1)), none⟩, ⟨(some 5), .mv (.t 24), none⟩])
  (.block 0 (.loop (.seq (.seq (.ops [⟨(some 25), .mv (.t 5), none⟩, ⟨(some 26), .mv (.t 6), none⟩, ⟨(some 27), .bin .geq (.t 25) (.t 26), none⟩])
  (.cond (.t 27) .skip (.exit 0)))
  (.seq (.block 1 (.seq (.ops [⟨(some 30), .mv (.t 0), none⟩, ⟨(some 31), .mv (.t 5), none⟩, ⟨(some 32), .idxS (.t 30) (.t 31), none⟩, ⟨(some 33), .call 114 [(.t 32)], none⟩])
  (.cond (.t 33) (.exit 0) .skip)))
  (.ops [⟨(some 28), .mv (.t 5), none⟩, ⟨(some 29), .bin .sub (.t 28) (.c (.int .i64 1)), none⟩, ⟨(some 5), .mv (.t 29), none⟩]))))))
  (.seq (.seq (.ops [⟨(some 34), .mv (.t 5), none⟩, ⟨(some 35), .bin .lss (.t 34) (.c (.int .i64 0)), none⟩])
  (.cond (.t 35) (.ops [⟨(some 5), .mv (.c (.int .i64 0)), none⟩]) .skip))
  (.seq (.ops [⟨(some 37), .mv (.t 0), none⟩, ⟨(some 38), .mv (.t 5), none⟩, ⟨(some 39), .mv (.t 4), none⟩, ⟨(some 40), .slcS (.t 37) (some (.t 38)) (some (.t 39)), none⟩, ⟨(some 41), .call 107 [(.t 40)], none⟩, ⟨(some 36), .mv (.t 41), none⟩, ⟨(some 42), .ext (.t 36) 0, none⟩, ⟨(some 43), .ext (.t 36) 1, none⟩, ⟨(some 2), .mv (.t 42), none⟩, ⟨(some 3), .mv (.t 43), none⟩])
  (.seq (.seq (.ops [⟨(some 44), .mv (.t 5), none⟩, ⟨(some 45), .mv (.t 3), none⟩, ⟨(some 46), .bin .add (.t 44) (.t 45), none⟩, ⟨(some 47), .mv (.t 4), none⟩, ⟨(some 48), .bin .neq (.t 46) (.t 47), none⟩])
  (.cond (.t 48) (.seq (.ops [⟨(some 2), .mv (.c (.int .i32 65533)), none⟩, ⟨(some 3), .mv (.c (.int .i64 1)), none⟩])
  .ret) .skip))
  (.seq (.ops [⟨(some 49), .mv (.t 2), none⟩, ⟨(some 50), .mv (.t 3), none⟩, ⟨(some 2), .mv (.t 49), none⟩, ⟨(some 3), .mv (.t 50), none⟩])
  .ret))))))))))))
def r108 : List RV := [.t 2, .t 3]
theorem fn108 : cFn Tryd.prog 108 = some (c108, r108, 51) := by kernel_rfl

/-- strings.indexFunc -/
def c109 : MC :=
  (.seq (.ops [⟨(some 6), .mv (.c (.int .i64 0)), none⟩])
  (.seq (.seq (.ops [⟨(some 9), .mv (.t 0), none⟩, ⟨(some 10), .bad, none⟩])
  (.block 0 (.loop (.seq (.ops [⟨(some 11), .bad, none⟩, ⟨(some 12), .ext (.t 11) 0, none⟩])
  (.seq (.cond (.t 12) .skip (.exit 0))
  (.block 1 (.seq (.ops [⟨(some 13), .ext (.t 11) 1, none⟩, ⟨(some 14), .ext (.t 11) 2, none⟩, ⟨(some 7), .mv (.t 13), none⟩, ⟨(some 8), .mv (.t 14), none⟩])
  (.seq (.ops [⟨(some 15), .mv (.t 1), none⟩, ⟨(some 16), .mv (.t 8), none⟩, ⟨(some 17), .callv (.t 15) [(.t 16)], none⟩, ⟨(some 18), .mv (.t 2), none⟩, ⟨(some 19), .eqB false (.t 17) (.t 18), none⟩])
  (.cond (.t 19) (.seq (.ops [⟨(some 20), .mv (.t 7), none⟩, ⟨(some 6), .mv (.t 20), none⟩])
  .ret) .skip)))))))))
  (.seq (.ops [⟨(some 6), .mv (.c (.int .i64 (-1))), none⟩])
  .ret)))
def r109 : List RV := [.t 6]
theorem fn109 : cFn Tryd.prog 109 = some (c109, r109, 21) := by kernel_rfl

/-- unicode/utf8.ValidRune -/
def c110 : MC :=
  (.seq (.ops [⟨(some 2), .mv (.c (.bool false)), none⟩])
  (.seq (.block 0 (.seq (.ops [⟨(some 4), .mv (.t 0), none⟩, ⟨(some 5), .bin .leq (.c (.int .i32 0)) (.t 4), none⟩, ⟨(some 6), .mv (.t 5), none⟩, ⟨(some 7), .mv (.t 0), (some (6, true))⟩, ⟨(some 8), .bin .lss (.t 7) (.c (.int .i32 55296)), (some (6, true))⟩, ⟨(some 9), .pick (.t 6) (.t 8) (.c (.bool false)), none⟩, ⟨(some 3), .mv (.t 9), none⟩])
  (.cond (.t 3) (.seq (.ops [⟨(some 2), .mv (.c (.bool true)), none⟩])
  .ret) (.seq (.ops [⟨(some 11), .mv (.t 0), none⟩, ⟨(some 12), .bin .lss (.c (.int .i32 57343)) (.t 11), none⟩, ⟨(some 13), .mv (.t 12), none⟩, ⟨(some 14), .mv (.t 0), (some (13, true))⟩, ⟨(some 15), .bin .leq (.t 14) (.c (.int .i32 1114111)), (some (13, true))⟩, ⟨(some 16), .pick (.t 13) (.t 15) (.c (.bool false)), none⟩, ⟨(some 10), .mv (.t 16), none⟩])
  (.cond (.t 10) (.seq (.ops [⟨(some 2), .mv (.c (.bool true)), none⟩])
  .ret) .skip)))))
  (.seq (.ops [⟨(some 2), .mv (.c (.bool false)), none⟩])
  .ret)))
def r110 : List RV := [.t 2]
theorem fn110 : cFn Tryd.prog 110 = some (c110, r110, 17) := by kernel_rfl

/-- unicode/utf8.RuneStart -/
def c114 : MC :=
  (.seq (.ops [⟨(some 2), .mv (.c (.bool false)), none⟩])
  (.seq (.ops [⟨(some 3), .mv (.t 0), none⟩, ⟨(some 4), .bin .and (.t 3) (.c (.int .u8 192)), none⟩, ⟨(some 5), .bin .neq (.t 4) (.c (.int .u8 128)), none⟩, ⟨(some 2), .mv (.t 5), none⟩])
  .ret))
def r114 : List RV := [.t 2]
theorem fn114 : cFn Tryd.prog 114 = some (c114, r114, 6) := by kernel_rfl

/-- (*dynamo/tag.Tagged).Unwrap -/
def c135 : MC :=
  (.seq (.ops [⟨(some 2), .mv (.c .nilIface), none⟩])
  (.seq (.seq (.ops [⟨(some 3), .mv (.t 0), none⟩, ⟨(some 4), .eqN .ptr false (.t 3) (.c (.pointer none)), none⟩])
  (.cond (.t 4) (.seq (.ops [⟨(some 2), .mv (.c .nilIface), none⟩])
  .ret) .skip))
  (.seq (.ops [⟨(some 5), .mv (.t 0), none⟩, ⟨(some 6), .nilck (.t 5), none⟩, ⟨(some 7), .fadd 1 (.t 6), none⟩, ⟨(some 8), .load1 (.t 7), none⟩, ⟨(some 2), .mv (.t 8), none⟩])
  .ret)))
def r135 : List RV := [.t 2]
theorem fn135 : cFn Tryd.prog 135 = some (c135, r135, 9) := by kernel_rfl

/-- dynamo/grid.Lay (ranges over a function) -/
noncomputable def m32 : MR :=
  (.seq (.plain (.ops [⟨(some 1), .box (.t 0), none⟩, ⟨(some 2), .mv (.c (.string ⟨#[]⟩)), none⟩, ⟨(some 3), .mv (.c .nilIface), none⟩]))
  (.seq (.plain (.seq (.ops [⟨(some 6), .loadN 3 (.t 1), none⟩, ⟨(some 7), .call 29 [(.t 6)], none⟩, ⟨(some 8), .not (.t 7), none⟩])
  (.cond (.t 8) (.seq (.ops [⟨(some 9), .mki 75 (.c (.int .i64 1)), none⟩, ⟨(some 10), .call 49 [(.c (.string ⟨#[103, 114, 105, 100]⟩)), (.t 9)], none⟩, ⟨(some 2), .mv (.c (.string ⟨#[]⟩)), none⟩, ⟨(some 3), .mv (.t 10), none⟩])
  .ret) .skip)))
  (.seq (.plain (.ops [⟨(some 4), .allocT 78 [(.pointer none), (.slice none 0 0)], none⟩]))
  (.seq (.seq (.plain (.ops [⟨(some 11), .fadd 2 (.t 1), none⟩, ⟨(some 12), .load1 (.t 11), none⟩, ⟨(some 13), .s2b (.t 12), none⟩, ⟨(some 14), .fadd 0 (.t 1), none⟩, ⟨(some 15), .load1 (.t 14), none⟩, ⟨(some 16), .call 50 [(.t 13), (.t 15)], none⟩]))
  (.block 0 (.rng (.t 16) #[17] (rngA Tryd.prog 32 0) (rngB Tryd.prog 32 0) (.ops [⟨(some 5), .mv (.t 17), none⟩])
  (.block 1 (.ops [⟨(some 18), .mv (.t 5), none⟩, ⟨(some 19), .b2s (.t 18), none⟩, ⟨(some 20), .bin .add (.t 19) (.c (.string ⟨#[10]⟩)), none⟩, ⟨(some 21), .call 51 [(.t 4), (.t 20)], none⟩])))))
  (.plain (.seq (.ops [⟨(some 22), .call 52 [(.t 4)], none⟩, ⟨(some 2), .mv (.t 22), none⟩, ⟨(some 3), .mv (.c .nilIface), none⟩])
  .ret))))))
def rr32 : List RV := [.t 2, .t 3]
theorem fr32 : cFnR Tryd.prog 32 = some (m32, rr32, 23) := by kernel_rfl

/-- dynamo/grid.Parse (ranges over a function) -/
noncomputable def m34 : MR :=
  (.seq (.plain (.ops [⟨(some 2), .alloc [(.int .i64 0), (.int .i64 0), (.string ⟨#[]⟩)], none⟩, ⟨(some 3), .alloc [.nilIface], none⟩]))
  (.seq (.plain (.ops [⟨(some 4), .alloc [(.int .i64 0), (.int .i64 0), (.string ⟨#[]⟩)], none⟩]))
  (.seq (.seq (.plain (.ops [⟨(some 8), .mv (.t 0), none⟩, ⟨(some 9), .call 54 [(.t 8)], none⟩]))
  (.block 0 (.rng (.t 9) #[10] (rngA Tryd.prog 34 0) (rngB Tryd.prog 34 0) (.ops [⟨(some 5), .mv (.t 10), none⟩])
  (.block 1 (.seq (.ops [⟨(some 12), .mv (.t 5), none⟩, ⟨(some 13), .call 55 [(.t 12), (.c (.string ⟨#[10]⟩))], none⟩, ⟨(some 11), .mv (.t 13), none⟩, ⟨(some 14), .ext (.t 11) 0, none⟩, ⟨(some 15), .ext (.t 11) 1, none⟩, ⟨(some 6), .mv (.t 14), none⟩, ⟨(some 7), .mv (.t 15), none⟩])
  (.seq (.seq (.ops [⟨(some 16), .mv (.t 7), none⟩, ⟨(some 17), .not (.t 16), none⟩, ⟨(some 18), .mv (.t 17), none⟩, ⟨(some 19), .fadd 1 (.t 4), (some (18, false))⟩, ⟨(some 20), .load1 (.t 19), (some (18, false))⟩, ⟨(some 21), .bin .gtr (.t 20) (.c (.int .i64 0)), (some (18, false))⟩, ⟨(some 22), .mv (.t 21), (some (18, false))⟩, ⟨(some 23), .mv (.t 6), (some (22, true))⟩, ⟨(some 24), .len true (.t 23), (some (22, true))⟩, ⟨(some 25), .fadd 0 (.t 4), (some (22, true))⟩, ⟨(some 26), .load1 (.t 25), (some (22, true))⟩, ⟨(some 27), .bin .neq (.t 24) (.t 26), (some (22, true))⟩, ⟨(some 28), .pick (.t 22) (.t 27) (.c (.bool false)), (some (18, false))⟩, ⟨(some 29), .pick (.t 18) (.c (.bool true)) (.t 28), none⟩, ⟨(some 30), .mv (.t 29), none⟩, ⟨(some 31), .fadd 1 (.t 4), (some (30, false))⟩, ⟨(some 32), .load1 (.t 31), (some (30, false))⟩, ⟨(some 33), .bin .eql (.t 32) (.c (.int .i64 8)), (some (30, false))⟩, ⟨(some 34), .pick (.t 30) (.c (.bool true)) (.t 33), none⟩])
  (.cond (.t 34) (.seq (.ops [⟨(some 35), .bld [(.int .i64 0), (.int .i64 0), (.string ⟨#[]⟩)] [], none⟩, ⟨(some 36), .mki 75 (.c (.int .i64 2)), none⟩, ⟨(some 37), .call 49 [(.c (.string ⟨#[103, 114, 105, 100]⟩)), (.t 36)], none⟩, ⟨none, .store 3 (.t 2) (.t 35), none⟩, ⟨none, .store 1 (.t 3) (.t 37), none⟩])
  .ret) .skip))
  (.ops [⟨(some 38), .mv (.t 6), none⟩, ⟨(some 39), .len true (.t 38), none⟩, ⟨(some 40), .fadd 1 (.t 4), none⟩, ⟨(some 41), .load1 (.t 40), none⟩, ⟨(some 42), .bin .add (.t 41) (.c (.int .i64 1)), none⟩, ⟨(some 43), .fadd 2 (.t 4), none⟩, ⟨(some 44), .load1 (.t 43), none⟩, ⟨(some 45), .mv (.t 6), none⟩, ⟨(some 46), .bin .add (.t 44) (.t 45), none⟩, ⟨(some 47), .fadd 0 (.t 4), none⟩, ⟨none, .store 1 (.t 47) (.t 39), none⟩, ⟨(some 48), .fadd 1 (.t 4), none⟩, ⟨none, .store 1 (.t 48) (.t 42), none⟩, ⟨(some 49), .fadd 2 (.t 4), none⟩, ⟨none, .store 1 (.t 49) (.t 46), none⟩])))))))
  (.plain (.seq (.seq (.ops [⟨(some 50), .loadN 3 (.t 4), none⟩, ⟨(some 51), .call 29 [(.t 50)], none⟩, ⟨(some 52), .not (.t 51), none⟩])
  (.cond (.t 52) (.seq (.ops [⟨(some 53), .bld [(.int .i64 0), (.int .i64 0), (.string ⟨#[]⟩)] [], none⟩, ⟨(some 54), .mki 75 (.c (.int .i64 2)), none⟩, ⟨(some 55), .call 49 [(.c (.string ⟨#[103, 114, 105, 100]⟩)), (.t 54)], none⟩, ⟨none, .store 3 (.t 2) (.t 53), none⟩, ⟨none, .store 1 (.t 3) (.t 55), none⟩])
  .ret) .skip))
  (.seq (.ops [⟨(some 56), .loadN 3 (.t 4), none⟩, ⟨none, .store 3 (.t 2) (.t 56), none⟩, ⟨none, .store 1 (.t 3) (.c .nilIface), none⟩])
  .ret))))))
def rr34 : List RV := [.cell 2 3 true, .cell 3 1 false]
theorem fr34 : cFnR Tryd.prog 34 = some (m34, rr34, 57) := by kernel_rfl

end Go.Proofs.YtgfmphjccnemmaaDoor.Code
