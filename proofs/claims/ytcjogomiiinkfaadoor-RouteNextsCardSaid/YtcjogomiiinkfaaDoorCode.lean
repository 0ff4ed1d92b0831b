/- The small code of functions of this program, printed by wip/tools/MiniShow.lean, with the fact that it is theirs. -/
import Derived.Test.YtcjogomiiinkfaaDoorMiniV
import Derived.Test.YtcjogomiiinkfaaDoorProg
namespace Go.Proofs.YtcjogomiiinkfaaDoor.Code
open Go.Mini
set_option maxRecDepth 100000

/-- dynamo/dynamolaw16.FieldPlays -/
def c3 : MC :=
  (.seq (.ops [⟨(some 3), .box (.t 0), none⟩, ⟨(some 6), .mv (.c (.bool false)), none⟩])
  (.seq (.seq (.ops [⟨(some 9), .call 15 [], none⟩, ⟨(some 10), .not (.t 9), none⟩, ⟨(some 11), .mv (.t 10), none⟩, ⟨(some 12), .fadd 2 (.t 3), (some (11, false))⟩, ⟨(some 13), .load1 (.t 12), (some (11, false))⟩, ⟨(some 14), .len true (.t 13), (some (11, false))⟩, ⟨(some 15), .bin .gtr (.t 14) (.c (.int .i64 200)), (some (11, false))⟩, ⟨(some 16), .pick (.t 11) (.c (.bool true)) (.t 15), none⟩, ⟨(some 17), .mv (.t 16), none⟩, ⟨(some 18), .mv (.t 1), (some (17, false))⟩, ⟨(some 19), .len false (.t 18), (some (17, false))⟩, ⟨(some 20), .bin .gtr (.t 19) (.c (.int .i64 100)), (some (17, false))⟩, ⟨(some 21), .pick (.t 17) (.c (.bool true)) (.t 20), none⟩])
  (.cond (.t 21) (.seq (.ops [⟨(some 22), .call 15 [], none⟩, ⟨(some 6), .mv (.t 22), none⟩])
  .ret) .skip))
  (.seq (.ops [⟨(some 24), .loadN 3 (.t 3), none⟩, ⟨(some 25), .call 17 [(.t 24)], none⟩, ⟨(some 26), .mv (.t 1), none⟩, ⟨(some 27), .mv (.t 2), none⟩, ⟨(some 28), .call 16 [(.t 25), (.t 26), (.t 27)], none⟩, ⟨(some 23), .mv (.t 28), none⟩, ⟨(some 29), .ext (.t 23) 0, none⟩, ⟨(some 30), .ext (.t 23) 1, none⟩, ⟨(some 7), .mv (.t 29), none⟩, ⟨(some 8), .mv (.t 30), none⟩])
  (.seq (.seq (.ops [⟨(some 31), .loadN 3 (.t 3), none⟩, ⟨(some 32), .call 18 [(.t 31)], none⟩, ⟨(some 33), .not (.t 32), none⟩, ⟨(some 34), .mv (.t 33), none⟩, ⟨(some 35), .mv (.t 2), (some (34, false))⟩, ⟨(some 36), .bin .lss (.t 35) (.c (.int .i64 1)), (some (34, false))⟩, ⟨(some 37), .pick (.t 34) (.c (.bool true)) (.t 36), none⟩, ⟨(some 38), .mv (.t 37), none⟩, ⟨(some 39), .mv (.t 2), (some (38, false))⟩, ⟨(some 40), .bin .gtr (.t 39) (.c (.int .i64 100)), (some (38, false))⟩, ⟨(some 41), .pick (.t 38) (.c (.bool true)) (.t 40), none⟩, ⟨(some 42), .mv (.t 41), none⟩, ⟨(some 43), .mv (.t 1), (some (42, false))⟩, ⟨(some 44), .len false (.t 43), (some (42, false))⟩, ⟨(some 45), .bin .gtr (.t 44) (.c (.int .i64 64)), (some (42, false))⟩, ⟨(some 46), .pick (.t 42) (.c (.bool true)) (.t 45), none⟩])
  (.cond (.t 46) (.seq (.ops [⟨(some 47), .mv (.t 8), none⟩, ⟨(some 48), .call 19 [(.t 47)], none⟩, ⟨(some 49), .bin .eql (.t 48) (.c (.int .i64 1)), none⟩, ⟨(some 50), .mv (.t 49), none⟩, ⟨(some 51), .mv (.t 7), (some (50, true))⟩, ⟨(some 52), .len false (.t 51), (some (50, true))⟩, ⟨(some 53), .bin .eql (.t 52) (.c (.int .i64 0)), (some (50, true))⟩, ⟨(some 54), .pick (.t 50) (.t 53) (.c (.bool false)), none⟩, ⟨(some 6), .mv (.t 54), none⟩])
  .ret) .skip))
  (.seq (.ops [⟨(some 55), .mv (.t 8), none⟩, ⟨(some 56), .call 19 [(.t 55)], none⟩, ⟨(some 57), .bin .eql (.t 56) (.c (.int .i64 0)), none⟩, ⟨(some 58), .mv (.t 57), none⟩, ⟨(some 59), .mv (.t 7), (some (58, true))⟩, ⟨(some 60), .loadN 3 (.t 3), (some (58, true))⟩, ⟨(some 61), .mv (.t 1), (some (58, true))⟩, ⟨(some 62), .mv (.t 2), (some (58, true))⟩, ⟨(some 63), .call 21 [(.t 60), (.t 61), (.t 62)], (some (58, true))⟩, ⟨(some 64), .call 20 [(.t 59), (.t 63)], (some (58, true))⟩, ⟨(some 65), .bin .eql (.t 64) (.c (.int .i64 1)), (some (58, true))⟩, ⟨(some 66), .pick (.t 58) (.t 65) (.c (.bool false)), none⟩, ⟨(some 6), .mv (.t 66), none⟩])
  .ret)))))
def r3 : List RV := [.t 6]
theorem fn3 : cFn Tryd.prog 3 = some (c3, r3, 67) := by kernel_rfl

/-- dynamo/dynamolaw16.FieldMore -/
def c4 : MC :=
  (.seq (.ops [⟨(some 3), .box (.t 0), none⟩, ⟨(some 6), .mv (.c (.bool false)), none⟩])
  (.seq (.seq (.ops [⟨(some 18), .call 15 [], none⟩, ⟨(some 19), .not (.t 18), none⟩, ⟨(some 20), .mv (.t 19), none⟩, ⟨(some 21), .loadN 3 (.t 3), (some (20, false))⟩, ⟨(some 22), .call 18 [(.t 21)], (some (20, false))⟩, ⟨(some 23), .not (.t 22), (some (20, false))⟩, ⟨(some 24), .pick (.t 20) (.c (.bool true)) (.t 23), none⟩])
  (.cond (.t 24) (.seq (.ops [⟨(some 25), .call 15 [], none⟩, ⟨(some 6), .mv (.t 25), none⟩])
  .ret) .skip))
  (.seq (.ops [⟨(some 26), .loadN 3 (.t 3), none⟩, ⟨(some 27), .call 17 [(.t 26)], none⟩, ⟨(some 7), .alloc [(.int .i64 0), (.int .i64 0), (.string ⟨#[]⟩)], none⟩, ⟨none, .store 3 (.t 7) (.t 27), none⟩])
  (.seq (.dops [⟨⟨(some 28), .mv (.t 1), none⟩, 0, false, false⟩, ⟨⟨(some 29), .conv .i64 (.t 28), none⟩, 1, false, false⟩, ⟨⟨(some 30), .fadd 2 (.t 3), none⟩, 2, false, false⟩, ⟨⟨(some 31), .load1 (.t 30), none⟩, 3, false, false⟩, ⟨⟨(some 32), .len true (.t 31), none⟩, 4, false, false⟩, ⟨⟨(some 33), .bin .rem (.t 29) (.t 32), none⟩, 5, false, false⟩, ⟨⟨(some 34), .mv (.t 2), none⟩, 6, false, false⟩, ⟨⟨(some 35), .conv .i64 (.t 34), none⟩, 7, false, false⟩, ⟨⟨(some 36), .fadd 2 (.t 3), none⟩, 8, false, false⟩, ⟨⟨(some 37), .load1 (.t 36), none⟩, 9, false, false⟩, ⟨⟨(some 38), .len true (.t 37), none⟩, 10, false, false⟩, ⟨⟨(some 39), .bin .rem (.t 35) (.t 38), none⟩, 11, false, false⟩, ⟨⟨(some 8), .mv (.t 33), none⟩, 12, false, false⟩, ⟨⟨(some 9), .mv (.t 39), none⟩, 13, false, false⟩])
  (.seq (.ops [⟨(some 41), .loadN 3 (.t 7), none⟩, ⟨(some 42), .mv (.t 8), none⟩, ⟨(some 43), .bsl 1 1 [(.int .i64 0)] [(0, (.t 42))], none⟩, ⟨(some 44), .call 16 [(.t 41), (.t 43), (.c (.int .i64 3))], none⟩, ⟨(some 40), .mv (.t 44), none⟩, ⟨(some 45), .ext (.t 40) 0, none⟩, ⟨(some 46), .ext (.t 40) 1, none⟩, ⟨(some 10), .mv (.t 45), none⟩, ⟨(some 11), .mv (.t 46), none⟩])
  (.seq (.ops [⟨(some 48), .loadN 3 (.t 7), none⟩, ⟨(some 49), .mv (.t 9), none⟩, ⟨(some 50), .bsl 1 1 [(.int .i64 0)] [(0, (.t 49))], none⟩, ⟨(some 51), .call 16 [(.t 48), (.t 50), (.c (.int .i64 3))], none⟩, ⟨(some 47), .mv (.t 51), none⟩, ⟨(some 52), .ext (.t 47) 0, none⟩, ⟨(some 53), .ext (.t 47) 1, none⟩, ⟨(some 12), .mv (.t 52), none⟩, ⟨(some 13), .mv (.t 53), none⟩])
  (.seq (.ops [⟨(some 55), .loadN 3 (.t 7), none⟩, ⟨(some 56), .mv (.t 8), none⟩, ⟨(some 57), .mv (.t 9), none⟩, ⟨(some 58), .bsl 1 2 [(.int .i64 0)] [(0, (.t 56)), (1, (.t 57))], none⟩, ⟨(some 59), .call 16 [(.t 55), (.t 58), (.c (.int .i64 3))], none⟩, ⟨(some 54), .mv (.t 59), none⟩, ⟨(some 60), .ext (.t 54) 0, none⟩, ⟨(some 61), .ext (.t 54) 1, none⟩, ⟨(some 14), .mv (.t 60), none⟩, ⟨(some 15), .mv (.t 61), none⟩])
  (.seq (.seq (.ops [⟨(some 16), .mv (.c (.int .i64 0)), none⟩])
  (.block 0 (.loop (.seq (.seq (.ops [⟨(some 62), .mv (.t 16), none⟩, ⟨(some 63), .fadd 2 (.t 3), none⟩, ⟨(some 64), .load1 (.t 63), none⟩, ⟨(some 65), .len true (.t 64), none⟩, ⟨(some 66), .bin .lss (.t 62) (.t 65), none⟩])
  (.cond (.t 66) .skip (.exit 0)))
  (.seq (.block 1 (.seq (.ops [⟨(some 69), .mv (.t 10), none⟩, ⟨(some 70), .mv (.t 16), none⟩, ⟨(some 71), .iaS 1 (.t 69) (.t 70), none⟩, ⟨(some 72), .load1 (.t 71), none⟩, ⟨(some 17), .mv (.t 72), none⟩])
  (.seq (.seq (.ops [⟨(some 73), .mv (.t 17), none⟩, ⟨(some 74), .bin .lss (.t 73) (.c (.int .i64 0)), none⟩, ⟨(some 75), .mv (.t 74), none⟩, ⟨(some 76), .mv (.t 12), (some (75, false))⟩, ⟨(some 77), .mv (.t 16), (some (75, false))⟩, ⟨(some 78), .iaS 1 (.t 76) (.t 77), (some (75, false))⟩, ⟨(some 79), .load1 (.t 78), (some (75, false))⟩, ⟨(some 80), .bin .geq (.t 79) (.c (.int .i64 0)), (some (75, false))⟩, ⟨(some 81), .mv (.t 80), (some (75, false))⟩, ⟨(some 82), .mv (.t 12), (some (81, true))⟩, ⟨(some 83), .mv (.t 16), (some (81, true))⟩, ⟨(some 84), .iaS 1 (.t 82) (.t 83), (some (81, true))⟩, ⟨(some 85), .load1 (.t 84), (some (81, true))⟩, ⟨(some 86), .mv (.t 17), (some (81, true))⟩, ⟨(some 87), .bin .lss (.t 85) (.t 86), (some (81, true))⟩, ⟨(some 88), .pick (.t 81) (.t 87) (.c (.bool false)), (some (75, false))⟩, ⟨(some 89), .pick (.t 75) (.c (.bool true)) (.t 88), none⟩])
  (.cond (.t 89) (.ops [⟨(some 90), .mv (.t 12), none⟩, ⟨(some 91), .mv (.t 16), none⟩, ⟨(some 92), .iaS 1 (.t 90) (.t 91), none⟩, ⟨(some 93), .load1 (.t 92), none⟩, ⟨(some 17), .mv (.t 93), none⟩]) .skip))
  (.seq (.ops [⟨(some 94), .mv (.t 14), none⟩, ⟨(some 95), .mv (.t 16), none⟩, ⟨(some 96), .iaS 1 (.t 94) (.t 95), none⟩, ⟨(some 97), .load1 (.t 96), none⟩, ⟨(some 98), .mv (.t 17), none⟩, ⟨(some 99), .bin .neq (.t 97) (.t 98), none⟩])
  (.cond (.t 99) (.seq (.ops [⟨(some 6), .mv (.c (.bool false)), none⟩])
  .ret) .skip)))))
  (.ops [⟨(some 67), .mv (.t 16), none⟩, ⟨(some 68), .bin .add (.t 67) (.c (.int .i64 1)), none⟩, ⟨(some 16), .mv (.t 68), none⟩]))))))
  (.seq (.ops [⟨(some 100), .mv (.t 11), none⟩, ⟨(some 101), .call 19 [(.t 100)], none⟩, ⟨(some 102), .bin .eql (.t 101) (.c (.int .i64 0)), none⟩, ⟨(some 103), .mv (.t 102), none⟩, ⟨(some 104), .mv (.t 13), (some (103, true))⟩, ⟨(some 105), .call 19 [(.t 104)], (some (103, true))⟩, ⟨(some 106), .bin .eql (.t 105) (.c (.int .i64 0)), (some (103, true))⟩, ⟨(some 107), .pick (.t 103) (.t 106) (.c (.bool false)), none⟩, ⟨(some 108), .mv (.t 107), none⟩, ⟨(some 109), .mv (.t 15), (some (108, true))⟩, ⟨(some 110), .call 19 [(.t 109)], (some (108, true))⟩, ⟨(some 111), .bin .eql (.t 110) (.c (.int .i64 0)), (some (108, true))⟩, ⟨(some 112), .pick (.t 108) (.t 111) (.c (.bool false)), none⟩, ⟨(some 6), .mv (.t 112), none⟩])
  .ret)))))))))
def r4 : List RV := [.t 6]
theorem fn4 : cFn Tryd.prog 4 = some (c4, r4, 113) := by kernel_rfl

/-- dynamo/dynamolaw16.FieldScales -/
def c5 : MC :=
  (.seq (.ops [⟨(some 3), .box (.t 0), none⟩, ⟨(some 6), .mv (.c (.bool false)), none⟩])
  (.seq (.seq (.ops [⟨(some 13), .call 15 [], none⟩, ⟨(some 14), .not (.t 13), none⟩, ⟨(some 15), .mv (.t 14), none⟩, ⟨(some 16), .loadN 3 (.t 3), (some (15, false))⟩, ⟨(some 17), .call 18 [(.t 16)], (some (15, false))⟩, ⟨(some 18), .not (.t 17), (some (15, false))⟩, ⟨(some 19), .pick (.t 15) (.c (.bool true)) (.t 18), none⟩, ⟨(some 20), .mv (.t 19), none⟩, ⟨(some 21), .mv (.t 1), (some (20, false))⟩, ⟨(some 22), .len false (.t 21), (some (20, false))⟩, ⟨(some 23), .bin .gtr (.t 22) (.c (.int .i64 64)), (some (20, false))⟩, ⟨(some 24), .pick (.t 20) (.c (.bool true)) (.t 23), none⟩])
  (.cond (.t 24) (.seq (.ops [⟨(some 25), .call 15 [], none⟩, ⟨(some 6), .mv (.t 25), none⟩])
  .ret) .skip))
  (.seq (.ops [⟨(some 26), .mv (.t 2), none⟩, ⟨(some 27), .conv .i64 (.t 26), none⟩, ⟨(some 28), .bin .rem (.t 27) (.c (.int .i64 100)), none⟩, ⟨(some 29), .bin .add (.c (.int .i64 1)) (.t 28), none⟩, ⟨(some 7), .mv (.t 29), none⟩])
  (.seq (.ops [⟨(some 31), .loadN 3 (.t 3), none⟩, ⟨(some 32), .call 17 [(.t 31)], none⟩, ⟨(some 33), .mv (.t 1), none⟩, ⟨(some 34), .call 16 [(.t 32), (.t 33), (.c (.int .i64 1))], none⟩, ⟨(some 30), .mv (.t 34), none⟩, ⟨(some 35), .ext (.t 30) 0, none⟩, ⟨(some 36), .ext (.t 30) 1, none⟩, ⟨(some 8), .mv (.t 35), none⟩, ⟨(some 9), .mv (.t 36), none⟩])
  (.seq (.ops [⟨(some 38), .loadN 3 (.t 3), none⟩, ⟨(some 39), .call 17 [(.t 38)], none⟩, ⟨(some 40), .mv (.t 1), none⟩, ⟨(some 41), .mv (.t 7), none⟩, ⟨(some 42), .call 16 [(.t 39), (.t 40), (.t 41)], none⟩, ⟨(some 37), .mv (.t 42), none⟩, ⟨(some 43), .ext (.t 37) 0, none⟩, ⟨(some 44), .ext (.t 37) 1, none⟩, ⟨(some 10), .mv (.t 43), none⟩, ⟨(some 11), .mv (.t 44), none⟩])
  (.seq (.seq (.ops [⟨(some 12), .mv (.c (.int .i64 0)), none⟩])
  (.block 0 (.loop (.seq (.seq (.ops [⟨(some 45), .mv (.t 12), none⟩, ⟨(some 46), .mv (.t 8), none⟩, ⟨(some 47), .len false (.t 46), none⟩, ⟨(some 48), .bin .lss (.t 45) (.t 47), none⟩])
  (.cond (.t 48) .skip (.exit 0)))
  (.seq (.block 1 (.seq (.dops [⟨⟨(some 51), .mv (.t 8), none⟩, 0, false, false⟩, ⟨⟨(some 52), .mv (.t 12), none⟩, 1, false, false⟩, ⟨⟨(some 53), .iaS 1 (.t 51) (.t 52), none⟩, 2, false, false⟩, ⟨⟨(some 54), .load1 (.t 53), none⟩, 3, false, false⟩, ⟨⟨(some 55), .bin .lss (.t 54) (.c (.int .i64 0)), none⟩, 4, false, false⟩, ⟨⟨(some 56), .mv (.t 55), none⟩, 5, false, false⟩, ⟨⟨(some 57), .mv (.t 10), (some (56, true))⟩, 6, false, false⟩, ⟨⟨(some 58), .mv (.t 12), (some (56, true))⟩, 7, false, false⟩, ⟨⟨(some 59), .iaS 1 (.t 57) (.t 58), (some (56, true))⟩, 8, false, false⟩, ⟨⟨(some 60), .load1 (.t 59), (some (56, true))⟩, 9, false, false⟩, ⟨⟨(some 61), .bin .neq (.t 60) (.c (.int .i64 (-1))), (some (56, true))⟩, 10, false, false⟩, ⟨⟨(some 62), .pick (.t 56) (.t 61) (.c (.bool false)), none⟩, 11, false, false⟩, ⟨⟨(some 63), .mv (.t 62), none⟩, 12, false, false⟩, ⟨⟨(some 64), .mv (.t 8), (some (63, false))⟩, 13, false, false⟩, ⟨⟨(some 65), .mv (.t 12), (some (63, false))⟩, 14, false, false⟩, ⟨⟨(some 66), .iaS 1 (.t 64) (.t 65), (some (63, false))⟩, 15, false, false⟩, ⟨⟨(some 67), .load1 (.t 66), (some (63, false))⟩, 16, false, false⟩, ⟨⟨(some 68), .bin .geq (.t 67) (.c (.int .i64 0)), (some (63, false))⟩, 17, false, false⟩, ⟨⟨(some 69), .mv (.t 68), (some (63, false))⟩, 18, false, false⟩, ⟨⟨(some 70), .mv (.t 10), (some (69, true))⟩, 19, false, false⟩, ⟨⟨(some 71), .mv (.t 12), (some (69, true))⟩, 20, false, false⟩, ⟨⟨(some 72), .iaS 1 (.t 70) (.t 71), (some (69, true))⟩, 21, false, false⟩, ⟨⟨(some 73), .load1 (.t 72), (some (69, true))⟩, 22, false, false⟩, ⟨⟨(some 74), .mv (.t 7), (some (69, true))⟩, 23, false, false⟩, ⟨⟨(some 75), .mv (.t 8), (some (69, true))⟩, 24, false, false⟩, ⟨⟨(some 76), .mv (.t 12), (some (69, true))⟩, 25, false, false⟩, ⟨⟨(some 77), .iaS 1 (.t 75) (.t 76), (some (69, true))⟩, 26, false, false⟩, ⟨⟨(some 78), .load1 (.t 77), (some (69, true))⟩, 27, false, false⟩, ⟨⟨(some 79), .bin .mul (.t 74) (.t 78), (some (69, true))⟩, 28, false, false⟩, ⟨⟨(some 80), .bin .neq (.t 73) (.t 79), (some (69, true))⟩, 29, false, false⟩, ⟨⟨(some 81), .pick (.t 69) (.t 80) (.c (.bool false)), (some (63, false))⟩, 30, false, false⟩, ⟨⟨(some 82), .pick (.t 63) (.c (.bool true)) (.t 81), none⟩, 31, false, false⟩])
  (.cond (.t 82) (.seq (.ops [⟨(some 6), .mv (.c (.bool false)), none⟩])
  .ret) .skip)))
  (.ops [⟨(some 49), .mv (.t 12), none⟩, ⟨(some 50), .bin .add (.t 49) (.c (.int .i64 1)), none⟩, ⟨(some 12), .mv (.t 50), none⟩]))))))
  (.seq (.ops [⟨(some 83), .mv (.t 9), none⟩, ⟨(some 84), .call 19 [(.t 83)], none⟩, ⟨(some 85), .bin .eql (.t 84) (.c (.int .i64 0)), none⟩, ⟨(some 86), .mv (.t 85), none⟩, ⟨(some 87), .mv (.t 11), (some (86, true))⟩, ⟨(some 88), .call 19 [(.t 87)], (some (86, true))⟩, ⟨(some 89), .bin .eql (.t 88) (.c (.int .i64 0)), (some (86, true))⟩, ⟨(some 90), .pick (.t 86) (.t 89) (.c (.bool false)), none⟩, ⟨(some 91), .mv (.t 90), none⟩, ⟨(some 92), .mv (.t 8), (some (91, true))⟩, ⟨(some 93), .len false (.t 92), (some (91, true))⟩, ⟨(some 94), .mv (.t 10), (some (91, true))⟩, ⟨(some 95), .len false (.t 94), (some (91, true))⟩, ⟨(some 96), .bin .eql (.t 93) (.t 95), (some (91, true))⟩, ⟨(some 97), .pick (.t 91) (.t 96) (.c (.bool false)), none⟩, ⟨(some 6), .mv (.t 97), none⟩])
  .ret)))))))
def r5 : List RV := [.t 6]
theorem fn5 : cFn Tryd.prog 5 = some (c5, r5, 98) := by kernel_rfl

/-- dynamo/dynamolaw16.FieldSteps -/
def c6 : MC :=
  (.seq (.ops [⟨(some 4), .box (.t 0), none⟩, ⟨(some 8), .mv (.c (.bool false)), none⟩])
  (.seq (.seq (.ops [⟨(some 20), .call 15 [], none⟩, ⟨(some 21), .not (.t 20), none⟩, ⟨(some 22), .mv (.t 21), none⟩, ⟨(some 23), .loadN 3 (.t 4), (some (22, false))⟩, ⟨(some 24), .call 18 [(.t 23)], (some (22, false))⟩, ⟨(some 25), .not (.t 24), (some (22, false))⟩, ⟨(some 26), .pick (.t 22) (.c (.bool true)) (.t 25), none⟩])
  (.cond (.t 26) (.seq (.ops [⟨(some 27), .call 15 [], none⟩, ⟨(some 8), .mv (.t 27), none⟩])
  .ret) .skip))
  (.seq (.ops [⟨(some 28), .mv (.t 1), none⟩, ⟨(some 29), .conv .i64 (.t 28), none⟩, ⟨(some 30), .fadd 2 (.t 4), none⟩, ⟨(some 31), .load1 (.t 30), none⟩, ⟨(some 32), .len true (.t 31), none⟩, ⟨(some 33), .bin .rem (.t 29) (.t 32), none⟩, ⟨(some 9), .mv (.t 33), none⟩])
  (.seq (.ops [⟨(some 34), .mv (.t 3), none⟩, ⟨(some 35), .conv .i64 (.t 34), none⟩, ⟨(some 36), .bin .rem (.t 35) (.c (.int .i64 9)), none⟩, ⟨(some 37), .bin .add (.c (.int .i64 1)) (.t 36), none⟩, ⟨(some 10), .mv (.t 37), none⟩])
  (.seq (.ops [⟨(some 39), .loadN 3 (.t 4), none⟩, ⟨(some 40), .call 17 [(.t 39)], none⟩, ⟨(some 41), .mv (.t 9), none⟩, ⟨(some 42), .bsl 1 1 [(.int .i64 0)] [(0, (.t 41))], none⟩, ⟨(some 43), .mv (.t 10), none⟩, ⟨(some 44), .call 16 [(.t 40), (.t 42), (.t 43)], none⟩, ⟨(some 38), .mv (.t 44), none⟩, ⟨(some 45), .ext (.t 38) 0, none⟩, ⟨(some 46), .ext (.t 38) 1, none⟩, ⟨(some 11), .mv (.t 45), none⟩, ⟨(some 12), .mv (.t 46), none⟩])
  (.seq (.seq (.ops [⟨(some 47), .mv (.t 12), none⟩, ⟨(some 48), .call 19 [(.t 47)], none⟩, ⟨(some 49), .bin .neq (.t 48) (.c (.int .i64 0)), none⟩, ⟨(some 50), .mv (.t 49), none⟩, ⟨(some 51), .mv (.t 11), (some (50, false))⟩, ⟨(some 52), .len false (.t 51), (some (50, false))⟩, ⟨(some 53), .fadd 2 (.t 4), (some (50, false))⟩, ⟨(some 54), .load1 (.t 53), (some (50, false))⟩, ⟨(some 55), .len true (.t 54), (some (50, false))⟩, ⟨(some 56), .bin .neq (.t 52) (.t 55), (some (50, false))⟩, ⟨(some 57), .pick (.t 50) (.c (.bool true)) (.t 56), none⟩])
  (.cond (.t 57) (.seq (.ops [⟨(some 8), .mv (.c (.bool false)), none⟩])
  .ret) .skip))
  (.seq (.seq (.ops [⟨(some 58), .fadd 2 (.t 4), none⟩, ⟨(some 59), .load1 (.t 58), none⟩, ⟨(some 60), .mv (.t 9), none⟩, ⟨(some 61), .idxS (.t 59) (.t 60), none⟩, ⟨(some 62), .bin .eql (.t 61) (.c (.int .u8 35)), none⟩])
  (.cond (.t 62) (.seq (.ops [⟨(some 63), .mv (.t 11), none⟩, ⟨(some 64), .mv (.t 9), none⟩, ⟨(some 65), .iaS 1 (.t 63) (.t 64), none⟩, ⟨(some 66), .load1 (.t 65), none⟩, ⟨(some 67), .bin .eql (.t 66) (.c (.int .i64 (-1))), none⟩, ⟨(some 68), .mv (.t 67), none⟩, ⟨(some 69), .loadN 3 (.t 4), (some (68, true))⟩, ⟨(some 70), .call 17 [(.t 69)], (some (68, true))⟩, ⟨(some 71), .mv (.t 11), (some (68, true))⟩, ⟨(some 72), .mv (.t 9), (some (68, true))⟩, ⟨(some 73), .call 22 [(.t 70), (.t 71), (.t 72)], (some (68, true))⟩, ⟨(some 74), .len false (.t 73), (some (68, true))⟩, ⟨(some 75), .bin .eql (.t 74) (.c (.int .i64 0)), (some (68, true))⟩, ⟨(some 76), .pick (.t 68) (.t 75) (.c (.bool false)), none⟩, ⟨(some 8), .mv (.t 76), none⟩])
  .ret) .skip))
  (.seq (.seq (.ops [⟨(some 13), .mv (.c (.int .i64 0)), none⟩])
  (.block 0 (.loop (.seq (.seq (.ops [⟨(some 77), .mv (.t 13), none⟩, ⟨(some 78), .mv (.t 11), none⟩, ⟨(some 79), .len false (.t 78), none⟩, ⟨(some 80), .bin .lss (.t 77) (.t 79), none⟩])
  (.cond (.t 80) .skip (.exit 0)))
  (.seq (.block 1 (.seq (.seq (.dops [⟨⟨(some 83), .mv (.t 11), none⟩, 0, false, false⟩, ⟨⟨(some 84), .mv (.t 13), none⟩, 1, false, false⟩, ⟨⟨(some 85), .iaS 1 (.t 83) (.t 84), none⟩, 2, false, false⟩, ⟨⟨(some 86), .load1 (.t 85), none⟩, 3, false, false⟩, ⟨⟨(some 87), .bin .lss (.t 86) (.c (.int .i64 0)), none⟩, 4, false, false⟩, ⟨⟨(some 88), .fadd 2 (.t 4), none⟩, 5, false, false⟩, ⟨⟨(some 89), .load1 (.t 88), none⟩, 6, false, false⟩, ⟨⟨(some 90), .mv (.t 13), none⟩, 7, false, false⟩, ⟨⟨(some 91), .idxS (.t 89) (.t 90), none⟩, 8, false, false⟩, ⟨⟨(some 92), .bin .eql (.t 91) (.c (.int .u8 35)), none⟩, 9, false, false⟩, ⟨⟨(some 93), .eqB true (.t 87) (.t 92), none⟩, 10, false, false⟩])
  (.cond (.t 93) (.seq (.ops [⟨(some 8), .mv (.c (.bool false)), none⟩])
  .ret) .skip))
  (.seq (.ops [⟨(some 94), .loadN 3 (.t 4), none⟩, ⟨(some 95), .call 17 [(.t 94)], none⟩, ⟨(some 96), .mv (.t 13), none⟩, ⟨(some 97), .call 23 [(.t 95), (.t 96)], none⟩, ⟨(some 14), .mv (.t 97), none⟩])
  (.seq (.ops [⟨(some 98), .mv (.t 13), none⟩, ⟨(some 99), .mv (.t 9), none⟩, ⟨(some 100), .bin .eql (.t 98) (.t 99), none⟩, ⟨(some 15), .mv (.t 100), none⟩])
  (.seq (.seq (.ops [⟨(some 16), .mv (.c (.int .i64 0)), none⟩])
  (.block 2 (.loop (.seq (.seq (.ops [⟨(some 101), .mv (.t 16), none⟩, ⟨(some 102), .mv (.t 14), none⟩, ⟨(some 103), .len false (.t 102), none⟩, ⟨(some 104), .bin .lss (.t 101) (.t 103), none⟩])
  (.cond (.t 104) .skip (.exit 2)))
  (.seq (.block 3 (.seq (.dops [⟨⟨(some 107), .mv (.t 11), none⟩, 0, false, false⟩, ⟨⟨(some 108), .mv (.t 14), none⟩, 1, false, false⟩, ⟨⟨(some 109), .mv (.t 16), none⟩, 2, false, false⟩, ⟨⟨(some 110), .iaS 1 (.t 108) (.t 109), none⟩, 3, false, false⟩, ⟨⟨(some 111), .load1 (.t 110), none⟩, 4, false, false⟩, ⟨⟨(some 112), .iaS 1 (.t 107) (.t 111), none⟩, 5, false, false⟩, ⟨⟨(some 113), .load1 (.t 112), none⟩, 6, false, false⟩, ⟨⟨(some 114), .mv (.t 11), none⟩, 7, false, false⟩, ⟨⟨(some 115), .mv (.t 13), none⟩, 8, false, false⟩, ⟨⟨(some 116), .iaS 1 (.t 114) (.t 115), none⟩, 9, false, false⟩, ⟨⟨(some 117), .load1 (.t 116), none⟩, 10, false, false⟩, ⟨⟨(some 118), .bin .sub (.t 113) (.t 117), none⟩, 11, false, false⟩, ⟨⟨(some 17), .mv (.t 118), none⟩, 12, false, false⟩])
  (.seq (.seq (.ops [⟨(some 119), .mv (.t 17), none⟩, ⟨(some 120), .mv (.t 10), none⟩, ⟨(some 121), .bin .gtr (.t 119) (.t 120), none⟩, ⟨(some 122), .mv (.t 121), none⟩, ⟨(some 123), .mv (.t 17), (some (122, false))⟩, ⟨(some 124), .mv (.t 10), (some (122, false))⟩, ⟨(some 125), .neg (.t 124), (some (122, false))⟩, ⟨(some 126), .bin .lss (.t 123) (.t 125), (some (122, false))⟩, ⟨(some 127), .pick (.t 122) (.c (.bool true)) (.t 126), none⟩])
  (.cond (.t 127) (.seq (.ops [⟨(some 8), .mv (.c (.bool false)), none⟩])
  .ret) .skip))
  (.ops [⟨(some 128), .mv (.t 15), none⟩, ⟨(some 129), .mv (.t 128), none⟩, ⟨(some 130), .mv (.t 17), (some (129, false))⟩, ⟨(some 131), .mv (.t 10), (some (129, false))⟩, ⟨(some 132), .neg (.t 131), (some (129, false))⟩, ⟨(some 133), .bin .eql (.t 130) (.t 132), (some (129, false))⟩, ⟨(some 134), .pick (.t 129) (.c (.bool true)) (.t 133), none⟩, ⟨(some 15), .mv (.t 134), none⟩]))))
  (.ops [⟨(some 105), .mv (.t 16), none⟩, ⟨(some 106), .bin .add (.t 105) (.c (.int .i64 1)), none⟩, ⟨(some 16), .mv (.t 106), none⟩]))))))
  (.seq (.ops [⟨(some 135), .mv (.t 11), none⟩, ⟨(some 136), .mv (.t 13), none⟩, ⟨(some 137), .iaS 1 (.t 135) (.t 136), none⟩, ⟨(some 138), .load1 (.t 137), none⟩, ⟨(some 139), .bin .geq (.t 138) (.c (.int .i64 0)), none⟩, ⟨(some 140), .mv (.t 139), none⟩, ⟨(some 141), .mv (.t 15), (some (140, true))⟩, ⟨(some 142), .not (.t 141), (some (140, true))⟩, ⟨(some 143), .pick (.t 140) (.t 142) (.c (.bool false)), none⟩])
  (.cond (.t 143) (.seq (.ops [⟨(some 8), .mv (.c (.bool false)), none⟩])
  .ret) .skip)))))))
  (.ops [⟨(some 81), .mv (.t 13), none⟩, ⟨(some 82), .bin .add (.t 81) (.c (.int .i64 1)), none⟩, ⟨(some 13), .mv (.t 82), none⟩]))))))
  (.seq (.ops [⟨(some 144), .mv (.t 2), none⟩, ⟨(some 145), .conv .i64 (.t 144), none⟩, ⟨(some 146), .fadd 2 (.t 4), none⟩, ⟨(some 147), .load1 (.t 146), none⟩, ⟨(some 148), .len true (.t 147), none⟩, ⟨(some 149), .bin .rem (.t 145) (.t 148), none⟩, ⟨(some 18), .mv (.t 149), none⟩])
  (.seq (.ops [⟨(some 150), .loadN 3 (.t 4), none⟩, ⟨(some 151), .call 17 [(.t 150)], none⟩, ⟨(some 152), .mv (.t 11), none⟩, ⟨(some 153), .mv (.t 18), none⟩, ⟨(some 154), .call 22 [(.t 151), (.t 152), (.t 153)], none⟩, ⟨(some 19), .mv (.t 154), none⟩])
  (.seq (.seq (.ops [⟨(some 155), .mv (.t 11), none⟩, ⟨(some 156), .mv (.t 18), none⟩, ⟨(some 157), .iaS 1 (.t 155) (.t 156), none⟩, ⟨(some 158), .load1 (.t 157), none⟩, ⟨(some 159), .bin .lss (.t 158) (.c (.int .i64 0)), none⟩])
  (.cond (.t 159) (.seq (.ops [⟨(some 160), .mv (.t 19), none⟩, ⟨(some 161), .len false (.t 160), none⟩, ⟨(some 162), .bin .eql (.t 161) (.c (.int .i64 0)), none⟩, ⟨(some 8), .mv (.t 162), none⟩])
  .ret) .skip))
  (.seq (.ops [⟨(some 163), .mv (.t 19), none⟩, ⟨(some 164), .len false (.t 163), none⟩, ⟨(some 165), .mv (.t 10), none⟩, ⟨(some 166), .bin .mul (.t 164) (.t 165), none⟩, ⟨(some 167), .mv (.t 11), none⟩, ⟨(some 168), .mv (.t 18), none⟩, ⟨(some 169), .iaS 1 (.t 167) (.t 168), none⟩, ⟨(some 170), .load1 (.t 169), none⟩, ⟨(some 171), .bin .eql (.t 166) (.t 170), none⟩, ⟨(some 172), .mv (.t 171), none⟩, ⟨(some 173), .mv (.t 19), (some (172, true))⟩, ⟨(some 174), .len false (.t 173), (some (172, true))⟩, ⟨(some 175), .bin .eql (.t 174) (.c (.int .i64 0)), (some (172, true))⟩, ⟨(some 176), .mv (.t 175), (some (172, true))⟩, ⟨(some 177), .mv (.t 18), (some (176, true))⟩, ⟨(some 178), .mv (.t 9), (some (176, true))⟩, ⟨(some 179), .bin .eql (.t 177) (.t 178), (some (176, true))⟩, ⟨(some 180), .pick (.t 176) (.t 179) (.c (.bool false)), (some (172, true))⟩, ⟨(some 181), .mv (.t 180), (some (172, true))⟩, ⟨(some 182), .mv (.t 19), (some (181, false))⟩, ⟨(some 183), .len false (.t 182), (some (181, false))⟩, ⟨(some 184), .bin .gtr (.t 183) (.c (.int .i64 0)), (some (181, false))⟩, ⟨(some 185), .mv (.t 184), (some (181, false))⟩, ⟨(some 186), .mv (.t 19), (some (185, true))⟩, ⟨(some 187), .mv (.t 19), (some (185, true))⟩, ⟨(some 188), .len false (.t 187), (some (185, true))⟩, ⟨(some 189), .bin .sub (.t 188) (.c (.int .i64 1)), (some (185, true))⟩, ⟨(some 190), .iaS 1 (.t 186) (.t 189), (some (185, true))⟩, ⟨(some 191), .load1 (.t 190), (some (185, true))⟩, ⟨(some 192), .mv (.t 9), (some (185, true))⟩, ⟨(some 193), .bin .eql (.t 191) (.t 192), (some (185, true))⟩, ⟨(some 194), .pick (.t 185) (.t 193) (.c (.bool false)), (some (181, false))⟩, ⟨(some 195), .pick (.t 181) (.c (.bool true)) (.t 194), (some (172, true))⟩, ⟨(some 196), .pick (.t 172) (.t 195) (.c (.bool false)), none⟩, ⟨(some 8), .mv (.t 196), none⟩])
  .ret))))))))))))
def r6 : List RV := [.t 8]
theorem fn6 : cFn Tryd.prog 6 = some (c6, r6, 197) := by kernel_rfl

/-- dynamo/dynamolaw16.FieldDowns -/
def c7 : MC :=
  (.seq (.ops [⟨(some 3), .box (.t 0), none⟩, ⟨(some 6), .mv (.c (.bool false)), none⟩])
  (.seq (.seq (.ops [⟨(some 11), .call 15 [], none⟩, ⟨(some 12), .not (.t 11), none⟩, ⟨(some 13), .mv (.t 12), none⟩, ⟨(some 14), .fadd 2 (.t 3), (some (13, false))⟩, ⟨(some 15), .load1 (.t 14), (some (13, false))⟩, ⟨(some 16), .len true (.t 15), (some (13, false))⟩, ⟨(some 17), .bin .gtr (.t 16) (.c (.int .i64 200)), (some (13, false))⟩, ⟨(some 18), .pick (.t 13) (.c (.bool true)) (.t 17), none⟩, ⟨(some 19), .mv (.t 18), none⟩, ⟨(some 20), .mv (.t 1), (some (19, false))⟩, ⟨(some 21), .len false (.t 20), (some (19, false))⟩, ⟨(some 22), .bin .gtr (.t 21) (.c (.int .i64 200)), (some (19, false))⟩, ⟨(some 23), .pick (.t 19) (.c (.bool true)) (.t 22), none⟩])
  (.cond (.t 23) (.seq (.ops [⟨(some 24), .call 15 [], none⟩, ⟨(some 6), .mv (.t 24), none⟩])
  .ret) .skip))
  (.seq (.ops [⟨(some 25), .loadN 3 (.t 3), none⟩, ⟨(some 26), .call 17 [(.t 25)], none⟩, ⟨(some 27), .mv (.t 1), none⟩, ⟨(some 28), .mv (.t 2), none⟩, ⟨(some 29), .call 24 [(.t 26), (.t 27), (.t 28)], none⟩, ⟨(some 7), .mv (.t 29), none⟩])
  (.seq (.ops [⟨(some 30), .loadN 3 (.t 3), none⟩, ⟨(some 31), .call 17 [(.t 30)], none⟩, ⟨(some 32), .mv (.t 1), none⟩, ⟨(some 33), .mv (.t 2), none⟩, ⟨(some 34), .call 22 [(.t 31), (.t 32), (.t 33)], none⟩, ⟨(some 8), .mv (.t 34), none⟩])
  (.seq (.seq (.ops [⟨(some 35), .loadN 3 (.t 3), none⟩, ⟨(some 36), .call 18 [(.t 35)], none⟩, ⟨(some 37), .not (.t 36), none⟩])
  (.cond (.t 37) (.seq (.ops [⟨(some 38), .mv (.t 7), none⟩, ⟨(some 39), .len false (.t 38), none⟩, ⟨(some 40), .bin .eql (.t 39) (.c (.int .i64 0)), none⟩, ⟨(some 41), .mv (.t 40), none⟩, ⟨(some 42), .mv (.t 8), (some (41, true))⟩, ⟨(some 43), .len false (.t 42), (some (41, true))⟩, ⟨(some 44), .bin .eql (.t 43) (.c (.int .i64 0)), (some (41, true))⟩, ⟨(some 45), .pick (.t 41) (.t 44) (.c (.bool false)), none⟩, ⟨(some 6), .mv (.t 45), none⟩])
  .ret) .skip))
  (.seq (.seq (.ops [⟨(some 46), .mv (.t 7), none⟩, ⟨(some 47), .loadN 3 (.t 3), none⟩, ⟨(some 48), .mv (.t 1), none⟩, ⟨(some 49), .mv (.t 2), none⟩, ⟨(some 50), .call 25 [(.t 47), (.t 48), (.t 49)], none⟩, ⟨(some 51), .call 20 [(.t 46), (.t 50)], none⟩, ⟨(some 52), .bin .eql (.t 51) (.c (.int .i64 0)), none⟩, ⟨(some 53), .mv (.t 52), none⟩, ⟨(some 54), .mv (.t 8), (some (53, false))⟩, ⟨(some 55), .len false (.t 54), (some (53, false))⟩, ⟨(some 56), .bin .gtr (.t 55) (.c (.int .i64 64)), (some (53, false))⟩, ⟨(some 57), .pick (.t 53) (.c (.bool true)) (.t 56), none⟩, ⟨(some 58), .mv (.t 57), none⟩, ⟨(some 59), .mv (.t 8), (some (58, false))⟩, ⟨(some 60), .len false (.t 59), (some (58, false))⟩, ⟨(some 61), .bin .eql (.t 60) (.c (.int .i64 0)), (some (58, false))⟩, ⟨(some 62), .mv (.t 7), (some (58, false))⟩, ⟨(some 63), .len false (.t 62), (some (58, false))⟩, ⟨(some 64), .bin .eql (.t 63) (.c (.int .i64 0)), (some (58, false))⟩, ⟨(some 65), .eqB true (.t 61) (.t 64), (some (58, false))⟩, ⟨(some 66), .pick (.t 58) (.c (.bool true)) (.t 65), none⟩])
  (.cond (.t 66) (.seq (.ops [⟨(some 6), .mv (.c (.bool false)), none⟩])
  .ret) .skip))
  (.seq (.seq (.ops [⟨(some 9), .mv (.c (.int .i64 0)), none⟩])
  (.block 0 (.loop (.seq (.seq (.ops [⟨(some 67), .mv (.t 9), none⟩, ⟨(some 68), .mv (.t 8), none⟩, ⟨(some 69), .len false (.t 68), none⟩, ⟨(some 70), .bin .lss (.t 67) (.t 69), none⟩])
  (.cond (.t 70) .skip (.exit 0)))
  (.seq (.block 1 (.seq (.ops [⟨(some 73), .loadN 3 (.t 3), none⟩, ⟨(some 74), .mv (.t 1), none⟩, ⟨(some 75), .mv (.t 2), none⟩, ⟨(some 76), .call 25 [(.t 73), (.t 74), (.t 75)], none⟩, ⟨(some 10), .mv (.t 76), none⟩])
  (.seq (.seq (.dops [⟨⟨(some 77), .mv (.t 10), none⟩, 0, false, false⟩, ⟨⟨(some 78), .len false (.t 77), none⟩, 1, false, false⟩, ⟨⟨(some 79), .bin .eql (.t 78) (.c (.int .i64 0)), none⟩, 2, false, false⟩, ⟨⟨(some 80), .mv (.t 79), none⟩, 3, false, false⟩, ⟨⟨(some 81), .mv (.t 10), (some (80, false))⟩, 4, false, false⟩, ⟨⟨(some 82), .iaS 1 (.t 81) (.c (.int .i64 0)), (some (80, false))⟩, 5, false, false⟩, ⟨⟨(some 83), .load1 (.t 82), (some (80, false))⟩, 6, false, false⟩, ⟨⟨(some 84), .mv (.t 8), (some (80, false))⟩, 7, false, false⟩, ⟨⟨(some 85), .mv (.t 9), (some (80, false))⟩, 8, false, false⟩, ⟨⟨(some 86), .iaS 1 (.t 84) (.t 85), (some (80, false))⟩, 9, false, false⟩, ⟨⟨(some 87), .load1 (.t 86), (some (80, false))⟩, 10, false, false⟩, ⟨⟨(some 88), .bin .neq (.t 83) (.t 87), (some (80, false))⟩, 11, false, false⟩, ⟨⟨(some 89), .pick (.t 80) (.c (.bool true)) (.t 88), none⟩, 12, false, false⟩])
  (.cond (.t 89) (.seq (.ops [⟨(some 6), .mv (.c (.bool false)), none⟩])
  .ret) .skip))
  (.ops [⟨(some 90), .mv (.t 8), none⟩, ⟨(some 91), .mv (.t 9), none⟩, ⟨(some 92), .iaS 1 (.t 90) (.t 91), none⟩, ⟨(some 93), .load1 (.t 92), none⟩, ⟨(some 2), .mv (.t 93), none⟩]))))
  (.ops [⟨(some 71), .mv (.t 9), none⟩, ⟨(some 72), .bin .add (.t 71) (.c (.int .i64 1)), none⟩, ⟨(some 9), .mv (.t 72), none⟩]))))))
  (.seq (.ops [⟨(some 6), .mv (.c (.bool true)), none⟩])
  .ret))))))))
def r7 : List RV := [.t 6]
theorem fn7 : cFn Tryd.prog 7 = some (c7, r7, 94) := by kernel_rfl

/-- dynamo/dynamolaw16.FieldNone -/
def c8 : MC :=
  (.seq (.ops [⟨(some 2), .box (.t 0), none⟩, ⟨(some 4), .mv (.c (.bool false)), none⟩])
  (.seq (.seq (.ops [⟨(some 10), .call 15 [], none⟩, ⟨(some 11), .not (.t 10), none⟩, ⟨(some 12), .mv (.t 11), none⟩, ⟨(some 13), .loadN 3 (.t 2), (some (12, false))⟩, ⟨(some 14), .call 18 [(.t 13)], (some (12, false))⟩, ⟨(some 15), .not (.t 14), (some (12, false))⟩, ⟨(some 16), .pick (.t 12) (.c (.bool true)) (.t 15), none⟩])
  (.cond (.t 16) (.seq (.ops [⟨(some 17), .call 15 [], none⟩, ⟨(some 4), .mv (.t 17), none⟩])
  .ret) .skip))
  (.seq (.ops [⟨(some 18), .loadN 3 (.t 2), none⟩, ⟨(some 19), .call 17 [(.t 18)], none⟩, ⟨(some 5), .alloc [(.int .i64 0), (.int .i64 0), (.string ⟨#[]⟩)], none⟩, ⟨none, .store 3 (.t 5) (.t 19), none⟩])
  (.seq (.dops [⟨⟨(some 21), .loadN 3 (.t 5), none⟩, 0, false, false⟩, ⟨⟨(some 22), .loadN 3 (.t 5), none⟩, 1, false, false⟩, ⟨⟨(some 23), .call 26 [(.t 22), (.c (.int .u8 35))], none⟩, 2, true, true⟩, ⟨⟨(some 24), .bsl 1 2 [(.int .i64 0)] [(0, (.c (.int .i64 (-1)))), (1, (.c (.int .i64 64)))], none⟩, 3, true, true⟩, ⟨⟨(some 25), .app 1 8 (.t 23) (.t 24), none⟩, 4, true, true⟩, ⟨⟨(some 26), .call 16 [(.t 21), (.t 25), (.c (.int .i64 1))], none⟩, 5, true, false⟩, ⟨⟨(some 20), .mv (.t 26), none⟩, 6, false, false⟩, ⟨⟨(some 27), .ext (.t 20) 0, none⟩, 7, false, false⟩, ⟨⟨(some 28), .ext (.t 20) 1, none⟩, 8, false, false⟩, ⟨⟨(some 6), .mv (.t 27), none⟩, 9, false, false⟩, ⟨⟨(some 7), .mv (.t 28), none⟩, 10, false, false⟩])
  (.seq (.seq (.ops [⟨(some 8), .mv (.c (.int .i64 0)), none⟩])
  (.block 0 (.loop (.seq (.seq (.ops [⟨(some 29), .mv (.t 8), none⟩, ⟨(some 30), .mv (.t 6), none⟩, ⟨(some 31), .len false (.t 30), none⟩, ⟨(some 32), .bin .lss (.t 29) (.t 31), none⟩])
  (.cond (.t 32) .skip (.exit 0)))
  (.seq (.block 1 (.seq (.ops [⟨(some 35), .mv (.t 6), none⟩, ⟨(some 36), .mv (.t 8), none⟩, ⟨(some 37), .iaS 1 (.t 35) (.t 36), none⟩, ⟨(some 38), .load1 (.t 37), none⟩, ⟨(some 39), .bin .neq (.t 38) (.c (.int .i64 (-1))), none⟩])
  (.cond (.t 39) (.seq (.ops [⟨(some 4), .mv (.c (.bool false)), none⟩])
  .ret) .skip)))
  (.ops [⟨(some 33), .mv (.t 8), none⟩, ⟨(some 34), .bin .add (.t 33) (.c (.int .i64 1)), none⟩, ⟨(some 8), .mv (.t 34), none⟩]))))))
  (.seq (.ops [⟨(some 40), .mv (.t 1), none⟩, ⟨(some 41), .conv .i64 (.t 40), none⟩, ⟨(some 42), .fadd 2 (.t 2), none⟩, ⟨(some 43), .load1 (.t 42), none⟩, ⟨(some 44), .len true (.t 43), none⟩, ⟨(some 45), .bin .rem (.t 41) (.t 44), none⟩, ⟨(some 9), .mv (.t 45), none⟩])
  (.seq (.ops [⟨(some 46), .mv (.t 7), none⟩, ⟨(some 47), .call 19 [(.t 46)], none⟩, ⟨(some 48), .bin .eql (.t 47) (.c (.int .i64 0)), none⟩, ⟨(some 49), .mv (.t 48), none⟩, ⟨(some 50), .loadN 3 (.t 5), (some (49, false))⟩, ⟨(some 51), .call 26 [(.t 50), (.c (.int .u8 35))], (some (49, false))⟩, ⟨(some 52), .len false (.t 51), (some (49, false))⟩, ⟨(some 53), .bin .gtr (.t 52) (.c (.int .i64 62)), (some (49, false))⟩, ⟨(some 54), .pick (.t 49) (.c (.bool true)) (.t 53), none⟩, ⟨(some 55), .mv (.t 54), none⟩, ⟨(some 56), .loadN 3 (.t 5), (some (55, true))⟩, ⟨(some 57), .mv (.t 6), (some (55, true))⟩, ⟨(some 58), .mv (.t 9), (some (55, true))⟩, ⟨(some 59), .call 24 [(.t 56), (.t 57), (.t 58)], (some (55, true))⟩, ⟨(some 60), .len false (.t 59), (some (55, true))⟩, ⟨(some 61), .bin .eql (.t 60) (.c (.int .i64 0)), (some (55, true))⟩, ⟨(some 62), .pick (.t 55) (.t 61) (.c (.bool false)), none⟩, ⟨(some 63), .mv (.t 62), none⟩, ⟨(some 64), .loadN 3 (.t 5), (some (63, true))⟩, ⟨(some 65), .mv (.t 6), (some (63, true))⟩, ⟨(some 66), .mv (.t 9), (some (63, true))⟩, ⟨(some 67), .call 22 [(.t 64), (.t 65), (.t 66)], (some (63, true))⟩, ⟨(some 68), .len false (.t 67), (some (63, true))⟩, ⟨(some 69), .bin .eql (.t 68) (.c (.int .i64 0)), (some (63, true))⟩, ⟨(some 70), .pick (.t 63) (.t 69) (.c (.bool false)), none⟩, ⟨(some 4), .mv (.t 70), none⟩])
  .ret)))))))
def r8 : List RV := [.t 4]
theorem fn8 : cFn Tryd.prog 8 = some (c8, r8, 71) := by kernel_rfl

/-- dynamo/dynamolaw17.RoutePlans -/
def c9 : MC :=
  (.seq (.ops [⟨(some 4), .box (.t 0), none⟩, ⟨(some 8), .mv (.c (.bool false)), none⟩])
  (.seq (.seq (.ops [⟨(some 17), .call 27 [], none⟩, ⟨(some 18), .not (.t 17), none⟩, ⟨(some 19), .mv (.t 18), none⟩, ⟨(some 20), .fadd 2 (.t 4), (some (19, false))⟩, ⟨(some 21), .load1 (.t 20), (some (19, false))⟩, ⟨(some 22), .len true (.t 21), (some (19, false))⟩, ⟨(some 23), .bin .gtr (.t 22) (.c (.int .i64 200)), (some (19, false))⟩, ⟨(some 24), .pick (.t 19) (.c (.bool true)) (.t 23), none⟩])
  (.cond (.t 24) (.seq (.ops [⟨(some 25), .call 27 [], none⟩, ⟨(some 8), .mv (.t 25), none⟩])
  .ret) .skip))
  (.seq (.ops [⟨(some 27), .loadN 3 (.t 4), none⟩, ⟨(some 28), .call 17 [(.t 27)], none⟩, ⟨(some 29), .mv (.t 1), none⟩, ⟨(some 30), .mv (.t 2), none⟩, ⟨(some 31), .mv (.t 3), none⟩, ⟨(some 32), .call 28 [(.t 28), (.t 29), (.t 30), (.t 31)], none⟩, ⟨(some 26), .mv (.t 32), none⟩, ⟨(some 33), .ext (.t 26) 0, none⟩, ⟨(some 34), .ext (.t 26) 1, none⟩, ⟨(some 35), .ext (.t 26) 2, none⟩, ⟨(some 9), .mv (.t 33), none⟩, ⟨(some 10), .mv (.t 34), none⟩, ⟨(some 11), .mv (.t 35), none⟩])
  (.seq (.ops [⟨(some 37), .loadN 3 (.t 4), none⟩, ⟨(some 38), .call 17 [(.t 37)], none⟩, ⟨(some 39), .mv (.t 2), none⟩, ⟨(some 40), .mv (.t 1), none⟩, ⟨(some 41), .mv (.t 3), none⟩, ⟨(some 42), .call 28 [(.t 38), (.t 39), (.t 40), (.t 41)], none⟩, ⟨(some 36), .mv (.t 42), none⟩, ⟨(some 43), .ext (.t 36) 0, none⟩, ⟨(some 44), .ext (.t 36) 1, none⟩, ⟨(some 45), .ext (.t 36) 2, none⟩, ⟨(some 12), .mv (.t 43), none⟩, ⟨(some 13), .mv (.t 44), none⟩, ⟨(some 14), .mv (.t 45), none⟩])
  (.seq (.seq (.ops [⟨(some 46), .loadN 3 (.t 4), none⟩, ⟨(some 47), .mv (.t 1), none⟩, ⟨(some 48), .call 29 [(.t 46), (.t 47)], none⟩, ⟨(some 49), .not (.t 48), none⟩, ⟨(some 50), .mv (.t 49), none⟩, ⟨(some 51), .loadN 3 (.t 4), (some (50, false))⟩, ⟨(some 52), .mv (.t 2), (some (50, false))⟩, ⟨(some 53), .call 29 [(.t 51), (.t 52)], (some (50, false))⟩, ⟨(some 54), .not (.t 53), (some (50, false))⟩, ⟨(some 55), .pick (.t 50) (.c (.bool true)) (.t 54), none⟩, ⟨(some 56), .mv (.t 55), none⟩, ⟨(some 57), .mv (.t 3), (some (56, false))⟩, ⟨(some 58), .bin .lss (.t 57) (.c (.int .i64 1)), (some (56, false))⟩, ⟨(some 59), .pick (.t 56) (.c (.bool true)) (.t 58), none⟩, ⟨(some 60), .mv (.t 59), none⟩, ⟨(some 61), .mv (.t 3), (some (60, false))⟩, ⟨(some 62), .bin .gtr (.t 61) (.c (.int .i64 100)), (some (60, false))⟩, ⟨(some 63), .pick (.t 60) (.c (.bool true)) (.t 62), none⟩])
  (.cond (.t 63) (.seq (.ops [⟨(some 64), .mv (.t 11), none⟩, ⟨(some 65), .call 19 [(.t 64)], none⟩, ⟨(some 66), .bin .eql (.t 65) (.c (.int .i64 1)), none⟩, ⟨(some 67), .mv (.t 66), none⟩, ⟨(some 68), .mv (.t 14), (some (67, true))⟩, ⟨(some 69), .call 19 [(.t 68)], (some (67, true))⟩, ⟨(some 70), .bin .eql (.t 69) (.c (.int .i64 1)), (some (67, true))⟩, ⟨(some 71), .pick (.t 67) (.t 70) (.c (.bool false)), none⟩, ⟨(some 72), .mv (.t 71), none⟩, ⟨(some 73), .mv (.t 9), (some (72, true))⟩, ⟨(some 74), .len false (.t 73), (some (72, true))⟩, ⟨(some 75), .bin .eql (.t 74) (.c (.int .i64 0)), (some (72, true))⟩, ⟨(some 76), .pick (.t 72) (.t 75) (.c (.bool false)), none⟩, ⟨(some 77), .mv (.t 76), none⟩, ⟨(some 78), .mv (.t 10), (some (77, true))⟩, ⟨(some 79), .bin .eql (.t 78) (.c (.int .i64 0)), (some (77, true))⟩, ⟨(some 80), .pick (.t 77) (.t 79) (.c (.bool false)), none⟩, ⟨(some 8), .mv (.t 80), none⟩])
  .ret) .skip))
  (.seq (.ops [⟨(some 81), .mv (.t 1), none⟩, ⟨(some 15), .mv (.t 81), none⟩])
  (.seq (.seq (.ops [⟨(some 16), .mv (.c (.int .i64 0)), none⟩])
  (.block 0 (.loop (.seq (.seq (.ops [⟨(some 82), .mv (.t 16), none⟩, ⟨(some 83), .mv (.t 9), none⟩, ⟨(some 84), .len false (.t 83), none⟩, ⟨(some 85), .bin .lss (.t 82) (.t 84), none⟩])
  (.cond (.t 85) .skip (.exit 0)))
  (.seq (.block 1 (.seq (.seq (.dops [⟨⟨(some 88), .fadd 0 (.t 4), none⟩, 0, false, false⟩, ⟨⟨(some 89), .load1 (.t 88), none⟩, 1, false, false⟩, ⟨⟨(some 90), .mv (.t 15), none⟩, 2, false, false⟩, ⟨⟨(some 91), .mv (.t 9), none⟩, 3, false, false⟩, ⟨⟨(some 92), .mv (.t 16), none⟩, 4, false, false⟩, ⟨⟨(some 93), .iaS 1 (.t 91) (.t 92), none⟩, 5, false, false⟩, ⟨⟨(some 94), .load1 (.t 93), none⟩, 6, false, false⟩, ⟨⟨(some 95), .call 30 [(.t 89), (.t 90), (.t 94)], none⟩, 7, true, false⟩, ⟨⟨(some 96), .not (.t 95), none⟩, 8, false, false⟩, ⟨⟨(some 97), .mv (.t 96), none⟩, 9, false, false⟩, ⟨⟨(some 98), .fadd 2 (.t 4), (some (97, false))⟩, 10, false, false⟩, ⟨⟨(some 99), .load1 (.t 98), (some (97, false))⟩, 11, false, false⟩, ⟨⟨(some 100), .mv (.t 9), (some (97, false))⟩, 12, false, false⟩, ⟨⟨(some 101), .mv (.t 16), (some (97, false))⟩, 13, false, false⟩, ⟨⟨(some 102), .iaS 1 (.t 100) (.t 101), (some (97, false))⟩, 14, false, false⟩, ⟨⟨(some 103), .load1 (.t 102), (some (97, false))⟩, 15, false, false⟩, ⟨⟨(some 104), .idxS (.t 99) (.t 103), (some (97, false))⟩, 16, false, false⟩, ⟨⟨(some 105), .bin .eql (.t 104) (.c (.int .u8 35)), (some (97, false))⟩, 17, false, false⟩, ⟨⟨(some 106), .pick (.t 97) (.c (.bool true)) (.t 105), none⟩, 18, false, false⟩])
  (.cond (.t 106) (.seq (.ops [⟨(some 8), .mv (.c (.bool false)), none⟩])
  .ret) .skip))
  (.ops [⟨(some 107), .mv (.t 9), none⟩, ⟨(some 108), .mv (.t 16), none⟩, ⟨(some 109), .iaS 1 (.t 107) (.t 108), none⟩, ⟨(some 110), .load1 (.t 109), none⟩, ⟨(some 15), .mv (.t 110), none⟩])))
  (.ops [⟨(some 86), .mv (.t 16), none⟩, ⟨(some 87), .bin .add (.t 86) (.c (.int .i64 1)), none⟩, ⟨(some 16), .mv (.t 87), none⟩]))))))
  (.seq (.ops [⟨(some 111), .mv (.t 11), none⟩, ⟨(some 112), .call 19 [(.t 111)], none⟩, ⟨(some 113), .bin .eql (.t 112) (.c (.int .i64 0)), none⟩, ⟨(some 114), .mv (.t 113), none⟩, ⟨(some 115), .mv (.t 14), (some (114, true))⟩, ⟨(some 116), .call 19 [(.t 115)], (some (114, true))⟩, ⟨(some 117), .bin .eql (.t 116) (.c (.int .i64 0)), (some (114, true))⟩, ⟨(some 118), .pick (.t 114) (.t 117) (.c (.bool false)), none⟩, ⟨(some 119), .mv (.t 118), none⟩, ⟨(some 120), .mv (.t 15), (some (119, true))⟩, ⟨(some 121), .mv (.t 2), (some (119, true))⟩, ⟨(some 122), .bin .eql (.t 120) (.t 121), (some (119, true))⟩, ⟨(some 123), .pick (.t 119) (.t 122) (.c (.bool false)), none⟩, ⟨(some 124), .mv (.t 123), none⟩, ⟨(some 125), .mv (.t 10), (some (124, true))⟩, ⟨(some 126), .mv (.t 9), (some (124, true))⟩, ⟨(some 127), .len false (.t 126), (some (124, true))⟩, ⟨(some 128), .mv (.t 3), (some (124, true))⟩, ⟨(some 129), .bin .mul (.t 127) (.t 128), (some (124, true))⟩, ⟨(some 130), .bin .eql (.t 125) (.t 129), (some (124, true))⟩, ⟨(some 131), .pick (.t 124) (.t 130) (.c (.bool false)), none⟩, ⟨(some 132), .mv (.t 131), none⟩, ⟨(some 133), .mv (.t 10), (some (132, true))⟩, ⟨(some 134), .loadN 3 (.t 4), (some (132, true))⟩, ⟨(some 135), .mv (.t 1), (some (132, true))⟩, ⟨(some 136), .mv (.t 2), (some (132, true))⟩, ⟨(some 137), .mv (.t 3), (some (132, true))⟩, ⟨(some 138), .call 31 [(.t 134), (.t 135), (.t 136), (.t 137)], (some (132, true))⟩, ⟨(some 139), .bin .eql (.t 133) (.t 138), (some (132, true))⟩, ⟨(some 140), .pick (.t 132) (.t 139) (.c (.bool false)), none⟩, ⟨(some 141), .mv (.t 140), none⟩, ⟨(some 142), .mv (.t 13), (some (141, true))⟩, ⟨(some 143), .mv (.t 10), (some (141, true))⟩, ⟨(some 144), .bin .eql (.t 142) (.t 143), (some (141, true))⟩, ⟨(some 145), .pick (.t 141) (.t 144) (.c (.bool false)), none⟩, ⟨(some 8), .mv (.t 145), none⟩])
  .ret))))))))
def r9 : List RV := [.t 8]
theorem fn9 : cFn Tryd.prog 9 = some (c9, r9, 146) := by kernel_rfl

/-- dynamo/dynamolaw17.RouteThird -/
def c10 : MC :=
  (.seq (.ops [⟨(some 4), .box (.t 0), none⟩, ⟨(some 8), .mv (.c (.bool false)), none⟩])
  (.seq (.seq (.ops [⟨(some 22), .call 27 [], none⟩, ⟨(some 23), .not (.t 22), none⟩, ⟨(some 24), .mv (.t 23), none⟩, ⟨(some 25), .loadN 3 (.t 4), (some (24, false))⟩, ⟨(some 26), .call 18 [(.t 25)], (some (24, false))⟩, ⟨(some 27), .not (.t 26), (some (24, false))⟩, ⟨(some 28), .pick (.t 24) (.c (.bool true)) (.t 27), none⟩])
  (.cond (.t 28) (.seq (.ops [⟨(some 29), .call 27 [], none⟩, ⟨(some 8), .mv (.t 29), none⟩])
  .ret) .skip))
  (.seq (.ops [⟨(some 30), .loadN 3 (.t 4), none⟩, ⟨(some 31), .call 17 [(.t 30)], none⟩, ⟨(some 9), .alloc [(.int .i64 0), (.int .i64 0), (.string ⟨#[]⟩)], none⟩, ⟨none, .store 3 (.t 9) (.t 31), none⟩])
  (.seq (.dops [⟨⟨(some 32), .mv (.t 1), none⟩, 0, false, false⟩, ⟨⟨(some 33), .conv .i64 (.t 32), none⟩, 1, false, false⟩, ⟨⟨(some 34), .fadd 2 (.t 4), none⟩, 2, false, false⟩, ⟨⟨(some 35), .load1 (.t 34), none⟩, 3, false, false⟩, ⟨⟨(some 36), .len true (.t 35), none⟩, 4, false, false⟩, ⟨⟨(some 37), .bin .rem (.t 33) (.t 36), none⟩, 5, false, false⟩, ⟨⟨(some 38), .mv (.t 2), none⟩, 6, false, false⟩, ⟨⟨(some 39), .conv .i64 (.t 38), none⟩, 7, false, false⟩, ⟨⟨(some 40), .fadd 2 (.t 4), none⟩, 8, false, false⟩, ⟨⟨(some 41), .load1 (.t 40), none⟩, 9, false, false⟩, ⟨⟨(some 42), .len true (.t 41), none⟩, 10, false, false⟩, ⟨⟨(some 43), .bin .rem (.t 39) (.t 42), none⟩, 11, false, false⟩, ⟨⟨(some 44), .mv (.t 3), none⟩, 12, false, false⟩, ⟨⟨(some 45), .conv .i64 (.t 44), none⟩, 13, false, false⟩, ⟨⟨(some 46), .fadd 2 (.t 4), none⟩, 14, false, false⟩, ⟨⟨(some 47), .load1 (.t 46), none⟩, 15, false, false⟩, ⟨⟨(some 48), .len true (.t 47), none⟩, 16, false, false⟩, ⟨⟨(some 49), .bin .rem (.t 45) (.t 48), none⟩, 17, false, false⟩, ⟨⟨(some 10), .mv (.t 37), none⟩, 18, false, false⟩, ⟨⟨(some 11), .mv (.t 43), none⟩, 19, false, false⟩, ⟨⟨(some 12), .mv (.t 49), none⟩, 20, false, false⟩])
  (.seq (.ops [⟨(some 51), .loadN 3 (.t 9), none⟩, ⟨(some 52), .mv (.t 10), none⟩, ⟨(some 53), .mv (.t 11), none⟩, ⟨(some 54), .call 28 [(.t 51), (.t 52), (.t 53), (.c (.int .i64 1))], none⟩, ⟨(some 50), .mv (.t 54), none⟩, ⟨(some 55), .ext (.t 50) 0, none⟩, ⟨(some 56), .ext (.t 50) 1, none⟩, ⟨(some 57), .ext (.t 50) 2, none⟩, ⟨(some 13), .mv (.t 55), none⟩, ⟨(some 14), .mv (.t 56), none⟩, ⟨(some 15), .mv (.t 57), none⟩])
  (.seq (.ops [⟨(some 59), .loadN 3 (.t 9), none⟩, ⟨(some 60), .mv (.t 11), none⟩, ⟨(some 61), .mv (.t 12), none⟩, ⟨(some 62), .call 28 [(.t 59), (.t 60), (.t 61), (.c (.int .i64 1))], none⟩, ⟨(some 58), .mv (.t 62), none⟩, ⟨(some 63), .ext (.t 58) 0, none⟩, ⟨(some 64), .ext (.t 58) 1, none⟩, ⟨(some 65), .ext (.t 58) 2, none⟩, ⟨(some 16), .mv (.t 63), none⟩, ⟨(some 17), .mv (.t 64), none⟩, ⟨(some 18), .mv (.t 65), none⟩])
  (.seq (.ops [⟨(some 67), .loadN 3 (.t 9), none⟩, ⟨(some 68), .mv (.t 10), none⟩, ⟨(some 69), .mv (.t 12), none⟩, ⟨(some 70), .call 28 [(.t 67), (.t 68), (.t 69), (.c (.int .i64 1))], none⟩, ⟨(some 66), .mv (.t 70), none⟩, ⟨(some 71), .ext (.t 66) 0, none⟩, ⟨(some 72), .ext (.t 66) 1, none⟩, ⟨(some 73), .ext (.t 66) 2, none⟩, ⟨(some 19), .mv (.t 71), none⟩, ⟨(some 20), .mv (.t 72), none⟩, ⟨(some 21), .mv (.t 73), none⟩])
  (.seq (.seq (.ops [⟨(some 74), .mv (.t 15), none⟩, ⟨(some 75), .call 19 [(.t 74)], none⟩, ⟨(some 76), .bin .neq (.t 75) (.c (.int .i64 0)), none⟩, ⟨(some 77), .mv (.t 76), none⟩, ⟨(some 78), .mv (.t 18), (some (77, false))⟩, ⟨(some 79), .call 19 [(.t 78)], (some (77, false))⟩, ⟨(some 80), .bin .neq (.t 79) (.c (.int .i64 0)), (some (77, false))⟩, ⟨(some 81), .pick (.t 77) (.c (.bool true)) (.t 80), none⟩, ⟨(some 82), .mv (.t 81), none⟩, ⟨(some 83), .mv (.t 21), (some (82, false))⟩, ⟨(some 84), .call 19 [(.t 83)], (some (82, false))⟩, ⟨(some 85), .bin .neq (.t 84) (.c (.int .i64 0)), (some (82, false))⟩, ⟨(some 86), .pick (.t 82) (.c (.bool true)) (.t 85), none⟩])
  (.cond (.t 86) (.seq (.ops [⟨(some 87), .fadd 2 (.t 4), none⟩, ⟨(some 88), .load1 (.t 87), none⟩, ⟨(some 89), .mv (.t 10), none⟩, ⟨(some 90), .idxS (.t 88) (.t 89), none⟩, ⟨(some 91), .bin .eql (.t 90) (.c (.int .u8 35)), none⟩, ⟨(some 92), .mv (.t 91), none⟩, ⟨(some 93), .fadd 2 (.t 4), (some (92, false))⟩, ⟨(some 94), .load1 (.t 93), (some (92, false))⟩, ⟨(some 95), .mv (.t 11), (some (92, false))⟩, ⟨(some 96), .idxS (.t 94) (.t 95), (some (92, false))⟩, ⟨(some 97), .bin .eql (.t 96) (.c (.int .u8 35)), (some (92, false))⟩, ⟨(some 98), .pick (.t 92) (.c (.bool true)) (.t 97), none⟩, ⟨(some 99), .mv (.t 98), none⟩, ⟨(some 100), .fadd 2 (.t 4), (some (99, false))⟩, ⟨(some 101), .load1 (.t 100), (some (99, false))⟩, ⟨(some 102), .mv (.t 12), (some (99, false))⟩, ⟨(some 103), .idxS (.t 101) (.t 102), (some (99, false))⟩, ⟨(some 104), .bin .eql (.t 103) (.c (.int .u8 35)), (some (99, false))⟩, ⟨(some 105), .pick (.t 99) (.c (.bool true)) (.t 104), none⟩, ⟨(some 8), .mv (.t 105), none⟩])
  .ret) .skip))
  (.seq (.ops [⟨(some 106), .mv (.t 20), none⟩, ⟨(some 107), .mv (.t 14), none⟩, ⟨(some 108), .mv (.t 17), none⟩, ⟨(some 109), .bin .add (.t 107) (.t 108), none⟩, ⟨(some 110), .bin .leq (.t 106) (.t 109), none⟩, ⟨(some 111), .mv (.t 110), none⟩, ⟨(some 112), .mv (.t 10), (some (111, true))⟩, ⟨(some 113), .mv (.t 12), (some (111, true))⟩, ⟨(some 114), .bin .neq (.t 112) (.t 113), (some (111, true))⟩, ⟨(some 115), .mv (.t 114), (some (111, true))⟩, ⟨(some 116), .mv (.t 20), (some (115, false))⟩, ⟨(some 117), .bin .eql (.t 116) (.c (.int .i64 0)), (some (115, false))⟩, ⟨(some 118), .pick (.t 115) (.c (.bool true)) (.t 117), (some (111, true))⟩, ⟨(some 119), .pick (.t 111) (.t 118) (.c (.bool false)), none⟩, ⟨(some 8), .mv (.t 119), none⟩])
  .ret)))))))))
def r10 : List RV := [.t 8]
theorem fn10 : cFn Tryd.prog 10 = some (c10, r10, 120) := by kernel_rfl

/-- dynamo/dynamolaw17.RouteTotals -/
def c11 : MC :=
  (.seq (.ops [⟨(some 5), .box (.t 0), none⟩, ⟨(some 10), .mv (.c (.bool false)), none⟩])
  (.seq (.seq (.ops [⟨(some 15), .call 27 [], none⟩, ⟨(some 16), .not (.t 15), none⟩, ⟨(some 17), .mv (.t 16), none⟩, ⟨(some 18), .fadd 2 (.t 5), (some (17, false))⟩, ⟨(some 19), .load1 (.t 18), (some (17, false))⟩, ⟨(some 20), .len true (.t 19), (some (17, false))⟩, ⟨(some 21), .bin .gtr (.t 20) (.c (.int .i64 200)), (some (17, false))⟩, ⟨(some 22), .pick (.t 17) (.c (.bool true)) (.t 21), none⟩, ⟨(some 23), .mv (.t 22), none⟩, ⟨(some 24), .mv (.t 1), (some (23, false))⟩, ⟨(some 25), .len false (.t 24), (some (23, false))⟩, ⟨(some 26), .bin .gtr (.t 25) (.c (.int .i64 100)), (some (23, false))⟩, ⟨(some 27), .pick (.t 23) (.c (.bool true)) (.t 26), none⟩])
  (.cond (.t 27) (.seq (.ops [⟨(some 28), .call 27 [], none⟩, ⟨(some 10), .mv (.t 28), none⟩])
  .ret) .skip))
  (.seq (.ops [⟨(some 30), .loadN 3 (.t 5), none⟩, ⟨(some 31), .call 17 [(.t 30)], none⟩, ⟨(some 32), .mv (.t 1), none⟩, ⟨(some 33), .mv (.t 2), none⟩, ⟨(some 34), .mv (.t 3), none⟩, ⟨(some 35), .mv (.t 4), none⟩, ⟨(some 36), .call 32 [(.t 31), (.t 32), (.t 33), (.t 34), (.t 35)], none⟩, ⟨(some 29), .mv (.t 36), none⟩, ⟨(some 37), .ext (.t 29) 0, none⟩, ⟨(some 38), .ext (.t 29) 1, none⟩, ⟨(some 11), .mv (.t 37), none⟩, ⟨(some 12), .mv (.t 38), none⟩])
  (.seq (.ops [⟨(some 40), .loadN 3 (.t 5), none⟩, ⟨(some 41), .mv (.t 1), none⟩, ⟨(some 42), .mv (.t 2), none⟩, ⟨(some 43), .mv (.t 3), none⟩, ⟨(some 44), .mv (.t 4), none⟩, ⟨(some 45), .call 33 [(.t 40), (.t 41), (.t 42), (.t 43), (.t 44)], none⟩, ⟨(some 39), .mv (.t 45), none⟩, ⟨(some 46), .ext (.t 39) 0, none⟩, ⟨(some 47), .ext (.t 39) 1, none⟩, ⟨(some 13), .mv (.t 46), none⟩, ⟨(some 14), .mv (.t 47), none⟩])
  (.seq (.ops [⟨(some 48), .mv (.t 11), none⟩, ⟨(some 49), .mv (.t 13), none⟩, ⟨(some 50), .bin .eql (.t 48) (.t 49), none⟩, ⟨(some 51), .mv (.t 50), none⟩, ⟨(some 52), .mv (.t 12), (some (51, true))⟩, ⟨(some 53), .call 19 [(.t 52)], (some (51, true))⟩, ⟨(some 54), .mv (.t 14), (some (51, true))⟩, ⟨(some 55), .bin .eql (.t 53) (.t 54), (some (51, true))⟩, ⟨(some 56), .pick (.t 51) (.t 55) (.c (.bool false)), none⟩, ⟨(some 10), .mv (.t 56), none⟩])
  .ret)))))
def r11 : List RV := [.t 10]
theorem fn11 : cFn Tryd.prog 11 = some (c11, r11, 57) := by kernel_rfl

/-- dynamo/dynamolaw17.RouteNexts -/
def c12 : MC :=
  (.seq (.ops [⟨(some 4), .box (.t 0), none⟩, ⟨(some 8), .mv (.c (.bool false)), none⟩])
  (.seq (.seq (.ops [⟨(some 13), .call 27 [], none⟩, ⟨(some 14), .not (.t 13), none⟩, ⟨(some 15), .mv (.t 14), none⟩, ⟨(some 16), .fadd 2 (.t 4), (some (15, false))⟩, ⟨(some 17), .load1 (.t 16), (some (15, false))⟩, ⟨(some 18), .len true (.t 17), (some (15, false))⟩, ⟨(some 19), .bin .gtr (.t 18) (.c (.int .i64 200)), (some (15, false))⟩, ⟨(some 20), .pick (.t 15) (.c (.bool true)) (.t 19), none⟩, ⟨(some 21), .mv (.t 20), none⟩, ⟨(some 22), .mv (.t 1), (some (21, false))⟩, ⟨(some 23), .len false (.t 22), (some (21, false))⟩, ⟨(some 24), .bin .gtr (.t 23) (.c (.int .i64 200)), (some (21, false))⟩, ⟨(some 25), .pick (.t 21) (.c (.bool true)) (.t 24), none⟩, ⟨(some 26), .mv (.t 25), none⟩, ⟨(some 27), .mv (.t 3), (some (26, false))⟩, ⟨(some 28), .len false (.t 27), (some (26, false))⟩, ⟨(some 29), .bin .gtr (.t 28) (.c (.int .i64 200)), (some (26, false))⟩, ⟨(some 30), .pick (.t 26) (.c (.bool true)) (.t 29), none⟩])
  (.cond (.t 30) (.seq (.ops [⟨(some 31), .call 27 [], none⟩, ⟨(some 8), .mv (.t 31), none⟩])
  .ret) .skip))
  (.seq (.ops [⟨(some 33), .loadN 3 (.t 4), none⟩, ⟨(some 34), .call 17 [(.t 33)], none⟩, ⟨(some 35), .mv (.t 1), none⟩, ⟨(some 36), .mv (.t 2), none⟩, ⟨(some 37), .mv (.t 3), none⟩, ⟨(some 38), .call 34 [(.t 34), (.t 35), (.t 36), (.t 37)], none⟩, ⟨(some 32), .mv (.t 38), none⟩, ⟨(some 39), .ext (.t 32) 0, none⟩, ⟨(some 40), .ext (.t 32) 1, none⟩, ⟨(some 9), .mv (.t 39), none⟩, ⟨(some 10), .mv (.t 40), none⟩])
  (.seq (.seq (.ops [⟨(some 41), .loadN 3 (.t 4), none⟩, ⟨(some 42), .call 18 [(.t 41)], none⟩, ⟨(some 43), .not (.t 42), none⟩])
  (.cond (.t 43) (.seq (.ops [⟨(some 44), .mv (.t 10), none⟩, ⟨(some 45), .not (.t 44), none⟩, ⟨(some 46), .mv (.t 45), none⟩, ⟨(some 47), .mv (.t 9), (some (46, true))⟩, ⟨(some 48), .bin .eql (.t 47) (.c (.int .i64 0)), (some (46, true))⟩, ⟨(some 49), .pick (.t 46) (.t 48) (.c (.bool false)), none⟩, ⟨(some 8), .mv (.t 49), none⟩])
  .ret) .skip))
  (.seq (.ops [⟨(some 50), .loadN 3 (.t 4), none⟩, ⟨(some 51), .mv (.t 1), none⟩, ⟨(some 52), .mv (.t 2), none⟩, ⟨(some 53), .call 25 [(.t 50), (.t 51), (.t 52)], none⟩, ⟨(some 11), .mv (.t 53), none⟩])
  (.seq (.seq (.ops [⟨(some 12), .mv (.c (.int .i64 0)), none⟩])
  (.block 0 (.loop (.seq (.seq (.ops [⟨(some 54), .mv (.t 12), none⟩, ⟨(some 55), .mv (.t 11), none⟩, ⟨(some 56), .len false (.t 55), none⟩, ⟨(some 57), .bin .lss (.t 54) (.t 56), none⟩])
  (.cond (.t 57) .skip (.exit 0)))
  (.seq (.block 1 (.seq (.ops [⟨(some 60), .mv (.t 11), none⟩, ⟨(some 61), .mv (.t 12), none⟩, ⟨(some 62), .iaS 1 (.t 60) (.t 61), none⟩, ⟨(some 63), .load1 (.t 62), none⟩, ⟨(some 64), .mv (.t 3), none⟩, ⟨(some 65), .len false (.t 64), none⟩, ⟨(some 66), .bin .geq (.t 63) (.t 65), none⟩, ⟨(some 67), .mv (.t 66), none⟩, ⟨(some 68), .mv (.t 3), (some (67, false))⟩, ⟨(some 69), .mv (.t 11), (some (67, false))⟩, ⟨(some 70), .mv (.t 12), (some (67, false))⟩, ⟨(some 71), .iaS 1 (.t 69) (.t 70), (some (67, false))⟩, ⟨(some 72), .load1 (.t 71), (some (67, false))⟩, ⟨(some 73), .iaS 1 (.t 68) (.t 72), (some (67, false))⟩, ⟨(some 74), .load1 (.t 73), (some (67, false))⟩, ⟨(some 75), .not (.t 74), (some (67, false))⟩, ⟨(some 76), .pick (.t 67) (.c (.bool true)) (.t 75), none⟩])
  (.cond (.t 76) (.seq (.ops [⟨(some 77), .mv (.t 10), none⟩, ⟨(some 78), .mv (.t 77), none⟩, ⟨(some 79), .mv (.t 9), (some (78, true))⟩, ⟨(some 80), .mv (.t 11), (some (78, true))⟩, ⟨(some 81), .mv (.t 12), (some (78, true))⟩, ⟨(some 82), .iaS 1 (.t 80) (.t 81), (some (78, true))⟩, ⟨(some 83), .load1 (.t 82), (some (78, true))⟩, ⟨(some 84), .bin .eql (.t 79) (.t 83), (some (78, true))⟩, ⟨(some 85), .pick (.t 78) (.t 84) (.c (.bool false)), none⟩, ⟨(some 8), .mv (.t 85), none⟩])
  .ret) .skip)))
  (.ops [⟨(some 58), .mv (.t 12), none⟩, ⟨(some 59), .bin .add (.t 58) (.c (.int .i64 1)), none⟩, ⟨(some 12), .mv (.t 59), none⟩]))))))
  (.seq (.ops [⟨(some 86), .mv (.t 10), none⟩, ⟨(some 87), .not (.t 86), none⟩, ⟨(some 88), .mv (.t 87), none⟩, ⟨(some 89), .mv (.t 9), (some (88, true))⟩, ⟨(some 90), .bin .eql (.t 89) (.c (.int .i64 0)), (some (88, true))⟩, ⟨(some 91), .pick (.t 88) (.t 90) (.c (.bool false)), none⟩, ⟨(some 8), .mv (.t 91), none⟩])
  .ret)))))))
def r12 : List RV := [.t 8]
theorem fn12 : cFn Tryd.prog 12 = some (c12, r12, 92) := by kernel_rfl

/-- dynamo/dynamolaw17.RouteFree -/
def c13 : MC :=
  (.seq (.ops [⟨(some 3), .box (.t 0), none⟩, ⟨(some 6), .mv (.c (.bool false)), none⟩])
  (.seq (.seq (.ops [⟨(some 19), .call 27 [], none⟩, ⟨(some 20), .not (.t 19), none⟩, ⟨(some 21), .mv (.t 20), none⟩, ⟨(some 22), .loadN 3 (.t 3), (some (21, false))⟩, ⟨(some 23), .call 18 [(.t 22)], (some (21, false))⟩, ⟨(some 24), .not (.t 23), (some (21, false))⟩, ⟨(some 25), .pick (.t 21) (.c (.bool true)) (.t 24), none⟩])
  (.cond (.t 25) (.seq (.ops [⟨(some 26), .call 27 [], none⟩, ⟨(some 6), .mv (.t 26), none⟩])
  .ret) .skip))
  (.seq (.ops [⟨(some 27), .loadN 3 (.t 3), none⟩, ⟨(some 28), .call 17 [(.t 27)], none⟩, ⟨(some 7), .alloc [(.int .i64 0), (.int .i64 0), (.string ⟨#[]⟩)], none⟩, ⟨none, .store 3 (.t 7) (.t 28), none⟩])
  (.seq (.dops [⟨⟨(some 29), .mv (.t 1), none⟩, 0, false, false⟩, ⟨⟨(some 30), .conv .i64 (.t 29), none⟩, 1, false, false⟩, ⟨⟨(some 31), .fadd 2 (.t 3), none⟩, 2, false, false⟩, ⟨⟨(some 32), .load1 (.t 31), none⟩, 3, false, false⟩, ⟨⟨(some 33), .len true (.t 32), none⟩, 4, false, false⟩, ⟨⟨(some 34), .bin .rem (.t 30) (.t 33), none⟩, 5, false, false⟩, ⟨⟨(some 35), .mv (.t 2), none⟩, 6, false, false⟩, ⟨⟨(some 36), .conv .i64 (.t 35), none⟩, 7, false, false⟩, ⟨⟨(some 37), .fadd 2 (.t 3), none⟩, 8, false, false⟩, ⟨⟨(some 38), .load1 (.t 37), none⟩, 9, false, false⟩, ⟨⟨(some 39), .len true (.t 38), none⟩, 10, false, false⟩, ⟨⟨(some 40), .bin .rem (.t 36) (.t 39), none⟩, 11, false, false⟩, ⟨⟨(some 8), .mv (.t 34), none⟩, 12, false, false⟩, ⟨⟨(some 9), .mv (.t 40), none⟩, 13, false, false⟩])
  (.seq (.ops [⟨(some 42), .loadN 3 (.t 7), none⟩, ⟨(some 43), .mv (.t 8), none⟩, ⟨(some 44), .mv (.t 9), none⟩, ⟨(some 45), .call 28 [(.t 42), (.t 43), (.t 44), (.c (.int .i64 1))], none⟩, ⟨(some 41), .mv (.t 45), none⟩, ⟨(some 46), .ext (.t 41) 0, none⟩, ⟨(some 47), .ext (.t 41) 1, none⟩, ⟨(some 48), .ext (.t 41) 2, none⟩, ⟨(some 10), .mv (.t 46), none⟩, ⟨(some 11), .mv (.t 47), none⟩, ⟨(some 12), .mv (.t 48), none⟩])
  (.seq (.seq (.ops [⟨(some 49), .mv (.t 12), none⟩, ⟨(some 50), .call 19 [(.t 49)], none⟩, ⟨(some 51), .bin .neq (.t 50) (.c (.int .i64 0)), none⟩])
  (.cond (.t 51) (.seq (.ops [⟨(some 6), .mv (.c (.bool true)), none⟩])
  .ret) .skip))
  (.seq (.dops [⟨⟨(some 53), .loadN 3 (.t 7), none⟩, 0, false, false⟩, ⟨⟨(some 54), .loadN 3 (.t 3), none⟩, 1, false, false⟩, ⟨⟨(some 55), .mv (.t 9), none⟩, 2, false, false⟩, ⟨⟨(some 58), .mv (.t 8), none⟩, 5, false, false⟩, ⟨⟨(some 56), .bsl 1 1 [(.int .i64 0)] [(0, (.t 55))], none⟩, 3, true, true⟩, ⟨⟨(some 57), .call 21 [(.t 54), (.t 56), (.c (.int .i64 1))], none⟩, 4, true, true⟩, ⟨⟨(some 59), .call 34 [(.t 53), (.t 57), (.t 58), (.c (.slice none 0 0))], none⟩, 6, true, false⟩, ⟨⟨(some 52), .mv (.t 59), none⟩, 7, false, false⟩, ⟨⟨(some 60), .ext (.t 52) 0, none⟩, 8, false, false⟩, ⟨⟨(some 61), .ext (.t 52) 1, none⟩, 9, false, false⟩, ⟨⟨(some 13), .mv (.t 60), none⟩, 10, false, false⟩, ⟨⟨(some 14), .mv (.t 61), none⟩, 11, false, false⟩])
  (.seq (.ops [⟨(some 62), .mks 1 1 [(.bool false)] (.c (.int .i64 64)) (.c (.int .i64 64)), none⟩, ⟨(some 15), .mv (.t 62), none⟩])
  (.seq (.seq (.ops [⟨(some 16), .mv (.c (.int .i64 0)), none⟩])
  (.block 0 (.loop (.seq (.seq (.ops [⟨(some 63), .mv (.t 16), none⟩, ⟨(some 64), .bin .lss (.t 63) (.c (.int .i64 64)), none⟩])
  (.cond (.t 64) .skip (.exit 0)))
  (.seq (.block 1 (.ops [⟨(some 67), .mv (.t 15), none⟩, ⟨(some 68), .mv (.t 16), none⟩, ⟨(some 69), .iaS 1 (.t 67) (.t 68), none⟩, ⟨none, .store 1 (.t 69) (.c (.bool true)), none⟩]))
  (.ops [⟨(some 65), .mv (.t 16), none⟩, ⟨(some 66), .bin .add (.t 65) (.c (.int .i64 1)), none⟩, ⟨(some 16), .mv (.t 66), none⟩]))))))
  (.seq (.dops [⟨⟨(some 71), .loadN 3 (.t 7), none⟩, 0, false, false⟩, ⟨⟨(some 72), .loadN 3 (.t 3), none⟩, 1, false, false⟩, ⟨⟨(some 73), .mv (.t 9), none⟩, 2, false, false⟩, ⟨⟨(some 76), .mv (.t 8), none⟩, 5, false, false⟩, ⟨⟨(some 77), .mv (.t 15), none⟩, 6, false, false⟩, ⟨⟨(some 74), .bsl 1 1 [(.int .i64 0)] [(0, (.t 73))], none⟩, 3, true, true⟩, ⟨⟨(some 75), .call 21 [(.t 72), (.t 74), (.c (.int .i64 1))], none⟩, 4, true, true⟩, ⟨⟨(some 78), .call 34 [(.t 71), (.t 75), (.t 76), (.t 77)], none⟩, 7, true, false⟩, ⟨⟨(some 70), .mv (.t 78), none⟩, 8, false, false⟩, ⟨⟨(some 79), .ext (.t 70) 0, none⟩, 9, false, false⟩, ⟨⟨(some 80), .ext (.t 70) 1, none⟩, 10, false, false⟩, ⟨⟨(some 17), .mv (.t 79), none⟩, 11, false, false⟩, ⟨⟨(some 18), .mv (.t 80), none⟩, 12, false, false⟩])
  (.seq (.ops [⟨(some 81), .mv (.t 18), none⟩, ⟨(some 82), .not (.t 81), none⟩, ⟨(some 83), .mv (.t 82), none⟩, ⟨(some 84), .mv (.t 14), (some (83, true))⟩, ⟨(some 85), .mv (.t 10), (some (83, true))⟩, ⟨(some 86), .len false (.t 85), (some (83, true))⟩, ⟨(some 87), .bin .gtr (.t 86) (.c (.int .i64 0)), (some (83, true))⟩, ⟨(some 88), .eqB false (.t 84) (.t 87), (some (83, true))⟩, ⟨(some 89), .pick (.t 83) (.t 88) (.c (.bool false)), none⟩, ⟨(some 90), .mv (.t 89), none⟩, ⟨(some 91), .mv (.t 14), (some (90, true))⟩, ⟨(some 92), .not (.t 91), (some (90, true))⟩, ⟨(some 93), .mv (.t 92), (some (90, true))⟩, ⟨(some 94), .mv (.t 13), (some (93, false))⟩, ⟨(some 95), .mv (.t 10), (some (93, false))⟩, ⟨(some 96), .iaS 1 (.t 95) (.c (.int .i64 0)), (some (93, false))⟩, ⟨(some 97), .load1 (.t 96), (some (93, false))⟩, ⟨(some 98), .bin .eql (.t 94) (.t 97), (some (93, false))⟩, ⟨(some 99), .pick (.t 93) (.c (.bool true)) (.t 98), (some (90, true))⟩, ⟨(some 100), .pick (.t 90) (.t 99) (.c (.bool false)), none⟩, ⟨(some 6), .mv (.t 100), none⟩])
  .ret)))))))))))
def r13 : List RV := [.t 6]
theorem fn13 : cFn Tryd.prog 13 = some (c13, r13, 101) := by kernel_rfl

/-- dynamo/dynamolaw17.RouteParts -/
def c14 : MC :=
  (.seq (.ops [⟨(some 4), .box (.t 0), none⟩, ⟨(some 8), .mv (.c (.bool false)), none⟩])
  (.seq (.seq (.ops [⟨(some 28), .call 27 [], none⟩, ⟨(some 29), .not (.t 28), none⟩, ⟨(some 30), .mv (.t 29), none⟩, ⟨(some 31), .loadN 3 (.t 4), (some (30, false))⟩, ⟨(some 32), .call 18 [(.t 31)], (some (30, false))⟩, ⟨(some 33), .not (.t 32), (some (30, false))⟩, ⟨(some 34), .pick (.t 30) (.c (.bool true)) (.t 33), none⟩])
  (.cond (.t 34) (.seq (.ops [⟨(some 35), .call 27 [], none⟩, ⟨(some 8), .mv (.t 35), none⟩])
  .ret) .skip))
  (.seq (.ops [⟨(some 36), .loadN 3 (.t 4), none⟩, ⟨(some 37), .call 17 [(.t 36)], none⟩, ⟨(some 9), .alloc [(.int .i64 0), (.int .i64 0), (.string ⟨#[]⟩)], none⟩, ⟨none, .store 3 (.t 9) (.t 37), none⟩])
  (.seq (.ops [⟨(some 38), .loadN 3 (.t 9), none⟩, ⟨(some 39), .call 26 [(.t 38), (.c (.int .u8 67))], none⟩, ⟨(some 10), .mv (.t 39), none⟩])
  (.seq (.dops [⟨⟨(some 40), .mv (.t 1), none⟩, 0, false, false⟩, ⟨⟨(some 41), .conv .i64 (.t 40), none⟩, 1, false, false⟩, ⟨⟨(some 42), .fadd 2 (.t 4), none⟩, 2, false, false⟩, ⟨⟨(some 43), .load1 (.t 42), none⟩, 3, false, false⟩, ⟨⟨(some 44), .len true (.t 43), none⟩, 4, false, false⟩, ⟨⟨(some 45), .bin .rem (.t 41) (.t 44), none⟩, 5, false, false⟩, ⟨⟨(some 46), .mv (.t 2), none⟩, 6, false, false⟩, ⟨⟨(some 47), .conv .i64 (.t 46), none⟩, 7, false, false⟩, ⟨⟨(some 48), .fadd 2 (.t 4), none⟩, 8, false, false⟩, ⟨⟨(some 49), .load1 (.t 48), none⟩, 9, false, false⟩, ⟨⟨(some 50), .len true (.t 49), none⟩, 10, false, false⟩, ⟨⟨(some 51), .bin .rem (.t 47) (.t 50), none⟩, 11, false, false⟩, ⟨⟨(some 52), .mv (.t 3), none⟩, 12, false, false⟩, ⟨⟨(some 53), .conv .i64 (.t 52), none⟩, 13, false, false⟩, ⟨⟨(some 54), .fadd 2 (.t 4), none⟩, 14, false, false⟩, ⟨⟨(some 55), .load1 (.t 54), none⟩, 15, false, false⟩, ⟨⟨(some 56), .len true (.t 55), none⟩, 16, false, false⟩, ⟨⟨(some 57), .bin .rem (.t 53) (.t 56), none⟩, 17, false, false⟩, ⟨⟨(some 11), .mv (.t 45), none⟩, 18, false, false⟩, ⟨⟨(some 12), .mv (.t 51), none⟩, 19, false, false⟩, ⟨⟨(some 13), .mv (.t 57), none⟩, 20, false, false⟩])
  (.seq (.ops [⟨(some 59), .loadN 3 (.t 9), none⟩, ⟨(some 60), .mv (.t 10), none⟩, ⟨(some 61), .mv (.t 11), none⟩, ⟨(some 62), .mv (.t 12), none⟩, ⟨(some 63), .mv (.t 13), none⟩, ⟨(some 64), .call 32 [(.t 59), (.t 60), (.t 61), (.t 62), (.t 63)], none⟩, ⟨(some 58), .mv (.t 64), none⟩, ⟨(some 65), .ext (.t 58) 0, none⟩, ⟨(some 66), .ext (.t 58) 1, none⟩, ⟨(some 14), .mv (.t 65), none⟩, ⟨(some 15), .mv (.t 66), none⟩])
  (.seq (.ops [⟨(some 68), .loadN 3 (.t 9), none⟩, ⟨(some 69), .mv (.t 11), none⟩, ⟨(some 70), .mv (.t 12), none⟩, ⟨(some 71), .call 28 [(.t 68), (.t 69), (.t 70), (.c (.int .i64 1))], none⟩, ⟨(some 67), .mv (.t 71), none⟩, ⟨(some 72), .ext (.t 67) 0, none⟩, ⟨(some 73), .ext (.t 67) 1, none⟩, ⟨(some 74), .ext (.t 67) 2, none⟩, ⟨(some 16), .mv (.t 72), none⟩, ⟨(some 17), .mv (.t 73), none⟩, ⟨(some 18), .mv (.t 74), none⟩])
  (.seq (.ops [⟨(some 76), .loadN 3 (.t 9), none⟩, ⟨(some 77), .mv (.t 12), none⟩, ⟨(some 78), .mv (.t 13), none⟩, ⟨(some 79), .call 28 [(.t 76), (.t 77), (.t 78), (.c (.int .i64 2))], none⟩, ⟨(some 75), .mv (.t 79), none⟩, ⟨(some 80), .ext (.t 75) 0, none⟩, ⟨(some 81), .ext (.t 75) 1, none⟩, ⟨(some 82), .ext (.t 75) 2, none⟩, ⟨(some 19), .mv (.t 80), none⟩, ⟨(some 20), .mv (.t 81), none⟩, ⟨(some 21), .mv (.t 82), none⟩])
  (.seq (.seq (.ops [⟨(some 83), .mv (.t 15), none⟩, ⟨(some 84), .call 19 [(.t 83)], none⟩, ⟨(some 85), .bin .neq (.t 84) (.c (.int .i64 0)), none⟩])
  (.cond (.t 85) (.seq (.ops [⟨(some 86), .mv (.t 14), none⟩, ⟨(some 87), .bin .eql (.t 86) (.c (.int .i64 0)), none⟩, ⟨(some 88), .mv (.t 87), none⟩, ⟨(some 89), .mv (.t 18), (some (88, true))⟩, ⟨(some 90), .call 19 [(.t 89)], (some (88, true))⟩, ⟨(some 91), .bin .neq (.t 90) (.c (.int .i64 0)), (some (88, true))⟩, ⟨(some 92), .mv (.t 91), (some (88, true))⟩, ⟨(some 93), .mv (.t 21), (some (92, false))⟩, ⟨(some 94), .call 19 [(.t 93)], (some (92, false))⟩, ⟨(some 95), .bin .neq (.t 94) (.c (.int .i64 0)), (some (92, false))⟩, ⟨(some 96), .pick (.t 92) (.c (.bool true)) (.t 95), (some (88, true))⟩, ⟨(some 97), .pick (.t 88) (.t 96) (.c (.bool false)), none⟩, ⟨(some 8), .mv (.t 97), none⟩])
  .ret) .skip))
  (.seq (.ops [⟨(some 98), .mv (.t 14), none⟩, ⟨(some 99), .mv (.t 17), none⟩, ⟨(some 100), .bin .sub (.t 98) (.t 99), none⟩, ⟨(some 101), .mv (.t 20), none⟩, ⟨(some 102), .bin .sub (.t 100) (.t 101), none⟩, ⟨(some 22), .mv (.t 102), none⟩])
  (.seq (.ops [⟨(some 23), .mv (.c (.int .i64 1000)), none⟩])
  (.seq (.seq (.ops [⟨(some 24), .mv (.c (.int .i64 0)), none⟩])
  (.block 0 (.loop (.seq (.seq (.ops [⟨(some 103), .mv (.t 24), none⟩, ⟨(some 104), .mv (.t 10), none⟩, ⟨(some 105), .len false (.t 104), none⟩, ⟨(some 106), .bin .lss (.t 103) (.t 105), none⟩])
  (.cond (.t 106) .skip (.exit 0)))
  (.seq (.block 1 (.seq (.dops [⟨⟨(some 110), .loadN 3 (.t 9), none⟩, 0, false, false⟩, ⟨⟨(some 111), .mv (.t 13), none⟩, 1, false, false⟩, ⟨⟨(some 112), .mv (.t 10), none⟩, 2, false, false⟩, ⟨⟨(some 113), .mv (.t 24), none⟩, 3, false, false⟩, ⟨⟨(some 114), .iaS 1 (.t 112) (.t 113), none⟩, 4, false, false⟩, ⟨⟨(some 115), .load1 (.t 114), none⟩, 5, false, false⟩, ⟨⟨(some 116), .call 28 [(.t 110), (.t 111), (.t 115), (.c (.int .i64 1))], none⟩, 6, true, false⟩, ⟨⟨(some 109), .mv (.t 116), none⟩, 7, false, false⟩, ⟨⟨(some 117), .ext (.t 109) 0, none⟩, 8, false, false⟩, ⟨⟨(some 118), .ext (.t 109) 1, none⟩, 9, false, false⟩, ⟨⟨(some 119), .ext (.t 109) 2, none⟩, 10, false, false⟩, ⟨⟨(some 25), .mv (.t 117), none⟩, 11, false, false⟩, ⟨⟨(some 26), .mv (.t 118), none⟩, 12, false, false⟩, ⟨⟨(some 27), .mv (.t 119), none⟩, 13, false, false⟩])
  (.seq (.seq (.ops [⟨(some 120), .mv (.t 27), none⟩, ⟨(some 121), .call 19 [(.t 120)], none⟩, ⟨(some 122), .bin .neq (.t 121) (.c (.int .i64 0)), none⟩])
  (.cond (.t 122) (.seq (.ops [⟨(some 8), .mv (.c (.bool false)), none⟩])
  .ret) .skip))
  (.ops [⟨(some 123), .mv (.t 23), none⟩, ⟨(some 124), .mv (.t 26), none⟩, ⟨(some 125), .min2 (.t 123) (.t 124), none⟩, ⟨(some 23), .mv (.t 125), none⟩]))))
  (.ops [⟨(some 107), .mv (.t 24), none⟩, ⟨(some 108), .bin .add (.t 107) (.c (.int .i64 1)), none⟩, ⟨(some 24), .mv (.t 108), none⟩]))))))
  (.seq (.ops [⟨(some 126), .mv (.t 18), none⟩, ⟨(some 127), .call 19 [(.t 126)], none⟩, ⟨(some 128), .bin .eql (.t 127) (.c (.int .i64 0)), none⟩, ⟨(some 129), .mv (.t 128), none⟩, ⟨(some 130), .mv (.t 21), (some (129, true))⟩, ⟨(some 131), .call 19 [(.t 130)], (some (129, true))⟩, ⟨(some 132), .bin .eql (.t 131) (.c (.int .i64 0)), (some (129, true))⟩, ⟨(some 133), .pick (.t 129) (.t 132) (.c (.bool false)), none⟩, ⟨(some 134), .mv (.t 133), none⟩, ⟨(some 135), .mv (.t 22), (some (134, true))⟩, ⟨(some 136), .mv (.t 23), (some (134, true))⟩, ⟨(some 137), .bin .eql (.t 135) (.t 136), (some (134, true))⟩, ⟨(some 138), .pick (.t 134) (.t 137) (.c (.bool false)), none⟩, ⟨(some 8), .mv (.t 138), none⟩])
  .ret)))))))))))))
def r14 : List RV := [.t 8]
theorem fn14 : cFn Tryd.prog 14 = some (c14, r14, 139) := by kernel_rfl

/-- dynamo/dynamolaw16.awake -/
def c15 : MC :=
  (.seq (.ops [⟨(some 0), .mv (.c (.bool false)), none⟩])
  (.seq (.ops [⟨(some 4), .bld [(.int .i64 0), (.int .i64 0), (.string ⟨#[]⟩)] [(0, 1, (.c (.int .i64 2))), (1, 1, (.c (.int .i64 1))), (2, 1, (.c (.string ⟨#[46, 67]⟩)))], none⟩, ⟨(some 5), .bsl 1 1 [(.int .i64 0)] [(0, (.c (.int .i64 1)))], none⟩, ⟨(some 6), .call 16 [(.t 4), (.t 5), (.c (.int .i64 2))], none⟩, ⟨(some 3), .mv (.t 6), none⟩, ⟨(some 7), .ext (.t 3) 0, none⟩, ⟨(some 8), .ext (.t 3) 1, none⟩, ⟨(some 1), .mv (.t 7), none⟩, ⟨(some 2), .mv (.t 8), none⟩])
  (.seq (.ops [⟨(some 9), .mv (.t 2), none⟩, ⟨(some 10), .call 19 [(.t 9)], none⟩, ⟨(some 11), .bin .eql (.t 10) (.c (.int .i64 0)), none⟩, ⟨(some 12), .mv (.t 11), none⟩, ⟨(some 13), .mv (.t 1), (some (12, true))⟩, ⟨(some 14), .len false (.t 13), (some (12, true))⟩, ⟨(some 15), .bin .eql (.t 14) (.c (.int .i64 2)), (some (12, true))⟩, ⟨(some 16), .pick (.t 12) (.t 15) (.c (.bool false)), none⟩, ⟨(some 17), .mv (.t 16), none⟩, ⟨(some 18), .mv (.t 1), (some (17, true))⟩, ⟨(some 19), .iaS 1 (.t 18) (.c (.int .i64 0)), (some (17, true))⟩, ⟨(some 20), .load1 (.t 19), (some (17, true))⟩, ⟨(some 21), .bin .eql (.t 20) (.c (.int .i64 2)), (some (17, true))⟩, ⟨(some 22), .pick (.t 17) (.t 21) (.c (.bool false)), none⟩, ⟨(some 23), .mv (.t 22), none⟩, ⟨(some 24), .mv (.t 1), (some (23, true))⟩, ⟨(some 25), .iaS 1 (.t 24) (.c (.int .i64 1)), (some (23, true))⟩, ⟨(some 26), .load1 (.t 25), (some (23, true))⟩, ⟨(some 27), .bin .eql (.t 26) (.c (.int .i64 0)), (some (23, true))⟩, ⟨(some 28), .pick (.t 23) (.t 27) (.c (.bool false)), none⟩, ⟨(some 0), .mv (.t 28), none⟩])
  .ret)))
def r15 : List RV := [.t 0]
theorem fn15 : cFn Tryd.prog 15 = some (c15, r15, 29) := by kernel_rfl

/-- dynamo/field.Costs -/
def c16 : MC :=
  (.seq (.ops [⟨(some 3), .box (.t 0), none⟩, ⟨(some 6), .mv (.c (.slice none 0 0)), none⟩, ⟨(some 7), .mv (.c .nilIface), none⟩])
  (.seq (.seq (.ops [⟨(some 16), .loadN 3 (.t 3), none⟩, ⟨(some 17), .call 35 [(.t 16)], none⟩, ⟨(some 18), .not (.t 17), none⟩, ⟨(some 19), .mv (.t 18), none⟩, ⟨(some 20), .mv (.t 2), (some (19, false))⟩, ⟨(some 21), .bin .lss (.t 20) (.c (.int .i64 1)), (some (19, false))⟩, ⟨(some 22), .pick (.t 19) (.c (.bool true)) (.t 21), none⟩, ⟨(some 23), .mv (.t 22), none⟩, ⟨(some 24), .mv (.t 2), (some (23, false))⟩, ⟨(some 25), .bin .gtr (.t 24) (.c (.int .i64 100)), (some (23, false))⟩, ⟨(some 26), .pick (.t 23) (.c (.bool true)) (.t 25), none⟩, ⟨(some 27), .mv (.t 26), none⟩, ⟨(some 28), .mv (.t 1), (some (27, false))⟩, ⟨(some 29), .len false (.t 28), (some (27, false))⟩, ⟨(some 30), .bin .gtr (.t 29) (.c (.int .i64 64)), (some (27, false))⟩, ⟨(some 31), .pick (.t 27) (.c (.bool true)) (.t 30), none⟩])
  (.cond (.t 31) (.seq (.ops [⟨(some 32), .mki 61 (.c (.int .i64 1)), none⟩, ⟨(some 33), .call 36 [(.c (.string ⟨#[102, 105, 101, 108, 100]⟩)), (.t 32)], none⟩, ⟨(some 6), .mv (.c (.slice none 0 0)), none⟩, ⟨(some 7), .mv (.t 33), none⟩])
  .ret) .skip))
  (.seq (.ops [⟨(some 34), .bsl 1 1 [(.int .i64 0)] [(0, (.c (.int .i64 (-1))))], none⟩, ⟨(some 35), .fadd 2 (.t 3), none⟩, ⟨(some 36), .load1 (.t 35), none⟩, ⟨(some 37), .len true (.t 36), none⟩, ⟨(some 38), .call 37 [(.t 34), (.t 37)], none⟩, ⟨(some 8), .mv (.t 38), none⟩])
  (.seq (.ops [⟨(some 39), .call 38 [], none⟩, ⟨(some 9), .mv (.t 39), none⟩])
  (.seq (.seq (.ops [⟨(some 40), .mv (.t 1), none⟩, ⟨(some 41), .len false (.t 40), none⟩, ⟨(some 42), .mv (.c (.int .i64 0)), none⟩])
  (.block 0 (.loop (.seq (.ops [⟨(some 43), .bin .lss (.t 42) (.t 41), none⟩])
  (.seq (.cond (.t 43) .skip (.exit 0))
  (.seq (.block 1 (.seq (.ops [⟨(some 44), .iaS 1 (.t 40) (.t 42), none⟩, ⟨(some 45), .load1 (.t 44), none⟩, ⟨(some 11), .mv (.t 45), none⟩])
  (.seq (.ops [⟨(some 46), .loadN 3 (.t 3), none⟩, ⟨(some 47), .mv (.t 11), none⟩, ⟨(some 48), .call 39 [(.t 46), (.t 47)], none⟩])
  (.cond (.t 48) (.ops [⟨(some 49), .mv (.t 9), none⟩, ⟨(some 50), .mv (.t 11), none⟩, ⟨(some 51), .bld [(.int .i64 0), (.int .i64 0)] [(1, 1, (.t 50))], none⟩, ⟨(some 52), .call 40 [(.t 49), (.t 51)], none⟩]) .skip))))
  (.ops [⟨(some 53), .bin .add (.t 42) (.c (.int .i64 1)), none⟩, ⟨(some 42), .mv (.t 53), none⟩])))))))
  (.seq .skip
  (.seq (.block 2 (.loop (.block 3 (.seq (.ops [⟨(some 55), .mv (.t 9), none⟩, ⟨(some 56), .call 41 [(.t 55)], none⟩, ⟨(some 54), .mv (.t 56), none⟩, ⟨(some 57), .ext (.t 54) 0, none⟩, ⟨(some 58), .ext (.t 54) 1, none⟩, ⟨(some 12), .alloc [(.int .i64 0), (.int .i64 0)], none⟩, ⟨none, .store 2 (.t 12) (.t 57), none⟩, ⟨(some 13), .mv (.t 58), none⟩])
  (.seq (.seq (.ops [⟨(some 59), .mv (.t 13), none⟩, ⟨(some 60), .not (.t 59), none⟩])
  (.cond (.t 60) (.exit 2) .skip))
  (.seq (.seq (.ops [⟨(some 61), .mv (.t 8), none⟩, ⟨(some 62), .fadd 1 (.t 12), none⟩, ⟨(some 63), .load1 (.t 62), none⟩, ⟨(some 64), .iaS 1 (.t 61) (.t 63), none⟩, ⟨(some 65), .load1 (.t 64), none⟩, ⟨(some 66), .bin .geq (.t 65) (.c (.int .i64 0)), none⟩])
  (.cond (.t 66) (.exit 3) .skip))
  (.seq (.ops [⟨(some 67), .mv (.t 8), none⟩, ⟨(some 68), .fadd 1 (.t 12), none⟩, ⟨(some 69), .load1 (.t 68), none⟩, ⟨(some 70), .fadd 0 (.t 12), none⟩, ⟨(some 71), .load1 (.t 70), none⟩, ⟨(some 72), .iaS 1 (.t 67) (.t 69), none⟩, ⟨none, .store 1 (.t 72) (.t 71), none⟩])
  (.seq (.ops [⟨(some 73), .loadN 3 (.t 3), none⟩, ⟨(some 74), .fadd 1 (.t 12), none⟩, ⟨(some 75), .load1 (.t 74), none⟩, ⟨(some 76), .call 23 [(.t 73), (.t 75)], none⟩, ⟨(some 77), .len false (.t 76), none⟩, ⟨(some 78), .mv (.c (.int .i64 0)), none⟩])
  (.block 4 (.loop (.seq (.ops [⟨(some 79), .bin .lss (.t 78) (.t 77), none⟩])
  (.seq (.cond (.t 79) .skip (.exit 4))
  (.seq (.block 5 (.seq (.ops [⟨(some 80), .iaS 1 (.t 76) (.t 78), none⟩, ⟨(some 81), .load1 (.t 80), none⟩, ⟨(some 15), .mv (.t 81), none⟩])
  (.ops [⟨(some 82), .mv (.t 9), none⟩, ⟨(some 83), .fadd 0 (.t 12), none⟩, ⟨(some 84), .load1 (.t 83), none⟩, ⟨(some 85), .mv (.t 2), none⟩, ⟨(some 86), .bin .add (.t 84) (.t 85), none⟩, ⟨(some 87), .mv (.t 15), none⟩, ⟨(some 88), .bld [(.int .i64 0), (.int .i64 0)] [(0, 1, (.t 86)), (1, 1, (.t 87))], none⟩, ⟨(some 89), .call 40 [(.t 82), (.t 88)], none⟩])))
  (.ops [⟨(some 90), .bin .add (.t 78) (.c (.int .i64 1)), none⟩, ⟨(some 78), .mv (.t 90), none⟩]))))))))))))))
  (.seq (.ops [⟨(some 91), .mv (.t 8), none⟩, ⟨(some 6), .mv (.t 91), none⟩, ⟨(some 7), .mv (.c .nilIface), none⟩])
  .ret))))))))
def r16 : List RV := [.t 6, .t 7]
theorem fn16 : cFn Tryd.prog 16 = some (c16, r16, 92) := by kernel_rfl

/-- dynamo/dynamolaw14.Of -/
def c17 : MC :=
  (.seq (.ops [⟨(some 1), .box (.t 0), none⟩, ⟨(some 2), .alloc [(.int .i64 0), (.int .i64 0), (.string ⟨#[]⟩)], none⟩])
  (.seq (.ops [⟨(some 3), .fadd 0 (.t 1), none⟩, ⟨(some 4), .load1 (.t 3), none⟩, ⟨(some 5), .fadd 1 (.t 1), none⟩, ⟨(some 6), .load1 (.t 5), none⟩, ⟨(some 7), .fadd 2 (.t 1), none⟩, ⟨(some 8), .load1 (.t 7), none⟩, ⟨(some 9), .bld [(.int .i64 0), (.int .i64 0), (.string ⟨#[]⟩)] [(0, 1, (.t 4)), (1, 1, (.t 6)), (2, 1, (.t 8))], none⟩, ⟨none, .store 3 (.t 2) (.t 9), none⟩])
  .ret))
def r17 : List RV := [.cell 2 3 true]
theorem fn17 : cFn Tryd.prog 17 = some (c17, r17, 10) := by kernel_rfl

/-- dynamo/dynamoref14.Right -/
def c18 : MC :=
  (.seq (.ops [⟨(some 1), .box (.t 0), none⟩, ⟨(some 2), .mv (.c (.bool false)), none⟩])
  (.seq (.seq (.ops [⟨(some 11), .fadd 0 (.t 1), none⟩, ⟨(some 12), .load1 (.t 11), none⟩, ⟨(some 13), .bin .lss (.t 12) (.c (.int .i64 1)), none⟩, ⟨(some 14), .mv (.t 13), none⟩, ⟨(some 15), .fadd 0 (.t 1), (some (14, false))⟩, ⟨(some 16), .load1 (.t 15), (some (14, false))⟩, ⟨(some 17), .bin .gtr (.t 16) (.c (.int .i64 8)), (some (14, false))⟩, ⟨(some 18), .pick (.t 14) (.c (.bool true)) (.t 17), none⟩, ⟨(some 19), .mv (.t 18), none⟩, ⟨(some 20), .fadd 1 (.t 1), (some (19, false))⟩, ⟨(some 21), .load1 (.t 20), (some (19, false))⟩, ⟨(some 22), .bin .lss (.t 21) (.c (.int .i64 1)), (some (19, false))⟩, ⟨(some 23), .pick (.t 19) (.c (.bool true)) (.t 22), none⟩, ⟨(some 24), .mv (.t 23), none⟩, ⟨(some 25), .fadd 1 (.t 1), (some (24, false))⟩, ⟨(some 26), .load1 (.t 25), (some (24, false))⟩, ⟨(some 27), .bin .gtr (.t 26) (.c (.int .i64 8)), (some (24, false))⟩, ⟨(some 28), .pick (.t 24) (.c (.bool true)) (.t 27), none⟩, ⟨(some 29), .mv (.t 28), none⟩, ⟨(some 30), .fadd 2 (.t 1), (some (29, false))⟩, ⟨(some 31), .load1 (.t 30), (some (29, false))⟩, ⟨(some 32), .len true (.t 31), (some (29, false))⟩, ⟨(some 33), .fadd 0 (.t 1), (some (29, false))⟩, ⟨(some 34), .load1 (.t 33), (some (29, false))⟩, ⟨(some 35), .fadd 1 (.t 1), (some (29, false))⟩, ⟨(some 36), .load1 (.t 35), (some (29, false))⟩, ⟨(some 37), .bin .mul (.t 34) (.t 36), (some (29, false))⟩, ⟨(some 38), .bin .neq (.t 32) (.t 37), (some (29, false))⟩, ⟨(some 39), .pick (.t 29) (.c (.bool true)) (.t 38), none⟩])
  (.cond (.t 39) (.seq (.ops [⟨(some 2), .mv (.c (.bool false)), none⟩])
  .ret) .skip))
  (.seq (.ops [⟨(some 40), .fadd 2 (.t 1), none⟩, ⟨(some 41), .load1 (.t 40), none⟩, ⟨(some 42), .len true (.t 41), none⟩, ⟨(some 43), .mks 1 1 [(.bool false)] (.t 42) (.t 42), none⟩, ⟨(some 3), .mv (.t 43), none⟩])
  (.seq (.ops [⟨(some 4), .mv (.c (.bool false)), none⟩])
  (.seq (.seq (.ops [⟨(some 5), .mv (.c (.int .i64 0)), none⟩])
  (.block 0 (.loop (.seq (.seq (.ops [⟨(some 44), .mv (.t 5), none⟩, ⟨(some 45), .fadd 2 (.t 1), none⟩, ⟨(some 46), .load1 (.t 45), none⟩, ⟨(some 47), .len true (.t 46), none⟩, ⟨(some 48), .bin .lss (.t 44) (.t 47), none⟩])
  (.cond (.t 48) .skip (.exit 0)))
  (.seq (.block 1 (.seq (.ops [⟨(some 51), .fadd 2 (.t 1), none⟩, ⟨(some 52), .load1 (.t 51), none⟩, ⟨(some 53), .mv (.t 5), none⟩, ⟨(some 54), .idxS (.t 52) (.t 53), none⟩, ⟨(some 6), .mv (.t 54), none⟩])
  (.seq (.seq (.ops [⟨(some 55), .mv (.t 6), none⟩, ⟨(some 56), .bin .neq (.t 55) (.c (.int .u8 35)), none⟩, ⟨(some 57), .mv (.t 56), none⟩, ⟨(some 58), .mv (.t 6), (some (57, true))⟩, ⟨(some 59), .bin .neq (.t 58) (.c (.int .u8 46)), (some (57, true))⟩, ⟨(some 60), .pick (.t 57) (.t 59) (.c (.bool false)), none⟩, ⟨(some 61), .mv (.t 60), none⟩, ⟨(some 62), .mv (.t 6), (some (61, true))⟩, ⟨(some 63), .bin .neq (.t 62) (.c (.int .u8 67)), (some (61, true))⟩, ⟨(some 64), .pick (.t 61) (.t 63) (.c (.bool false)), none⟩, ⟨(some 65), .mv (.t 64), none⟩, ⟨(some 66), .mv (.t 6), (some (65, true))⟩, ⟨(some 67), .bin .neq (.t 66) (.c (.int .u8 80)), (some (65, true))⟩, ⟨(some 68), .pick (.t 65) (.t 67) (.c (.bool false)), none⟩])
  (.cond (.t 68) (.seq (.ops [⟨(some 2), .mv (.c (.bool false)), none⟩])
  .ret) .skip))
  (.seq (.ops [⟨(some 69), .mv (.t 6), none⟩, ⟨(some 70), .bin .eql (.t 69) (.c (.int .u8 67)), none⟩, ⟨(some 71), .mv (.t 70), none⟩, ⟨(some 72), .mv (.t 4), (some (71, true))⟩, ⟨(some 73), .not (.t 72), (some (71, true))⟩, ⟨(some 74), .pick (.t 71) (.t 73) (.c (.bool false)), none⟩])
  (.cond (.t 74) (.seq (.ops [⟨(some 75), .mv (.t 3), none⟩, ⟨(some 76), .mv (.t 5), none⟩, ⟨(some 77), .iaS 1 (.t 75) (.t 76), none⟩, ⟨none, .store 1 (.t 77) (.c (.bool true)), none⟩])
  (.ops [⟨(some 4), .mv (.c (.bool true)), none⟩])) .skip)))))
  (.ops [⟨(some 49), .mv (.t 5), none⟩, ⟨(some 50), .bin .add (.t 49) (.c (.int .i64 1)), none⟩, ⟨(some 5), .mv (.t 50), none⟩]))))))
  (.seq (.seq (.ops [⟨(some 7), .mv (.c (.int .i64 0)), none⟩])
  (.block 2 (.loop (.seq (.seq (.ops [⟨(some 78), .mv (.t 7), none⟩, ⟨(some 79), .mv (.t 3), none⟩, ⟨(some 80), .len false (.t 79), none⟩, ⟨(some 81), .bin .lss (.t 78) (.t 80), none⟩])
  (.cond (.t 81) .skip (.exit 2)))
  (.seq (.block 3 (.seq (.ops [⟨(some 8), .mv (.c (.int .i64 0)), none⟩])
  (.block 4 (.loop (.seq (.seq (.ops [⟨(some 84), .mv (.t 8), none⟩, ⟨(some 85), .mv (.t 3), none⟩, ⟨(some 86), .len false (.t 85), none⟩, ⟨(some 87), .bin .lss (.t 84) (.t 86), none⟩])
  (.cond (.t 87) .skip (.exit 4)))
  (.seq (.block 5 (.seq (.ops [⟨(some 9), .mv (.c (.int .i64 0)), none⟩])
  (.block 6 (.loop (.seq (.seq (.ops [⟨(some 90), .mv (.t 9), none⟩, ⟨(some 91), .mv (.t 3), none⟩, ⟨(some 92), .len false (.t 91), none⟩, ⟨(some 93), .bin .lss (.t 90) (.t 92), none⟩, ⟨(some 94), .mv (.t 93), none⟩, ⟨(some 95), .fadd 2 (.t 1), (some (94, true))⟩, ⟨(some 96), .load1 (.t 95), (some (94, true))⟩, ⟨(some 97), .mv (.t 8), (some (94, true))⟩, ⟨(some 98), .idxS (.t 96) (.t 97), (some (94, true))⟩, ⟨(some 99), .bin .neq (.t 98) (.c (.int .u8 35)), (some (94, true))⟩, ⟨(some 100), .pick (.t 94) (.t 99) (.c (.bool false)), none⟩])
  (.cond (.t 100) .skip (.exit 6)))
  (.seq (.block 7 (.seq (.ops [⟨(some 103), .mv (.t 3), none⟩, ⟨(some 104), .mv (.t 9), none⟩, ⟨(some 105), .iaS 1 (.t 103) (.t 104), none⟩, ⟨(some 106), .load1 (.t 105), none⟩, ⟨(some 107), .mv (.t 106), none⟩, ⟨(some 108), .fadd 0 (.t 1), (some (107, true))⟩, ⟨(some 109), .load1 (.t 108), (some (107, true))⟩, ⟨(some 110), .mv (.t 8), (some (107, true))⟩, ⟨(some 111), .mv (.t 9), (some (107, true))⟩, ⟨(some 112), .call 30 [(.t 109), (.t 110), (.t 111)], (some (107, true))⟩, ⟨(some 113), .pick (.t 107) (.t 112) (.c (.bool false)), none⟩])
  (.cond (.t 113) (.ops [⟨(some 114), .mv (.t 3), none⟩, ⟨(some 115), .mv (.t 8), none⟩, ⟨(some 116), .iaS 1 (.t 114) (.t 115), none⟩, ⟨none, .store 1 (.t 116) (.c (.bool true)), none⟩]) .skip)))
  (.ops [⟨(some 101), .mv (.t 9), none⟩, ⟨(some 102), .bin .add (.t 101) (.c (.int .i64 1)), none⟩, ⟨(some 9), .mv (.t 102), none⟩])))))))
  (.ops [⟨(some 88), .mv (.t 8), none⟩, ⟨(some 89), .bin .add (.t 88) (.c (.int .i64 1)), none⟩, ⟨(some 8), .mv (.t 89), none⟩])))))))
  (.ops [⟨(some 82), .mv (.t 7), none⟩, ⟨(some 83), .bin .add (.t 82) (.c (.int .i64 1)), none⟩, ⟨(some 7), .mv (.t 83), none⟩]))))))
  (.seq (.seq (.ops [⟨(some 10), .mv (.c (.int .i64 0)), none⟩])
  (.block 8 (.loop (.seq (.seq (.ops [⟨(some 117), .mv (.t 10), none⟩, ⟨(some 118), .mv (.t 3), none⟩, ⟨(some 119), .len false (.t 118), none⟩, ⟨(some 120), .bin .lss (.t 117) (.t 119), none⟩])
  (.cond (.t 120) .skip (.exit 8)))
  (.seq (.block 9 (.seq (.ops [⟨(some 123), .mv (.t 3), none⟩, ⟨(some 124), .mv (.t 10), none⟩, ⟨(some 125), .iaS 1 (.t 123) (.t 124), none⟩, ⟨(some 126), .load1 (.t 125), none⟩, ⟨(some 127), .not (.t 126), none⟩, ⟨(some 128), .mv (.t 127), none⟩, ⟨(some 129), .fadd 2 (.t 1), (some (128, true))⟩, ⟨(some 130), .load1 (.t 129), (some (128, true))⟩, ⟨(some 131), .mv (.t 10), (some (128, true))⟩, ⟨(some 132), .idxS (.t 130) (.t 131), (some (128, true))⟩, ⟨(some 133), .bin .neq (.t 132) (.c (.int .u8 35)), (some (128, true))⟩, ⟨(some 134), .pick (.t 128) (.t 133) (.c (.bool false)), none⟩])
  (.cond (.t 134) (.seq (.ops [⟨(some 2), .mv (.c (.bool false)), none⟩])
  .ret) .skip)))
  (.ops [⟨(some 121), .mv (.t 10), none⟩, ⟨(some 122), .bin .add (.t 121) (.c (.int .i64 1)), none⟩, ⟨(some 10), .mv (.t 122), none⟩]))))))
  (.seq (.ops [⟨(some 135), .mv (.t 4), none⟩, ⟨(some 2), .mv (.t 135), none⟩])
  .ret))))))))
def r18 : List RV := [.t 2]
theorem fn18 : cFn Tryd.prog 18 = some (c18, r18, 136) := by kernel_rfl

/-- dynamo/tag.Num -/
def c19 : MC :=
  (.seq (.ops [⟨(some 2), .mv (.c (.int .i64 0)), none⟩])
  (.seq (.seq (.ops [⟨(some 4), .mv (.t 0), none⟩, ⟨(some 5), .eqN .iface false (.t 4) (.c .nilIface), none⟩])
  (.cond (.t 5) (.seq (.ops [⟨(some 2), .mv (.c (.int .i64 0)), none⟩])
  .ret) .skip))
  (.seq (.ops [⟨(some 3), .alloc [(.int .i64 0)], none⟩])
  (.seq (.seq (.ops [⟨(some 6), .mv (.t 0), none⟩, ⟨(some 7), .mki 72 (.t 3), none⟩, ⟨(some 8), .call 42 [(.t 6), (.t 7)], none⟩])
  (.cond (.t 8) (.seq (.ops [⟨(some 9), .load1 (.t 3), none⟩, ⟨(some 2), .mv (.t 9), none⟩])
  .ret) .skip))
  (.seq (.ops [⟨(some 2), .mv (.c (.int .i64 (-1))), none⟩])
  .ret)))))
def r19 : List RV := [.t 2]
theorem fn19 : cFn Tryd.prog 19 = some (c19, r19, 10) := by kernel_rfl

/-- dynamo/dynamolaw16.ints -/
def c20 : MC :=
  (.seq (.ops [⟨(some 4), .mv (.c (.int .i64 0)), none⟩])
  (.seq (.seq (.ops [⟨(some 6), .mv (.t 0), none⟩, ⟨(some 7), .len false (.t 6), none⟩, ⟨(some 8), .mv (.t 1), none⟩, ⟨(some 9), .len false (.t 8), none⟩, ⟨(some 10), .bin .neq (.t 7) (.t 9), none⟩])
  (.cond (.t 10) (.seq (.ops [⟨(some 4), .mv (.c (.int .i64 0)), none⟩])
  .ret) .skip))
  (.seq (.seq (.ops [⟨(some 5), .mv (.c (.int .i64 0)), none⟩])
  (.block 0 (.loop (.seq (.seq (.ops [⟨(some 11), .mv (.t 5), none⟩, ⟨(some 12), .mv (.t 0), none⟩, ⟨(some 13), .len false (.t 12), none⟩, ⟨(some 14), .bin .lss (.t 11) (.t 13), none⟩])
  (.cond (.t 14) .skip (.exit 0)))
  (.seq (.block 1 (.seq (.dops [⟨⟨(some 17), .mv (.t 0), none⟩, 0, false, false⟩, ⟨⟨(some 18), .mv (.t 5), none⟩, 1, false, false⟩, ⟨⟨(some 19), .iaS 1 (.t 17) (.t 18), none⟩, 2, false, false⟩, ⟨⟨(some 20), .load1 (.t 19), none⟩, 3, false, false⟩, ⟨⟨(some 21), .mv (.t 1), none⟩, 4, false, false⟩, ⟨⟨(some 22), .mv (.t 5), none⟩, 5, false, false⟩, ⟨⟨(some 23), .iaS 1 (.t 21) (.t 22), none⟩, 6, false, false⟩, ⟨⟨(some 24), .load1 (.t 23), none⟩, 7, false, false⟩, ⟨⟨(some 25), .bin .neq (.t 20) (.t 24), none⟩, 8, false, false⟩])
  (.cond (.t 25) (.seq (.ops [⟨(some 4), .mv (.c (.int .i64 0)), none⟩])
  .ret) .skip)))
  (.ops [⟨(some 15), .mv (.t 5), none⟩, ⟨(some 16), .bin .add (.t 15) (.c (.int .i64 1)), none⟩, ⟨(some 5), .mv (.t 16), none⟩]))))))
  (.seq (.ops [⟨(some 4), .mv (.c (.int .i64 1)), none⟩])
  .ret))))
def r20 : List RV := [.t 4]
theorem fn20 : cFn Tryd.prog 20 = some (c20, r20, 26) := by kernel_rfl

/-- dynamo/dynamoref16.Costs -/
def c21 : MC :=
  (.seq (.ops [⟨(some 3), .box (.t 0), none⟩, ⟨(some 6), .mv (.c (.slice none 0 0)), none⟩])
  (.seq (.ops [⟨(some 14), .fadd 2 (.t 3), none⟩, ⟨(some 15), .load1 (.t 14), none⟩, ⟨(some 16), .len true (.t 15), none⟩, ⟨(some 7), .mv (.t 16), none⟩])
  (.seq (.ops [⟨(some 17), .mv (.t 7), none⟩, ⟨(some 18), .mks 1 8 [(.int .i64 0)] (.t 17) (.t 17), none⟩, ⟨(some 8), .mv (.t 18), none⟩])
  (.seq (.seq (.ops [⟨(some 9), .mv (.c (.int .i64 0)), none⟩])
  (.block 0 (.loop (.seq (.seq (.ops [⟨(some 19), .mv (.t 9), none⟩, ⟨(some 20), .mv (.t 7), none⟩, ⟨(some 21), .bin .lss (.t 19) (.t 20), none⟩])
  (.cond (.t 21) .skip (.exit 0)))
  (.seq (.block 1 (.seq (.ops [⟨(some 24), .mv (.t 8), none⟩, ⟨(some 25), .mv (.t 9), none⟩, ⟨(some 26), .iaS 1 (.t 24) (.t 25), none⟩, ⟨none, .store 1 (.t 26) (.c (.int .i64 (-1))), none⟩])
  (.seq (.ops [⟨(some 10), .mv (.c (.int .i64 0)), none⟩])
  (.block 2 (.loop (.seq (.seq (.ops [⟨(some 27), .mv (.t 10), none⟩, ⟨(some 28), .mv (.t 1), none⟩, ⟨(some 29), .len false (.t 28), none⟩, ⟨(some 30), .bin .lss (.t 27) (.t 29), none⟩])
  (.cond (.t 30) .skip (.exit 2)))
  (.seq (.block 3 (.seq (.ops [⟨(some 33), .mv (.t 1), none⟩, ⟨(some 34), .mv (.t 10), none⟩, ⟨(some 35), .iaS 1 (.t 33) (.t 34), none⟩, ⟨(some 36), .load1 (.t 35), none⟩, ⟨(some 37), .mv (.t 9), none⟩, ⟨(some 38), .bin .eql (.t 36) (.t 37), none⟩, ⟨(some 39), .mv (.t 38), none⟩, ⟨(some 40), .fadd 2 (.t 3), (some (39, true))⟩, ⟨(some 41), .load1 (.t 40), (some (39, true))⟩, ⟨(some 42), .mv (.t 9), (some (39, true))⟩, ⟨(some 43), .idxS (.t 41) (.t 42), (some (39, true))⟩, ⟨(some 44), .bin .neq (.t 43) (.c (.int .u8 35)), (some (39, true))⟩, ⟨(some 45), .pick (.t 39) (.t 44) (.c (.bool false)), none⟩])
  (.cond (.t 45) (.ops [⟨(some 46), .mv (.t 8), none⟩, ⟨(some 47), .mv (.t 9), none⟩, ⟨(some 48), .iaS 1 (.t 46) (.t 47), none⟩, ⟨none, .store 1 (.t 48) (.c (.int .i64 0)), none⟩]) .skip)))
  (.ops [⟨(some 31), .mv (.t 10), none⟩, ⟨(some 32), .bin .add (.t 31) (.c (.int .i64 1)), none⟩, ⟨(some 10), .mv (.t 32), none⟩]))))))))
  (.ops [⟨(some 22), .mv (.t 9), none⟩, ⟨(some 23), .bin .add (.t 22) (.c (.int .i64 1)), none⟩, ⟨(some 9), .mv (.t 23), none⟩]))))))
  (.seq (.seq (.ops [⟨(some 11), .mv (.c (.int .i64 0)), none⟩])
  (.block 4 (.loop (.seq (.seq (.ops [⟨(some 49), .mv (.t 11), none⟩, ⟨(some 50), .mv (.t 7), none⟩, ⟨(some 51), .bin .lss (.t 49) (.t 50), none⟩])
  (.cond (.t 51) .skip (.exit 4)))
  (.seq (.block 5 (.seq (.ops [⟨(some 12), .mv (.c (.int .i64 0)), none⟩])
  (.block 6 (.loop (.seq (.seq (.ops [⟨(some 54), .mv (.t 12), none⟩, ⟨(some 55), .mv (.t 7), none⟩, ⟨(some 56), .bin .lss (.t 54) (.t 55), none⟩])
  (.cond (.t 56) .skip (.exit 6)))
  (.seq (.block 7 (.seq (.ops [⟨(some 13), .mv (.c (.int .i64 0)), none⟩])
  (.block 8 (.loop (.seq (.seq (.ops [⟨(some 59), .mv (.t 13), none⟩, ⟨(some 60), .mv (.t 7), none⟩, ⟨(some 61), .bin .lss (.t 59) (.t 60), none⟩, ⟨(some 62), .mv (.t 61), none⟩, ⟨(some 63), .fadd 2 (.t 3), (some (62, true))⟩, ⟨(some 64), .load1 (.t 63), (some (62, true))⟩, ⟨(some 65), .mv (.t 12), (some (62, true))⟩, ⟨(some 66), .idxS (.t 64) (.t 65), (some (62, true))⟩, ⟨(some 67), .bin .neq (.t 66) (.c (.int .u8 35)), (some (62, true))⟩, ⟨(some 68), .pick (.t 62) (.t 67) (.c (.bool false)), none⟩])
  (.cond (.t 68) .skip (.exit 8)))
  (.seq (.block 9 (.seq (.dops [⟨⟨(some 71), .fadd 0 (.t 3), none⟩, 0, false, false⟩, ⟨⟨(some 72), .load1 (.t 71), none⟩, 1, false, false⟩, ⟨⟨(some 73), .mv (.t 12), none⟩, 2, false, false⟩, ⟨⟨(some 74), .mv (.t 13), none⟩, 3, false, false⟩, ⟨⟨(some 75), .call 30 [(.t 72), (.t 73), (.t 74)], none⟩, 4, true, false⟩, ⟨⟨(some 76), .mv (.t 75), none⟩, 5, false, false⟩, ⟨⟨(some 77), .mv (.t 8), (some (76, true))⟩, 6, false, false⟩, ⟨⟨(some 78), .mv (.t 13), (some (76, true))⟩, 7, false, false⟩, ⟨⟨(some 79), .iaS 1 (.t 77) (.t 78), (some (76, true))⟩, 8, false, false⟩, ⟨⟨(some 80), .load1 (.t 79), (some (76, true))⟩, 9, false, false⟩, ⟨⟨(some 81), .bin .geq (.t 80) (.c (.int .i64 0)), (some (76, true))⟩, 10, false, false⟩, ⟨⟨(some 82), .pick (.t 76) (.t 81) (.c (.bool false)), none⟩, 11, false, false⟩, ⟨⟨(some 83), .mv (.t 82), none⟩, 12, false, false⟩, ⟨⟨(some 84), .mv (.t 8), (some (83, true))⟩, 13, false, false⟩, ⟨⟨(some 85), .mv (.t 12), (some (83, true))⟩, 14, false, false⟩, ⟨⟨(some 86), .iaS 1 (.t 84) (.t 85), (some (83, true))⟩, 15, false, false⟩, ⟨⟨(some 87), .load1 (.t 86), (some (83, true))⟩, 16, false, false⟩, ⟨⟨(some 88), .bin .lss (.t 87) (.c (.int .i64 0)), (some (83, true))⟩, 17, false, false⟩, ⟨⟨(some 89), .mv (.t 88), (some (83, true))⟩, 18, false, false⟩, ⟨⟨(some 90), .mv (.t 8), (some (89, false))⟩, 19, false, false⟩, ⟨⟨(some 91), .mv (.t 13), (some (89, false))⟩, 20, false, false⟩, ⟨⟨(some 92), .iaS 1 (.t 90) (.t 91), (some (89, false))⟩, 21, false, false⟩, ⟨⟨(some 93), .load1 (.t 92), (some (89, false))⟩, 22, false, false⟩, ⟨⟨(some 94), .mv (.t 2), (some (89, false))⟩, 23, false, false⟩, ⟨⟨(some 95), .bin .add (.t 93) (.t 94), (some (89, false))⟩, 24, false, false⟩, ⟨⟨(some 96), .mv (.t 8), (some (89, false))⟩, 25, false, false⟩, ⟨⟨(some 97), .mv (.t 12), (some (89, false))⟩, 26, false, false⟩, ⟨⟨(some 98), .iaS 1 (.t 96) (.t 97), (some (89, false))⟩, 27, false, false⟩, ⟨⟨(some 99), .load1 (.t 98), (some (89, false))⟩, 28, false, false⟩, ⟨⟨(some 100), .bin .lss (.t 95) (.t 99), (some (89, false))⟩, 29, false, false⟩, ⟨⟨(some 101), .pick (.t 89) (.c (.bool true)) (.t 100), (some (83, true))⟩, 30, false, false⟩, ⟨⟨(some 102), .pick (.t 83) (.t 101) (.c (.bool false)), none⟩, 31, false, false⟩])
  (.cond (.t 102) (.ops [⟨(some 103), .mv (.t 8), none⟩, ⟨(some 104), .mv (.t 12), none⟩, ⟨(some 105), .mv (.t 8), none⟩, ⟨(some 106), .mv (.t 13), none⟩, ⟨(some 107), .iaS 1 (.t 105) (.t 106), none⟩, ⟨(some 108), .load1 (.t 107), none⟩, ⟨(some 109), .mv (.t 2), none⟩, ⟨(some 110), .bin .add (.t 108) (.t 109), none⟩, ⟨(some 111), .iaS 1 (.t 103) (.t 104), none⟩, ⟨none, .store 1 (.t 111) (.t 110), none⟩]) .skip)))
  (.ops [⟨(some 69), .mv (.t 13), none⟩, ⟨(some 70), .bin .add (.t 69) (.c (.int .i64 1)), none⟩, ⟨(some 13), .mv (.t 70), none⟩])))))))
  (.ops [⟨(some 57), .mv (.t 12), none⟩, ⟨(some 58), .bin .add (.t 57) (.c (.int .i64 1)), none⟩, ⟨(some 12), .mv (.t 58), none⟩])))))))
  (.ops [⟨(some 52), .mv (.t 11), none⟩, ⟨(some 53), .bin .add (.t 52) (.c (.int .i64 1)), none⟩, ⟨(some 11), .mv (.t 53), none⟩]))))))
  (.seq (.ops [⟨(some 112), .mv (.t 8), none⟩, ⟨(some 6), .mv (.t 112), none⟩])
  .ret))))))
def r21 : List RV := [.t 6]
theorem fn21 : cFn Tryd.prog 21 = some (c21, r21, 113) := by kernel_rfl

/-- dynamo/field.Way -/
def c22 : MC :=
  (.seq (.ops [⟨(some 3), .box (.t 0), none⟩, ⟨(some 6), .mv (.c (.slice none 0 0)), none⟩])
  (.seq (.ops [⟨(some 7), .mv (.c (.slice none 0 0)), none⟩])
  (.seq (.seq (.ops [⟨(some 9), .loadN 3 (.t 3), none⟩, ⟨(some 10), .mv (.t 1), none⟩, ⟨(some 11), .mv (.t 2), none⟩, ⟨(some 12), .call 24 [(.t 9), (.t 10), (.t 11)], none⟩, ⟨(some 8), .mv (.t 12), none⟩])
  (.block 0 (.loop (.seq (.seq (.ops [⟨(some 13), .mv (.t 8), none⟩, ⟨(some 14), .len false (.t 13), none⟩, ⟨(some 15), .bin .gtr (.t 14) (.c (.int .i64 0)), none⟩, ⟨(some 16), .mv (.t 15), none⟩, ⟨(some 17), .mv (.t 7), (some (16, true))⟩, ⟨(some 18), .len false (.t 17), (some (16, true))⟩, ⟨(some 19), .bin .lss (.t 18) (.c (.int .i64 64)), (some (16, true))⟩, ⟨(some 20), .pick (.t 16) (.t 19) (.c (.bool false)), none⟩])
  (.cond (.t 20) .skip (.exit 0)))
  (.seq (.block 1 (.seq (.ops [⟨(some 25), .mv (.t 8), none⟩, ⟨(some 26), .iaS 1 (.t 25) (.c (.int .i64 0)), none⟩, ⟨(some 27), .load1 (.t 26), none⟩, ⟨(some 2), .mv (.t 27), none⟩])
  (.ops [⟨(some 28), .mv (.t 7), none⟩, ⟨(some 29), .mv (.t 2), none⟩, ⟨(some 30), .bsl 1 1 [(.int .i64 0)] [(0, (.t 29))], none⟩, ⟨(some 31), .app 1 8 (.t 28) (.t 30), none⟩, ⟨(some 7), .mv (.t 31), none⟩])))
  (.ops [⟨(some 21), .loadN 3 (.t 3), none⟩, ⟨(some 22), .mv (.t 1), none⟩, ⟨(some 23), .mv (.t 2), none⟩, ⟨(some 24), .call 24 [(.t 21), (.t 22), (.t 23)], none⟩, ⟨(some 8), .mv (.t 24), none⟩]))))))
  (.seq (.ops [⟨(some 32), .mv (.t 7), none⟩, ⟨(some 6), .mv (.t 32), none⟩])
  .ret))))
def r22 : List RV := [.t 6]
theorem fn22 : cFn Tryd.prog 22 = some (c22, r22, 33) := by kernel_rfl

/-- dynamo/grid.Near -/
def c23 : MC :=
  (.seq (.ops [⟨(some 2), .box (.t 0), none⟩, ⟨(some 4), .mv (.c (.slice none 0 0)), none⟩])
  (.seq (.seq (.ops [⟨(some 5), .loadN 3 (.t 2), none⟩, ⟨(some 6), .mv (.t 1), none⟩, ⟨(some 7), .call 39 [(.t 5), (.t 6)], none⟩, ⟨(some 8), .not (.t 7), none⟩])
  (.cond (.t 8) (.seq (.ops [⟨(some 4), .mv (.c (.slice none 0 0)), none⟩])
  .ret) .skip))
  (.seq (.ops [⟨(some 9), .loadN 3 (.t 2), none⟩, ⟨(some 10), .mv (.t 1), none⟩, ⟨(some 11), .call 43 [(.t 9), (.t 10)], none⟩, ⟨(some 4), .mv (.t 11), none⟩])
  .ret)))
def r23 : List RV := [.t 4]
theorem fn23 : cFn Tryd.prog 23 = some (c23, r23, 12) := by kernel_rfl

/-- dynamo/field.Down -/
def c24 : MC :=
  (.seq (.ops [⟨(some 3), .box (.t 0), none⟩, ⟨(some 6), .mv (.c (.slice none 0 0)), none⟩])
  (.seq (.seq (.ops [⟨(some 13), .mv (.t 1), none⟩, ⟨(some 14), .len false (.t 13), none⟩, ⟨(some 15), .fadd 2 (.t 3), none⟩, ⟨(some 16), .load1 (.t 15), none⟩, ⟨(some 17), .len true (.t 16), none⟩, ⟨(some 18), .bin .neq (.t 14) (.t 17), none⟩, ⟨(some 19), .mv (.t 18), none⟩, ⟨(some 20), .loadN 3 (.t 3), (some (19, false))⟩, ⟨(some 21), .mv (.t 2), (some (19, false))⟩, ⟨(some 22), .call 39 [(.t 20), (.t 21)], (some (19, false))⟩, ⟨(some 23), .not (.t 22), (some (19, false))⟩, ⟨(some 24), .pick (.t 19) (.c (.bool true)) (.t 23), none⟩, ⟨(some 25), .mv (.t 24), none⟩, ⟨(some 26), .mv (.t 1), (some (25, false))⟩, ⟨(some 27), .mv (.t 2), (some (25, false))⟩, ⟨(some 28), .iaS 1 (.t 26) (.t 27), (some (25, false))⟩, ⟨(some 29), .load1 (.t 28), (some (25, false))⟩, ⟨(some 30), .bin .lss (.t 29) (.c (.int .i64 0)), (some (25, false))⟩, ⟨(some 31), .pick (.t 25) (.c (.bool true)) (.t 30), none⟩])
  (.cond (.t 31) (.seq (.ops [⟨(some 6), .mv (.c (.slice none 0 0)), none⟩])
  .ret) .skip))
  (.seq (.ops [⟨(some 7), .mv (.c (.slice none 0 0)), none⟩])
  (.seq (.seq (.ops [⟨(some 32), .loadN 3 (.t 3), none⟩, ⟨(some 33), .mv (.t 2), none⟩, ⟨(some 34), .call 23 [(.t 32), (.t 33)], none⟩, ⟨(some 35), .len false (.t 34), none⟩, ⟨(some 36), .mv (.c (.int .i64 0)), none⟩])
  (.block 0 (.loop (.seq (.ops [⟨(some 37), .bin .lss (.t 36) (.t 35), none⟩])
  (.seq (.cond (.t 37) .skip (.exit 0))
  (.seq (.block 1 (.seq (.ops [⟨(some 38), .iaS 1 (.t 34) (.t 36), none⟩, ⟨(some 39), .load1 (.t 38), none⟩, ⟨(some 9), .mv (.t 39), none⟩])
  (.seq (.dops [⟨⟨(some 40), .mv (.t 1), none⟩, 0, false, false⟩, ⟨⟨(some 41), .mv (.t 9), none⟩, 1, false, false⟩, ⟨⟨(some 42), .iaS 1 (.t 40) (.t 41), none⟩, 2, false, false⟩, ⟨⟨(some 43), .load1 (.t 42), none⟩, 3, false, false⟩, ⟨⟨(some 44), .bin .geq (.t 43) (.c (.int .i64 0)), none⟩, 4, false, false⟩, ⟨⟨(some 45), .mv (.t 44), none⟩, 5, false, false⟩, ⟨⟨(some 46), .mv (.t 1), (some (45, true))⟩, 6, false, false⟩, ⟨⟨(some 47), .mv (.t 9), (some (45, true))⟩, 7, false, false⟩, ⟨⟨(some 48), .iaS 1 (.t 46) (.t 47), (some (45, true))⟩, 8, false, false⟩, ⟨⟨(some 49), .load1 (.t 48), (some (45, true))⟩, 9, false, false⟩, ⟨⟨(some 50), .mv (.t 1), (some (45, true))⟩, 10, false, false⟩, ⟨⟨(some 51), .mv (.t 2), (some (45, true))⟩, 11, false, false⟩, ⟨⟨(some 52), .iaS 1 (.t 50) (.t 51), (some (45, true))⟩, 12, false, false⟩, ⟨⟨(some 53), .load1 (.t 52), (some (45, true))⟩, 13, false, false⟩, ⟨⟨(some 54), .bin .lss (.t 49) (.t 53), (some (45, true))⟩, 14, false, false⟩, ⟨⟨(some 55), .pick (.t 45) (.t 54) (.c (.bool false)), none⟩, 15, false, false⟩])
  (.cond (.t 55) (.ops [⟨(some 56), .mv (.t 7), none⟩, ⟨(some 57), .mv (.t 1), none⟩, ⟨(some 58), .mv (.t 9), none⟩, ⟨(some 59), .iaS 1 (.t 57) (.t 58), none⟩, ⟨(some 60), .load1 (.t 59), none⟩, ⟨(some 61), .mv (.t 9), none⟩, ⟨(some 62), .bld [(.int .i64 0), (.int .i64 0)] [(0, 1, (.t 60)), (1, 1, (.t 61))], none⟩, ⟨(some 63), .bsl 2 1 [(.int .i64 0), (.int .i64 0)] [(0, (.t 62))], none⟩, ⟨(some 64), .app 2 16 (.t 56) (.t 63), none⟩, ⟨(some 7), .mv (.t 64), none⟩]) .skip))))
  (.ops [⟨(some 65), .bin .add (.t 36) (.c (.int .i64 1)), none⟩, ⟨(some 36), .mv (.t 65), none⟩])))))))
  (.seq (.ops [⟨(some 10), .mv (.c (.slice none 0 0)), none⟩])
  (.seq (.seq (.ops [⟨(some 66), .mv (.t 7), none⟩, ⟨(some 67), .call 44 [(.t 66)], none⟩, ⟨(some 68), .len false (.t 67), none⟩, ⟨(some 69), .mv (.c (.int .i64 0)), none⟩])
  (.block 2 (.loop (.seq (.ops [⟨(some 70), .bin .lss (.t 69) (.t 68), none⟩])
  (.seq (.cond (.t 70) .skip (.exit 2))
  (.seq (.block 3 (.seq (.ops [⟨(some 71), .iaS 2 (.t 67) (.t 69), none⟩, ⟨(some 72), .loadN 2 (.t 71), none⟩, ⟨(some 12), .alloc [(.int .i64 0), (.int .i64 0)], none⟩, ⟨none, .store 2 (.t 12) (.t 72), none⟩])
  (.ops [⟨(some 73), .mv (.t 10), none⟩, ⟨(some 74), .fadd 1 (.t 12), none⟩, ⟨(some 75), .load1 (.t 74), none⟩, ⟨(some 76), .bsl 1 1 [(.int .i64 0)] [(0, (.t 75))], none⟩, ⟨(some 77), .app 1 8 (.t 73) (.t 76), none⟩, ⟨(some 10), .mv (.t 77), none⟩])))
  (.ops [⟨(some 78), .bin .add (.t 69) (.c (.int .i64 1)), none⟩, ⟨(some 69), .mv (.t 78), none⟩])))))))
  (.seq (.ops [⟨(some 79), .mv (.t 10), none⟩, ⟨(some 6), .mv (.t 79), none⟩])
  .ret)))))))
def r24 : List RV := [.t 6]
theorem fn24 : cFn Tryd.prog 24 = some (c24, r24, 80) := by kernel_rfl

/-- dynamo/dynamoref16.Down -/
def c25 : MC :=
  (.seq (.ops [⟨(some 3), .box (.t 0), none⟩, ⟨(some 6), .mv (.c (.slice none 0 0)), none⟩])
  (.seq (.ops [⟨(some 7), .mv (.c (.slice none 0 0)), none⟩])
  (.seq (.seq (.ops [⟨(some 10), .mv (.t 1), none⟩, ⟨(some 11), .len false (.t 10), none⟩, ⟨(some 12), .fadd 2 (.t 3), none⟩, ⟨(some 13), .load1 (.t 12), none⟩, ⟨(some 14), .len true (.t 13), none⟩, ⟨(some 15), .bin .neq (.t 11) (.t 14), none⟩, ⟨(some 16), .mv (.t 15), none⟩, ⟨(some 17), .mv (.t 2), (some (16, false))⟩, ⟨(some 18), .bin .lss (.t 17) (.c (.int .i64 0)), (some (16, false))⟩, ⟨(some 19), .pick (.t 16) (.c (.bool true)) (.t 18), none⟩, ⟨(some 20), .mv (.t 19), none⟩, ⟨(some 21), .mv (.t 2), (some (20, false))⟩, ⟨(some 22), .mv (.t 1), (some (20, false))⟩, ⟨(some 23), .len false (.t 22), (some (20, false))⟩, ⟨(some 24), .bin .geq (.t 21) (.t 23), (some (20, false))⟩, ⟨(some 25), .pick (.t 20) (.c (.bool true)) (.t 24), none⟩, ⟨(some 26), .mv (.t 25), none⟩, ⟨(some 27), .fadd 2 (.t 3), (some (26, false))⟩, ⟨(some 28), .load1 (.t 27), (some (26, false))⟩, ⟨(some 29), .mv (.t 2), (some (26, false))⟩, ⟨(some 30), .idxS (.t 28) (.t 29), (some (26, false))⟩, ⟨(some 31), .bin .eql (.t 30) (.c (.int .u8 35)), (some (26, false))⟩, ⟨(some 32), .pick (.t 26) (.c (.bool true)) (.t 31), none⟩, ⟨(some 33), .mv (.t 32), none⟩, ⟨(some 34), .mv (.t 1), (some (33, false))⟩, ⟨(some 35), .mv (.t 2), (some (33, false))⟩, ⟨(some 36), .iaS 1 (.t 34) (.t 35), (some (33, false))⟩, ⟨(some 37), .load1 (.t 36), (some (33, false))⟩, ⟨(some 38), .bin .lss (.t 37) (.c (.int .i64 0)), (some (33, false))⟩, ⟨(some 39), .pick (.t 33) (.c (.bool true)) (.t 38), none⟩])
  (.cond (.t 39) (.seq (.ops [⟨(some 40), .mv (.t 7), none⟩, ⟨(some 6), .mv (.t 40), none⟩])
  .ret) .skip))
  (.seq (.seq (.ops [⟨(some 8), .mv (.c (.int .i64 0)), none⟩])
  (.block 0 (.loop (.seq (.seq (.ops [⟨(some 41), .mv (.t 8), none⟩, ⟨(some 42), .mv (.t 1), none⟩, ⟨(some 43), .len false (.t 42), none⟩, ⟨(some 44), .bin .lss (.t 41) (.t 43), none⟩])
  (.cond (.t 44) .skip (.exit 0)))
  (.seq (.block 1 (.seq (.seq (.dops [⟨⟨(some 47), .fadd 2 (.t 3), none⟩, 0, false, false⟩, ⟨⟨(some 48), .load1 (.t 47), none⟩, 1, false, false⟩, ⟨⟨(some 49), .mv (.t 8), none⟩, 2, false, false⟩, ⟨⟨(some 50), .idxS (.t 48) (.t 49), none⟩, 3, false, false⟩, ⟨⟨(some 51), .bin .eql (.t 50) (.c (.int .u8 35)), none⟩, 4, false, false⟩, ⟨⟨(some 52), .mv (.t 51), none⟩, 5, false, false⟩, ⟨⟨(some 53), .fadd 0 (.t 3), (some (52, false))⟩, 6, false, false⟩, ⟨⟨(some 54), .load1 (.t 53), (some (52, false))⟩, 7, false, false⟩, ⟨⟨(some 55), .mv (.t 2), (some (52, false))⟩, 8, false, false⟩, ⟨⟨(some 56), .mv (.t 8), (some (52, false))⟩, 9, false, false⟩, ⟨⟨(some 57), .call 30 [(.t 54), (.t 55), (.t 56)], (some (52, false))⟩, 10, true, false⟩, ⟨⟨(some 58), .not (.t 57), (some (52, false))⟩, 11, false, false⟩, ⟨⟨(some 59), .pick (.t 52) (.c (.bool true)) (.t 58), none⟩, 12, false, false⟩, ⟨⟨(some 60), .mv (.t 59), none⟩, 13, false, false⟩, ⟨⟨(some 61), .mv (.t 1), (some (60, false))⟩, 14, false, false⟩, ⟨⟨(some 62), .mv (.t 8), (some (60, false))⟩, 15, false, false⟩, ⟨⟨(some 63), .iaS 1 (.t 61) (.t 62), (some (60, false))⟩, 16, false, false⟩, ⟨⟨(some 64), .load1 (.t 63), (some (60, false))⟩, 17, false, false⟩, ⟨⟨(some 65), .bin .lss (.t 64) (.c (.int .i64 0)), (some (60, false))⟩, 18, false, false⟩, ⟨⟨(some 66), .pick (.t 60) (.c (.bool true)) (.t 65), none⟩, 19, false, false⟩, ⟨⟨(some 67), .mv (.t 66), none⟩, 20, false, false⟩, ⟨⟨(some 68), .mv (.t 1), (some (67, false))⟩, 21, false, false⟩, ⟨⟨(some 69), .mv (.t 8), (some (67, false))⟩, 22, false, false⟩, ⟨⟨(some 70), .iaS 1 (.t 68) (.t 69), (some (67, false))⟩, 23, false, false⟩, ⟨⟨(some 71), .load1 (.t 70), (some (67, false))⟩, 24, false, false⟩, ⟨⟨(some 72), .mv (.t 1), (some (67, false))⟩, 25, false, false⟩, ⟨⟨(some 73), .mv (.t 2), (some (67, false))⟩, 26, false, false⟩, ⟨⟨(some 74), .iaS 1 (.t 72) (.t 73), (some (67, false))⟩, 27, false, false⟩, ⟨⟨(some 75), .load1 (.t 74), (some (67, false))⟩, 28, false, false⟩, ⟨⟨(some 76), .bin .geq (.t 71) (.t 75), (some (67, false))⟩, 29, false, false⟩, ⟨⟨(some 77), .pick (.t 67) (.c (.bool true)) (.t 76), none⟩, 30, false, false⟩])
  (.cond (.t 77) (.exit 1) .skip))
  (.seq (.ops [⟨(some 9), .mv (.c (.int .i64 0)), none⟩])
  (.seq (.block 2 (.loop (.seq (.seq (.dops [⟨⟨(some 78), .mv (.t 9), none⟩, 0, false, false⟩, ⟨⟨(some 79), .mv (.t 7), none⟩, 1, false, false⟩, ⟨⟨(some 80), .len false (.t 79), none⟩, 2, false, false⟩, ⟨⟨(some 81), .bin .lss (.t 78) (.t 80), none⟩, 3, false, false⟩, ⟨⟨(some 82), .mv (.t 81), none⟩, 4, false, false⟩, ⟨⟨(some 83), .mv (.t 1), (some (82, true))⟩, 5, false, false⟩, ⟨⟨(some 84), .mv (.t 7), (some (82, true))⟩, 6, false, false⟩, ⟨⟨(some 85), .mv (.t 9), (some (82, true))⟩, 7, false, false⟩, ⟨⟨(some 86), .iaS 1 (.t 84) (.t 85), (some (82, true))⟩, 8, false, false⟩, ⟨⟨(some 87), .load1 (.t 86), (some (82, true))⟩, 9, false, false⟩, ⟨⟨(some 88), .iaS 1 (.t 83) (.t 87), (some (82, true))⟩, 10, false, false⟩, ⟨⟨(some 89), .load1 (.t 88), (some (82, true))⟩, 11, false, false⟩, ⟨⟨(some 90), .mv (.t 1), (some (82, true))⟩, 12, false, false⟩, ⟨⟨(some 91), .mv (.t 8), (some (82, true))⟩, 13, false, false⟩, ⟨⟨(some 92), .iaS 1 (.t 90) (.t 91), (some (82, true))⟩, 14, false, false⟩, ⟨⟨(some 93), .load1 (.t 92), (some (82, true))⟩, 15, false, false⟩, ⟨⟨(some 94), .bin .leq (.t 89) (.t 93), (some (82, true))⟩, 16, false, false⟩, ⟨⟨(some 95), .pick (.t 82) (.t 94) (.c (.bool false)), none⟩, 17, false, false⟩])
  (.cond (.t 95) .skip (.exit 2)))
  (.block 3 (.ops [⟨(some 96), .mv (.t 9), none⟩, ⟨(some 97), .bin .add (.t 96) (.c (.int .i64 1)), none⟩, ⟨(some 9), .mv (.t 97), none⟩])))))
  (.seq (.ops [⟨none, .bin .eql (.t 8) (.t 8), none⟩])
  (.dops [⟨⟨(some 99), .mv (.t 7), none⟩, 1, false, false⟩, ⟨⟨(some 100), .mv (.t 9), none⟩, 2, false, false⟩, ⟨⟨(some 101), .slc 1 (.t 99) none (some (.t 100)) none, none⟩, 3, false, false⟩, ⟨⟨(some 103), .mv (.t 8), none⟩, 5, false, false⟩, ⟨⟨(some 106), .mv (.t 7), none⟩, 8, false, false⟩, ⟨⟨(some 107), .mv (.t 9), none⟩, 9, false, false⟩, ⟨⟨(some 108), .slc 1 (.t 106) (some (.t 107)) none none, none⟩, 10, false, false⟩, ⟨⟨(some 98), .bsl 1 0 [(.int .i64 0)] [], none⟩, 0, true, true⟩, ⟨⟨(some 102), .app 1 8 (.t 98) (.t 101), none⟩, 4, true, true⟩, ⟨⟨(some 104), .bsl 1 1 [(.int .i64 0)] [(0, (.t 103))], none⟩, 6, true, true⟩, ⟨⟨(some 105), .app 1 8 (.t 102) (.t 104), none⟩, 7, true, true⟩, ⟨⟨(some 109), .app 1 8 (.t 105) (.t 108), none⟩, 11, true, false⟩, ⟨⟨(some 7), .mv (.t 109), none⟩, 12, true, false⟩]))))))
  (.ops [⟨(some 45), .mv (.t 8), none⟩, ⟨(some 46), .bin .add (.t 45) (.c (.int .i64 1)), none⟩, ⟨(some 8), .mv (.t 46), none⟩]))))))
  (.seq (.ops [⟨(some 110), .mv (.t 7), none⟩, ⟨(some 6), .mv (.t 110), none⟩])
  .ret)))))
def r25 : List RV := [.t 6]
theorem fn25 : cFn Tryd.prog 25 = some (c25, r25, 111) := by kernel_rfl

/-- dynamo/grid.Kind -/
def c26 : MC :=
  (.seq (.ops [⟨(some 2), .box (.t 0), none⟩, ⟨(some 4), .mv (.c (.slice none 0 0)), none⟩])
  (.seq (.seq (.ops [⟨(some 7), .loadN 3 (.t 2), none⟩, ⟨(some 8), .call 35 [(.t 7)], none⟩, ⟨(some 9), .not (.t 8), none⟩])
  (.cond (.t 9) (.seq (.ops [⟨(some 4), .mv (.c (.slice none 0 0)), none⟩])
  .ret) .skip))
  (.seq (.ops [⟨(some 5), .mv (.c (.slice none 0 0)), none⟩])
  (.seq (.seq (.ops [⟨(some 10), .fadd 2 (.t 2), none⟩, ⟨(some 11), .load1 (.t 10), none⟩, ⟨(some 12), .len true (.t 11), none⟩, ⟨(some 13), .mv (.c (.int .i64 0)), none⟩])
  (.block 0 (.loop (.seq (.ops [⟨(some 14), .bin .lss (.t 13) (.t 12), none⟩])
  (.seq (.cond (.t 14) .skip (.exit 0))
  (.seq (.block 1 (.seq (.ops [⟨(some 15), .mv (.t 13), none⟩, ⟨(some 6), .mv (.t 15), none⟩])
  (.seq (.ops [⟨(some 16), .fadd 2 (.t 2), none⟩, ⟨(some 17), .load1 (.t 16), none⟩, ⟨(some 18), .mv (.t 6), none⟩, ⟨(some 19), .idxS (.t 17) (.t 18), none⟩, ⟨(some 20), .mv (.t 1), none⟩, ⟨(some 21), .bin .eql (.t 19) (.t 20), none⟩])
  (.cond (.t 21) (.ops [⟨(some 22), .mv (.t 5), none⟩, ⟨(some 23), .mv (.t 6), none⟩, ⟨(some 24), .bsl 1 1 [(.int .i64 0)] [(0, (.t 23))], none⟩, ⟨(some 25), .app 1 8 (.t 22) (.t 24), none⟩, ⟨(some 5), .mv (.t 25), none⟩]) .skip))))
  (.ops [⟨(some 26), .bin .add (.t 13) (.c (.int .i64 1)), none⟩, ⟨(some 13), .mv (.t 26), none⟩])))))))
  (.seq (.ops [⟨(some 27), .mv (.t 5), none⟩, ⟨(some 4), .mv (.t 27), none⟩])
  .ret)))))
def r26 : List RV := [.t 4]
theorem fn26 : cFn Tryd.prog 26 = some (c26, r26, 28) := by kernel_rfl

/-- dynamo/dynamolaw17.awake -/
def c27 : MC :=
  (.seq (.ops [⟨(some 0), .mv (.c (.bool false)), none⟩])
  (.seq (.ops [⟨(some 5), .bld [(.int .i64 0), (.int .i64 0), (.string ⟨#[]⟩)] [(0, 1, (.c (.int .i64 2))), (1, 1, (.c (.int .i64 1))), (2, 1, (.c (.string ⟨#[46, 67]⟩)))], none⟩, ⟨(some 6), .call 28 [(.t 5), (.c (.int .i64 0)), (.c (.int .i64 1)), (.c (.int .i64 2))], none⟩, ⟨(some 4), .mv (.t 6), none⟩, ⟨(some 7), .ext (.t 4) 0, none⟩, ⟨(some 8), .ext (.t 4) 1, none⟩, ⟨(some 9), .ext (.t 4) 2, none⟩, ⟨(some 1), .mv (.t 7), none⟩, ⟨(some 2), .mv (.t 8), none⟩, ⟨(some 3), .mv (.t 9), none⟩])
  (.seq (.ops [⟨(some 10), .mv (.t 3), none⟩, ⟨(some 11), .call 19 [(.t 10)], none⟩, ⟨(some 12), .bin .eql (.t 11) (.c (.int .i64 0)), none⟩, ⟨(some 13), .mv (.t 12), none⟩, ⟨(some 14), .mv (.t 1), (some (13, true))⟩, ⟨(some 15), .len false (.t 14), (some (13, true))⟩, ⟨(some 16), .bin .eql (.t 15) (.c (.int .i64 1)), (some (13, true))⟩, ⟨(some 17), .pick (.t 13) (.t 16) (.c (.bool false)), none⟩, ⟨(some 18), .mv (.t 17), none⟩, ⟨(some 19), .mv (.t 1), (some (18, true))⟩, ⟨(some 20), .iaS 1 (.t 19) (.c (.int .i64 0)), (some (18, true))⟩, ⟨(some 21), .load1 (.t 20), (some (18, true))⟩, ⟨(some 22), .bin .eql (.t 21) (.c (.int .i64 1)), (some (18, true))⟩, ⟨(some 23), .pick (.t 18) (.t 22) (.c (.bool false)), none⟩, ⟨(some 24), .mv (.t 23), none⟩, ⟨(some 25), .mv (.t 2), (some (24, true))⟩, ⟨(some 26), .bin .eql (.t 25) (.c (.int .i64 2)), (some (24, true))⟩, ⟨(some 27), .pick (.t 24) (.t 26) (.c (.bool false)), none⟩, ⟨(some 0), .mv (.t 27), none⟩])
  .ret)))
def r27 : List RV := [.t 0]
theorem fn27 : cFn Tryd.prog 27 = some (c27, r27, 28) := by kernel_rfl

/-- dynamo/route.Plan -/
def c28 : MC :=
  (.seq (.ops [⟨(some 4), .box (.t 0), none⟩, ⟨(some 8), .mv (.c (.slice none 0 0)), none⟩, ⟨(some 9), .mv (.c (.int .i64 0)), none⟩, ⟨(some 10), .mv (.c .nilIface), none⟩])
  (.seq (.seq (.ops [⟨(some 13), .loadN 3 (.t 4), none⟩, ⟨(some 14), .mv (.t 1), none⟩, ⟨(some 15), .call 39 [(.t 13), (.t 14)], none⟩, ⟨(some 16), .not (.t 15), none⟩, ⟨(some 17), .mv (.t 16), none⟩, ⟨(some 18), .loadN 3 (.t 4), (some (17, false))⟩, ⟨(some 19), .mv (.t 2), (some (17, false))⟩, ⟨(some 20), .call 39 [(.t 18), (.t 19)], (some (17, false))⟩, ⟨(some 21), .not (.t 20), (some (17, false))⟩, ⟨(some 22), .pick (.t 17) (.c (.bool true)) (.t 21), none⟩])
  (.cond (.t 22) (.seq (.ops [⟨(some 23), .mki 61 (.c (.int .i64 1)), none⟩, ⟨(some 24), .call 36 [(.c (.string ⟨#[112, 108, 97, 110]⟩)), (.t 23)], none⟩, ⟨(some 8), .mv (.c (.slice none 0 0)), none⟩, ⟨(some 9), .mv (.c (.int .i64 0)), none⟩, ⟨(some 10), .mv (.t 24), none⟩])
  .ret) .skip))
  (.seq (.ops [⟨(some 26), .loadN 3 (.t 4), none⟩, ⟨(some 27), .mv (.t 2), none⟩, ⟨(some 28), .bsl 1 1 [(.int .i64 0)] [(0, (.t 27))], none⟩, ⟨(some 29), .mv (.t 3), none⟩, ⟨(some 30), .call 16 [(.t 26), (.t 28), (.t 29)], none⟩, ⟨(some 25), .mv (.t 30), none⟩, ⟨(some 31), .ext (.t 25) 0, none⟩, ⟨(some 32), .ext (.t 25) 1, none⟩, ⟨(some 11), .mv (.t 31), none⟩, ⟨(some 12), .mv (.t 32), none⟩])
  (.seq (.seq (.ops [⟨(some 33), .mv (.t 12), none⟩, ⟨(some 34), .eqN .iface true (.t 33) (.c .nilIface), none⟩])
  (.cond (.t 34) (.seq (.ops [⟨(some 35), .mv (.t 12), none⟩, ⟨(some 8), .mv (.c (.slice none 0 0)), none⟩, ⟨(some 9), .mv (.c (.int .i64 0)), none⟩, ⟨(some 10), .mv (.t 35), none⟩])
  .ret) .skip))
  (.seq (.dops [⟨⟨(some 36), .loadN 3 (.t 4), none⟩, 0, false, false⟩, ⟨⟨(some 37), .mv (.t 11), none⟩, 1, false, false⟩, ⟨⟨(some 38), .mv (.t 1), none⟩, 2, false, false⟩, ⟨⟨(some 40), .mv (.t 11), none⟩, 4, false, false⟩, ⟨⟨(some 41), .mv (.t 1), none⟩, 5, false, false⟩, ⟨⟨(some 42), .iaS 1 (.t 40) (.t 41), none⟩, 6, false, false⟩, ⟨⟨(some 43), .load1 (.t 42), none⟩, 7, false, false⟩, ⟨⟨(some 39), .call 22 [(.t 36), (.t 37), (.t 38)], none⟩, 3, true, true⟩, ⟨⟨(some 8), .mv (.t 39), none⟩, 8, false, false⟩, ⟨⟨(some 9), .mv (.t 43), none⟩, 9, false, false⟩, ⟨⟨(some 10), .mv (.c .nilIface), none⟩, 10, false, false⟩])
  .ret)))))
def r28 : List RV := [.t 8, .t 9, .t 10]
theorem fn28 : cFn Tryd.prog 28 = some (c28, r28, 44) := by kernel_rfl

/-- dynamo/dynamoref17.Open -/
def c29 : MC :=
  (.seq (.ops [⟨(some 2), .box (.t 0), none⟩, ⟨(some 4), .mv (.c (.bool false)), none⟩])
  (.seq (.ops [⟨(some 5), .loadN 3 (.t 2), none⟩, ⟨(some 6), .call 18 [(.t 5)], none⟩, ⟨(some 7), .mv (.t 6), none⟩, ⟨(some 8), .mv (.t 1), (some (7, true))⟩, ⟨(some 9), .bin .geq (.t 8) (.c (.int .i64 0)), (some (7, true))⟩, ⟨(some 10), .pick (.t 7) (.t 9) (.c (.bool false)), none⟩, ⟨(some 11), .mv (.t 10), none⟩, ⟨(some 12), .mv (.t 1), (some (11, true))⟩, ⟨(some 13), .fadd 2 (.t 2), (some (11, true))⟩, ⟨(some 14), .load1 (.t 13), (some (11, true))⟩, ⟨(some 15), .len true (.t 14), (some (11, true))⟩, ⟨(some 16), .bin .lss (.t 12) (.t 15), (some (11, true))⟩, ⟨(some 17), .pick (.t 11) (.t 16) (.c (.bool false)), none⟩, ⟨(some 18), .mv (.t 17), none⟩, ⟨(some 19), .fadd 2 (.t 2), (some (18, true))⟩, ⟨(some 20), .load1 (.t 19), (some (18, true))⟩, ⟨(some 21), .mv (.t 1), (some (18, true))⟩, ⟨(some 22), .idxS (.t 20) (.t 21), (some (18, true))⟩, ⟨(some 23), .bin .neq (.t 22) (.c (.int .u8 35)), (some (18, true))⟩, ⟨(some 24), .pick (.t 18) (.t 23) (.c (.bool false)), none⟩, ⟨(some 4), .mv (.t 24), none⟩])
  .ret))
def r29 : List RV := [.t 4]
theorem fn29 : cFn Tryd.prog 29 = some (c29, r29, 25) := by kernel_rfl

/-- dynamo/dynamoref14.Beside -/
def c30 : MC :=
  (.seq (.ops [⟨(some 6), .mv (.c (.bool false)), none⟩])
  (.seq (.seq (.dops [⟨⟨(some 7), .mv (.t 1), none⟩, 0, false, false⟩, ⟨⟨(some 8), .mv (.t 0), none⟩, 1, false, false⟩, ⟨⟨(some 9), .bin .quo (.t 7) (.t 8), none⟩, 2, false, false⟩, ⟨⟨(some 10), .mv (.t 2), none⟩, 3, false, false⟩, ⟨⟨(some 11), .mv (.t 0), none⟩, 4, false, false⟩, ⟨⟨(some 12), .bin .quo (.t 10) (.t 11), none⟩, 5, false, false⟩, ⟨⟨(some 13), .bin .eql (.t 9) (.t 12), none⟩, 6, false, false⟩])
  (.cond (.t 13) (.seq (.ops [⟨(some 14), .mv (.t 1), none⟩, ⟨(some 15), .mv (.t 2), none⟩, ⟨(some 16), .bin .add (.t 15) (.c (.int .i64 1)), none⟩, ⟨(some 17), .bin .eql (.t 14) (.t 16), none⟩, ⟨(some 18), .mv (.t 17), none⟩, ⟨(some 19), .mv (.t 2), (some (18, false))⟩, ⟨(some 20), .mv (.t 1), (some (18, false))⟩, ⟨(some 21), .bin .add (.t 20) (.c (.int .i64 1)), (some (18, false))⟩, ⟨(some 22), .bin .eql (.t 19) (.t 21), (some (18, false))⟩, ⟨(some 23), .pick (.t 18) (.c (.bool true)) (.t 22), none⟩, ⟨(some 6), .mv (.t 23), none⟩])
  .ret) .skip))
  (.seq (.ops [⟨(some 24), .mv (.t 1), none⟩, ⟨(some 25), .mv (.t 2), none⟩, ⟨(some 26), .mv (.t 0), none⟩, ⟨(some 27), .bin .add (.t 25) (.t 26), none⟩, ⟨(some 28), .bin .eql (.t 24) (.t 27), none⟩, ⟨(some 29), .mv (.t 28), none⟩, ⟨(some 30), .mv (.t 2), (some (29, false))⟩, ⟨(some 31), .mv (.t 1), (some (29, false))⟩, ⟨(some 32), .mv (.t 0), (some (29, false))⟩, ⟨(some 33), .bin .add (.t 31) (.t 32), (some (29, false))⟩, ⟨(some 34), .bin .eql (.t 30) (.t 33), (some (29, false))⟩, ⟨(some 35), .pick (.t 29) (.c (.bool true)) (.t 34), none⟩, ⟨(some 6), .mv (.t 35), none⟩])
  .ret)))
def r30 : List RV := [.t 6]
theorem fn30 : cFn Tryd.prog 30 = some (c30, r30, 36) := by kernel_rfl

/-- dynamo/dynamoref17.Cost -/
def c31 : MC :=
  (.seq (.ops [⟨(some 4), .box (.t 0), none⟩, ⟨(some 8), .mv (.c (.int .i64 0)), none⟩])
  (.seq (.ops [⟨(some 9), .loadN 3 (.t 4), none⟩, ⟨(some 10), .mv (.t 2), none⟩, ⟨(some 11), .bsl 1 1 [(.int .i64 0)] [(0, (.t 10))], none⟩, ⟨(some 12), .mv (.t 3), none⟩, ⟨(some 13), .call 21 [(.t 9), (.t 11), (.t 12)], none⟩, ⟨(some 14), .mv (.t 1), none⟩, ⟨(some 15), .iaS 1 (.t 13) (.t 14), none⟩, ⟨(some 16), .load1 (.t 15), none⟩, ⟨(some 8), .mv (.t 16), none⟩])
  .ret))
def r31 : List RV := [.t 8]
theorem fn31 : cFn Tryd.prog 31 = some (c31, r31, 17) := by kernel_rfl

/-- dynamo/route.Total -/
def c32 : MC :=
  (.seq (.ops [⟨(some 5), .box (.t 0), none⟩, ⟨(some 10), .mv (.c (.int .i64 0)), none⟩, ⟨(some 11), .mv (.c .nilIface), none⟩])
  (.seq (.ops [⟨(some 19), .loadN 3 (.t 5), none⟩, ⟨(some 20), .mv (.t 2), none⟩, ⟨(some 21), .mv (.t 3), none⟩, ⟨(some 22), .call 28 [(.t 19), (.t 20), (.t 21), (.c (.int .i64 1))], none⟩, ⟨(some 18), .mv (.t 22), none⟩, ⟨(some 23), .ext (.t 18) 0, none⟩, ⟨(some 24), .ext (.t 18) 1, none⟩, ⟨(some 25), .ext (.t 18) 2, none⟩, ⟨(some 12), .mv (.t 23), none⟩, ⟨(some 13), .mv (.t 24), none⟩, ⟨(some 14), .mv (.t 25), none⟩])
  (.seq (.seq (.ops [⟨(some 26), .mv (.t 14), none⟩, ⟨(some 27), .eqN .iface true (.t 26) (.c .nilIface), none⟩])
  (.cond (.t 27) (.seq (.ops [⟨(some 28), .mv (.t 14), none⟩, ⟨(some 10), .mv (.c (.int .i64 0)), none⟩, ⟨(some 11), .mv (.t 28), none⟩])
  .ret) .skip))
  (.seq (.ops [⟨(some 30), .loadN 3 (.t 5), none⟩, ⟨(some 31), .mv (.t 3), none⟩, ⟨(some 32), .mv (.t 4), none⟩, ⟨(some 33), .call 28 [(.t 30), (.t 31), (.t 32), (.c (.int .i64 2))], none⟩, ⟨(some 29), .mv (.t 33), none⟩, ⟨(some 34), .ext (.t 29) 0, none⟩, ⟨(some 35), .ext (.t 29) 1, none⟩, ⟨(some 36), .ext (.t 29) 2, none⟩, ⟨(some 15), .mv (.t 34), none⟩, ⟨(some 16), .mv (.t 35), none⟩, ⟨(some 14), .mv (.t 36), none⟩])
  (.seq (.seq (.ops [⟨(some 37), .mv (.t 14), none⟩, ⟨(some 38), .eqN .iface true (.t 37) (.c .nilIface), none⟩])
  (.cond (.t 38) (.seq (.ops [⟨(some 39), .mv (.t 14), none⟩, ⟨(some 10), .mv (.c (.int .i64 0)), none⟩, ⟨(some 11), .mv (.t 39), none⟩])
  .ret) .skip))
  (.seq (.ops [⟨(some 41), .loadN 3 (.t 5), none⟩, ⟨(some 42), .mv (.t 1), none⟩, ⟨(some 43), .call 16 [(.t 41), (.t 42), (.c (.int .i64 1))], none⟩, ⟨(some 40), .mv (.t 43), none⟩, ⟨(some 44), .ext (.t 40) 0, none⟩, ⟨(some 45), .ext (.t 40) 1, none⟩, ⟨(some 17), .mv (.t 44), none⟩, ⟨(some 14), .mv (.t 45), none⟩])
  (.seq (.seq (.ops [⟨(some 46), .mv (.t 14), none⟩, ⟨(some 47), .eqN .iface true (.t 46) (.c .nilIface), none⟩, ⟨(some 48), .mv (.t 47), none⟩, ⟨(some 49), .mv (.t 17), (some (48, false))⟩, ⟨(some 50), .mv (.t 4), (some (48, false))⟩, ⟨(some 51), .iaS 1 (.t 49) (.t 50), (some (48, false))⟩, ⟨(some 52), .load1 (.t 51), (some (48, false))⟩, ⟨(some 53), .bin .lss (.t 52) (.c (.int .i64 0)), (some (48, false))⟩, ⟨(some 54), .pick (.t 48) (.c (.bool true)) (.t 53), none⟩])
  (.cond (.t 54) (.seq (.ops [⟨(some 55), .mki 61 (.c (.int .i64 4)), none⟩, ⟨(some 56), .call 36 [(.c (.string ⟨#[116, 111, 116, 97, 108]⟩)), (.t 55)], none⟩, ⟨(some 10), .mv (.c (.int .i64 0)), none⟩, ⟨(some 11), .mv (.t 56), none⟩])
  .ret) .skip))
  (.seq (.ops [⟨(some 57), .mv (.t 13), none⟩, ⟨(some 58), .mv (.t 16), none⟩, ⟨(some 59), .bin .add (.t 57) (.t 58), none⟩, ⟨(some 60), .mv (.t 17), none⟩, ⟨(some 61), .mv (.t 4), none⟩, ⟨(some 62), .iaS 1 (.t 60) (.t 61), none⟩, ⟨(some 63), .load1 (.t 62), none⟩, ⟨(some 64), .bin .add (.t 59) (.t 63), none⟩, ⟨(some 10), .mv (.t 64), none⟩, ⟨(some 11), .mv (.c .nilIface), none⟩])
  .ret))))))))
def r32 : List RV := [.t 10, .t 11]
theorem fn32 : cFn Tryd.prog 32 = some (c32, r32, 65) := by kernel_rfl

/-- dynamo/dynamoref17.Total -/
def c33 : MC :=
  (.seq (.ops [⟨(some 5), .box (.t 0), none⟩, ⟨(some 10), .mv (.c (.int .i64 0)), none⟩, ⟨(some 11), .mv (.c (.int .i64 0)), none⟩])
  (.seq (.seq (.ops [⟨(some 13), .loadN 3 (.t 5), none⟩, ⟨(some 14), .mv (.t 2), none⟩, ⟨(some 15), .call 29 [(.t 13), (.t 14)], none⟩, ⟨(some 16), .not (.t 15), none⟩, ⟨(some 17), .mv (.t 16), none⟩, ⟨(some 18), .loadN 3 (.t 5), (some (17, false))⟩, ⟨(some 19), .mv (.t 3), (some (17, false))⟩, ⟨(some 20), .call 29 [(.t 18), (.t 19)], (some (17, false))⟩, ⟨(some 21), .not (.t 20), (some (17, false))⟩, ⟨(some 22), .pick (.t 17) (.c (.bool true)) (.t 21), none⟩, ⟨(some 23), .mv (.t 22), none⟩, ⟨(some 24), .loadN 3 (.t 5), (some (23, false))⟩, ⟨(some 25), .mv (.t 4), (some (23, false))⟩, ⟨(some 26), .call 29 [(.t 24), (.t 25)], (some (23, false))⟩, ⟨(some 27), .not (.t 26), (some (23, false))⟩, ⟨(some 28), .pick (.t 23) (.c (.bool true)) (.t 27), none⟩])
  (.cond (.t 28) (.seq (.ops [⟨(some 10), .mv (.c (.int .i64 0)), none⟩, ⟨(some 11), .mv (.c (.int .i64 1)), none⟩])
  .ret) .skip))
  (.seq (.ops [⟨(some 29), .loadN 3 (.t 5), none⟩, ⟨(some 30), .mv (.t 1), none⟩, ⟨(some 31), .call 21 [(.t 29), (.t 30), (.c (.int .i64 1))], none⟩, ⟨(some 32), .mv (.t 4), none⟩, ⟨(some 33), .iaS 1 (.t 31) (.t 32), none⟩, ⟨(some 34), .load1 (.t 33), none⟩, ⟨(some 12), .mv (.t 34), none⟩])
  (.seq (.seq (.ops [⟨(some 35), .mv (.t 1), none⟩, ⟨(some 36), .len false (.t 35), none⟩, ⟨(some 37), .bin .gtr (.t 36) (.c (.int .i64 64)), none⟩, ⟨(some 38), .mv (.t 37), none⟩, ⟨(some 39), .mv (.t 12), (some (38, false))⟩, ⟨(some 40), .bin .lss (.t 39) (.c (.int .i64 0)), (some (38, false))⟩, ⟨(some 41), .pick (.t 38) (.c (.bool true)) (.t 40), none⟩])
  (.cond (.t 41) (.seq (.ops [⟨(some 10), .mv (.c (.int .i64 0)), none⟩, ⟨(some 11), .mv (.c (.int .i64 4)), none⟩])
  .ret) .skip))
  (.seq (.dops [⟨⟨(some 42), .loadN 3 (.t 5), none⟩, 0, false, false⟩, ⟨⟨(some 43), .mv (.t 2), none⟩, 1, false, false⟩, ⟨⟨(some 44), .mv (.t 3), none⟩, 2, false, false⟩, ⟨⟨(some 46), .loadN 3 (.t 5), none⟩, 4, false, false⟩, ⟨⟨(some 47), .mv (.t 3), none⟩, 5, false, false⟩, ⟨⟨(some 48), .mv (.t 4), none⟩, 6, false, false⟩, ⟨⟨(some 51), .mv (.t 12), none⟩, 9, false, false⟩, ⟨⟨(some 45), .call 31 [(.t 42), (.t 43), (.t 44), (.c (.int .i64 1))], none⟩, 3, true, true⟩, ⟨⟨(some 49), .call 31 [(.t 46), (.t 47), (.t 48), (.c (.int .i64 2))], none⟩, 7, true, false⟩, ⟨⟨(some 50), .bin .add (.t 45) (.t 49), none⟩, 8, false, false⟩, ⟨⟨(some 52), .bin .add (.t 50) (.t 51), none⟩, 10, false, false⟩, ⟨⟨(some 10), .mv (.t 52), none⟩, 11, false, false⟩, ⟨⟨(some 11), .mv (.c (.int .i64 0)), none⟩, 12, false, false⟩])
  .ret)))))
def r33 : List RV := [.t 10, .t 11]
theorem fn33 : cFn Tryd.prog 33 = some (c33, r33, 53) := by kernel_rfl

/-- dynamo/route.Next -/
def c34 : MC :=
  (.seq (.ops [⟨(some 4), .box (.t 0), none⟩, ⟨(some 7), .box (.t 3), none⟩, ⟨(some 8), .mv (.c (.int .i64 0)), none⟩, ⟨(some 9), .mv (.c (.bool false)), none⟩])
  (.seq (.ops [⟨(some 12), .loadN 3 (.t 4), none⟩, ⟨(some 13), .mv (.t 1), none⟩, ⟨(some 14), .mv (.t 2), none⟩, ⟨(some 15), .call 24 [(.t 12), (.t 13), (.t 14)], none⟩, ⟨(some 10), .mv (.t 15), none⟩])
  (.seq (.ops [⟨(some 16), .mv (.t 10), none⟩, ⟨(some 17), .mkf (.func 46) [] [(.t 7)], none⟩, ⟨(some 18), .call 45 [(.t 16), (.t 17)], none⟩, ⟨(some 11), .mv (.t 18), none⟩])
  (.seq (.seq (.ops [⟨(some 19), .mv (.t 11), none⟩, ⟨(some 20), .bin .lss (.t 19) (.c (.int .i64 0)), none⟩])
  (.cond (.t 20) (.seq (.ops [⟨(some 8), .mv (.c (.int .i64 0)), none⟩, ⟨(some 9), .mv (.c (.bool false)), none⟩])
  .ret) .skip))
  (.seq (.ops [⟨(some 21), .mv (.t 10), none⟩, ⟨(some 22), .mv (.t 11), none⟩, ⟨(some 23), .iaS 1 (.t 21) (.t 22), none⟩, ⟨(some 24), .load1 (.t 23), none⟩, ⟨(some 8), .mv (.t 24), none⟩, ⟨(some 9), .mv (.c (.bool true)), none⟩])
  .ret)))))
def r34 : List RV := [.t 8, .t 9]
theorem fn34 : cFn Tryd.prog 34 = some (c34, r34, 25) := by kernel_rfl

/-- dynamo/grid.Right -/
def c35 : MC :=
  (.seq (.ops [⟨(some 1), .box (.t 0), none⟩, ⟨(some 2), .mv (.c (.bool false)), none⟩])
  (.seq (.seq (.ops [⟨(some 4), .loadN 3 (.t 1), none⟩, ⟨(some 5), .call 47 [(.t 4)], none⟩, ⟨(some 6), .not (.t 5), none⟩])
  (.cond (.t 6) (.seq (.ops [⟨(some 2), .mv (.c (.bool false)), none⟩])
  .ret) .skip))
  (.seq (.ops [⟨(some 7), .fadd 2 (.t 1), none⟩, ⟨(some 8), .load1 (.t 7), none⟩, ⟨(some 9), .call 48 [(.t 8), (.c (.string ⟨#[67]⟩))], none⟩, ⟨(some 3), .mv (.t 9), none⟩])
  (.seq (.dops [⟨⟨(some 10), .mv (.t 3), none⟩, 0, false, false⟩, ⟨⟨(some 11), .bin .geq (.t 10) (.c (.int .i64 0)), none⟩, 1, false, false⟩, ⟨⟨(some 12), .mv (.t 11), none⟩, 2, false, false⟩, ⟨⟨(some 13), .loadN 3 (.t 1), (some (12, true))⟩, 3, false, false⟩, ⟨⟨(some 14), .mv (.t 3), (some (12, true))⟩, 4, false, false⟩, ⟨⟨(some 16), .fadd 2 (.t 1), (some (12, true))⟩, 6, false, false⟩, ⟨⟨(some 17), .load1 (.t 16), (some (12, true))⟩, 7, false, false⟩, ⟨⟨(some 18), .len true (.t 17), (some (12, true))⟩, 8, false, false⟩, ⟨⟨(some 19), .fadd 2 (.t 1), (some (12, true))⟩, 9, false, false⟩, ⟨⟨(some 20), .load1 (.t 19), (some (12, true))⟩, 10, false, false⟩, ⟨⟨(some 15), .call 49 [(.t 13), (.t 14)], (some (12, true))⟩, 5, true, true⟩, ⟨⟨(some 21), .call 50 [(.t 20), (.c (.string ⟨#[35]⟩))], (some (12, true))⟩, 11, true, true⟩, ⟨⟨(some 22), .bin .sub (.t 18) (.t 21), (some (12, true))⟩, 12, false, false⟩, ⟨⟨(some 23), .bin .eql (.t 15) (.t 22), (some (12, true))⟩, 13, false, false⟩, ⟨⟨(some 24), .pick (.t 12) (.t 23) (.c (.bool false)), none⟩, 14, false, false⟩, ⟨⟨(some 2), .mv (.t 24), none⟩, 15, false, false⟩])
  .ret))))
def r35 : List RV := [.t 2]
theorem fn35 : cFn Tryd.prog 35 = some (c35, r35, 25) := by kernel_rfl

/-- dynamo/tag.Tag -/
def c36 : MC :=
  (.seq (.ops [⟨(some 4), .mv (.c .nilIface), none⟩])
  (.seq (.seq (.ops [⟨(some 5), .mv (.t 1), none⟩, ⟨(some 6), .eqN .iface false (.t 5) (.c .nilIface), none⟩])
  (.cond (.t 6) (.seq (.ops [⟨(some 4), .mv (.c .nilIface), none⟩])
  .ret) .skip))
  (.seq (.ops [⟨(some 7), .mv (.t 0), none⟩, ⟨(some 8), .mv (.t 1), none⟩, ⟨(some 9), .bld [(.string ⟨#[]⟩), .nilIface] [(0, 1, (.t 7)), (1, 1, (.t 8))], none⟩, ⟨(some 10), .box (.t 9), none⟩, ⟨(some 11), .mki 80 (.t 10), none⟩, ⟨(some 4), .mv (.t 11), none⟩])
  .ret)))
def r36 : List RV := [.t 4]
theorem fn36 : cFn Tryd.prog 36 = some (c36, r36, 12) := by kernel_rfl

/-- slices.Repeat[[]int,int] -/
def c37 : MC :=
  (.seq (.ops [⟨(some 4), .mv (.c (.slice none 0 0)), none⟩])
  (.seq (.seq (.ops [⟨(some 9), .mv (.t 1), none⟩, ⟨(some 10), .bin .lss (.t 9) (.c (.int .i64 0)), none⟩])
  (.cond (.t 10) (.ops [⟨(some 11), .mki 9 (.c (.string ⟨#[99, 97, 110, 110, 111, 116, 32, 98, 101, 32, 110, 101, 103, 97, 116, 105, 118, 101]⟩)), none⟩, ⟨none, .bad, none⟩]) .skip))
  (.seq (.ops [⟨(some 13), .mv (.t 0), none⟩, ⟨(some 14), .len false (.t 13), none⟩, ⟨(some 15), .conv .u64 (.t 14), none⟩, ⟨(some 16), .mv (.t 1), none⟩, ⟨(some 17), .conv .u64 (.t 16), none⟩, ⟨(some 18), .call 51 [(.t 15), (.t 17)], none⟩, ⟨(some 12), .mv (.t 18), none⟩, ⟨(some 19), .ext (.t 12) 0, none⟩, ⟨(some 20), .ext (.t 12) 1, none⟩, ⟨(some 5), .mv (.t 19), none⟩, ⟨(some 6), .mv (.t 20), none⟩])
  (.seq (.seq (.ops [⟨(some 21), .mv (.t 5), none⟩, ⟨(some 22), .bin .gtr (.t 21) (.c (.int .u64 0)), none⟩, ⟨(some 23), .mv (.t 22), none⟩, ⟨(some 24), .mv (.t 6), (some (23, false))⟩, ⟨(some 25), .bin .gtr (.t 24) (.c (.int .u64 9223372036854775807)), (some (23, false))⟩, ⟨(some 26), .pick (.t 23) (.c (.bool true)) (.t 25), none⟩])
  (.cond (.t 26) (.ops [⟨(some 27), .mki 9 (.c (.string ⟨#[116, 104, 101, 32, 114, 101, 115, 117, 108, 116, 32, 111, 102, 32, 40, 108, 101, 110, 40, 120, 41, 32, 42, 32, 99, 111, 117, 110, 116, 41, 32, 111, 118, 101, 114, 102, 108, 111, 119, 115]⟩)), none⟩, ⟨none, .bad, none⟩]) .skip))
  (.seq (.ops [⟨(some 28), .mv (.t 6), none⟩, ⟨(some 29), .conv .i64 (.t 28), none⟩, ⟨(some 30), .mks 1 8 [(.int .i64 0)] (.t 29) (.t 29), none⟩, ⟨(some 7), .mv (.t 30), none⟩])
  (.seq (.ops [⟨(some 31), .mv (.t 7), none⟩, ⟨(some 32), .mv (.t 0), none⟩, ⟨(some 33), .cpy 1 (.t 31) (.t 32), none⟩, ⟨(some 8), .mv (.t 33), none⟩])
  (.seq (.block 0 (.loop (.seq (.seq (.ops [⟨(some 34), .mv (.t 8), none⟩, ⟨(some 35), .mv (.t 7), none⟩, ⟨(some 36), .len false (.t 35), none⟩, ⟨(some 37), .bin .lss (.t 34) (.t 36), none⟩])
  (.cond (.t 37) .skip (.exit 0)))
  (.block 1 (.dops [⟨⟨(some 38), .mv (.t 8), none⟩, 0, false, false⟩, ⟨⟨(some 39), .mv (.t 7), none⟩, 1, false, false⟩, ⟨⟨(some 40), .mv (.t 8), none⟩, 2, false, false⟩, ⟨⟨(some 41), .slc 1 (.t 39) (some (.t 40)) none none, none⟩, 3, false, false⟩, ⟨⟨(some 42), .mv (.t 7), none⟩, 4, false, false⟩, ⟨⟨(some 43), .mv (.t 8), none⟩, 5, false, false⟩, ⟨⟨(some 44), .slc 1 (.t 42) none (some (.t 43)) none, none⟩, 6, false, false⟩, ⟨⟨(some 45), .cpy 1 (.t 41) (.t 44), none⟩, 7, true, false⟩, ⟨⟨(some 46), .bin .add (.t 38) (.t 45), none⟩, 8, false, false⟩, ⟨⟨(some 8), .mv (.t 46), none⟩, 9, true, false⟩])))))
  (.seq (.ops [⟨(some 47), .mv (.t 7), none⟩, ⟨(some 4), .mv (.t 47), none⟩])
  .ret))))))))
def r37 : List RV := [.t 4]
theorem fn37 : cFn Tryd.prog 37 = some (c37, r37, 48) := by kernel_rfl

/-- dynamo/heap.New -/
def c38 : MC :=
  (.seq (.ops [⟨(some 0), .mv (.c (.pointer none)), none⟩])
  (.seq (.ops [⟨(some 1), .bld [(.slice none 0 0)] [], none⟩, ⟨(some 2), .box (.t 1), none⟩, ⟨(some 0), .mv (.t 2), none⟩])
  .ret))
def r38 : List RV := [.t 0]
theorem fn38 : cFn Tryd.prog 38 = some (c38, r38, 3) := by kernel_rfl

/-- dynamo/grid.Open -/
def c39 : MC :=
  (.seq (.ops [⟨(some 2), .box (.t 0), none⟩, ⟨(some 4), .mv (.c (.bool false)), none⟩])
  (.seq (.ops [⟨(some 5), .loadN 3 (.t 2), none⟩, ⟨(some 6), .call 35 [(.t 5)], none⟩, ⟨(some 7), .mv (.t 6), none⟩, ⟨(some 8), .loadN 3 (.t 2), (some (7, true))⟩, ⟨(some 9), .mv (.t 1), (some (7, true))⟩, ⟨(some 10), .call 52 [(.t 8), (.t 9)], (some (7, true))⟩, ⟨(some 11), .pick (.t 7) (.t 10) (.c (.bool false)), none⟩, ⟨(some 4), .mv (.t 11), none⟩])
  .ret))
def r39 : List RV := [.t 4]
theorem fn39 : cFn Tryd.prog 39 = some (c39, r39, 12) := by kernel_rfl

/-- (*dynamo/heap.Heap).Push -/
def c40 : MC :=
  (.seq (.ops [⟨(some 3), .box (.t 1), none⟩])
  (.seq (.seq (.ops [⟨(some 5), .mv (.t 0), none⟩, ⟨(some 6), .eqN .ptr false (.t 5) (.c (.pointer none)), none⟩])
  (.cond (.t 6) .ret .skip))
  (.seq (.dops [⟨⟨(some 7), .mv (.t 0), none⟩, 0, false, false⟩, ⟨⟨(some 8), .mv (.t 0), none⟩, 1, false, false⟩, ⟨⟨(some 9), .nilck (.t 8), none⟩, 2, false, false⟩, ⟨⟨(some 10), .fadd 0 (.t 9), none⟩, 3, false, false⟩, ⟨⟨(some 11), .load1 (.t 10), none⟩, 4, false, false⟩, ⟨⟨(some 12), .loadN 2 (.t 3), none⟩, 5, false, false⟩, ⟨⟨(some 13), .bsl 2 1 [(.int .i64 0), (.int .i64 0)] [(0, (.t 12))], none⟩, 6, true, true⟩, ⟨⟨(some 14), .app 2 16 (.t 11) (.t 13), none⟩, 7, true, false⟩, ⟨⟨(some 15), .nilck (.t 7), none⟩, 8, false, false⟩, ⟨⟨(some 16), .fadd 0 (.t 15), none⟩, 9, false, false⟩, ⟨⟨none, .store 1 (.t 16) (.t 14), none⟩, 10, true, false⟩])
  (.seq (.ops [⟨(some 17), .mv (.t 0), none⟩, ⟨(some 18), .nilck (.t 17), none⟩, ⟨(some 19), .fadd 0 (.t 18), none⟩, ⟨(some 20), .load1 (.t 19), none⟩, ⟨(some 21), .len false (.t 20), none⟩, ⟨(some 22), .bin .sub (.t 21) (.c (.int .i64 1)), none⟩, ⟨(some 4), .mv (.t 22), none⟩])
  (.block 0 (.loop (.seq (.seq (.ops [⟨(some 23), .mv (.t 4), none⟩, ⟨(some 24), .bin .gtr (.t 23) (.c (.int .i64 0)), none⟩, ⟨(some 25), .mv (.t 24), none⟩, ⟨(some 26), .mv (.t 0), (some (25, true))⟩, ⟨(some 27), .mv (.t 4), (some (25, true))⟩, ⟨(some 28), .mv (.t 4), (some (25, true))⟩, ⟨(some 29), .bin .sub (.t 28) (.c (.int .i64 1)), (some (25, true))⟩, ⟨(some 30), .bin .quo (.t 29) (.c (.int .i64 2)), (some (25, true))⟩, ⟨(some 31), .call 53 [(.t 26), (.t 27), (.t 30)], (some (25, true))⟩, ⟨(some 32), .pick (.t 25) (.t 31) (.c (.bool false)), none⟩])
  (.cond (.t 32) .skip (.exit 0)))
  (.seq (.block 1 (.ops [⟨(some 36), .mv (.t 0), none⟩, ⟨(some 37), .mv (.t 4), none⟩, ⟨(some 38), .mv (.t 4), none⟩, ⟨(some 39), .bin .sub (.t 38) (.c (.int .i64 1)), none⟩, ⟨(some 40), .bin .quo (.t 39) (.c (.int .i64 2)), none⟩, ⟨(some 41), .call 54 [(.t 36), (.t 37), (.t 40)], none⟩]))
  (.ops [⟨(some 33), .mv (.t 4), none⟩, ⟨(some 34), .bin .sub (.t 33) (.c (.int .i64 1)), none⟩, ⟨(some 35), .bin .quo (.t 34) (.c (.int .i64 2)), none⟩, ⟨(some 4), .mv (.t 35), none⟩])))))))))
def r40 : List RV := []
theorem fn40 : cFn Tryd.prog 40 = some (c40, r40, 42) := by kernel_rfl

/-- (*dynamo/heap.Heap).Pop -/
def c41 : MC :=
  (.seq (.ops [⟨(some 2), .alloc [(.int .i64 0), (.int .i64 0)], none⟩, ⟨(some 3), .mv (.c (.bool false)), none⟩])
  (.seq (.seq (.ops [⟨(some 6), .mv (.t 0), none⟩, ⟨(some 7), .call 55 [(.t 6)], none⟩, ⟨(some 8), .bin .eql (.t 7) (.c (.int .i64 0)), none⟩])
  (.cond (.t 8) (.seq (.ops [⟨(some 9), .bld [(.int .i64 0), (.int .i64 0)] [], none⟩, ⟨none, .store 2 (.t 2) (.t 9), none⟩, ⟨(some 3), .mv (.c (.bool false)), none⟩])
  .ret) .skip))
  (.seq (.ops [⟨(some 10), .mv (.t 0), none⟩, ⟨(some 11), .nilck (.t 10), none⟩, ⟨(some 12), .fadd 0 (.t 11), none⟩, ⟨(some 13), .load1 (.t 12), none⟩, ⟨(some 14), .iaS 2 (.t 13) (.c (.int .i64 0)), none⟩, ⟨(some 15), .loadN 2 (.t 14), none⟩, ⟨(some 4), .alloc [(.int .i64 0), (.int .i64 0)], none⟩, ⟨none, .store 2 (.t 4) (.t 15), none⟩])
  (.seq (.ops [⟨(some 16), .mv (.t 0), none⟩, ⟨(some 17), .nilck (.t 16), none⟩, ⟨(some 18), .fadd 0 (.t 17), none⟩, ⟨(some 19), .load1 (.t 18), none⟩, ⟨(some 20), .len false (.t 19), none⟩, ⟨(some 21), .bin .sub (.t 20) (.c (.int .i64 1)), none⟩, ⟨(some 5), .mv (.t 21), none⟩])
  (.seq (.dops [⟨⟨(some 22), .mv (.t 0), none⟩, 0, false, false⟩, ⟨⟨(some 23), .nilck (.t 22), none⟩, 1, false, false⟩, ⟨⟨(some 24), .fadd 0 (.t 23), none⟩, 2, false, false⟩, ⟨⟨(some 25), .load1 (.t 24), none⟩, 3, false, false⟩, ⟨⟨(some 26), .mv (.t 0), none⟩, 4, false, false⟩, ⟨⟨(some 27), .nilck (.t 26), none⟩, 5, false, false⟩, ⟨⟨(some 28), .fadd 0 (.t 27), none⟩, 6, false, false⟩, ⟨⟨(some 29), .load1 (.t 28), none⟩, 7, false, false⟩, ⟨⟨(some 30), .mv (.t 5), none⟩, 8, false, false⟩, ⟨⟨(some 31), .iaS 2 (.t 29) (.t 30), none⟩, 9, false, false⟩, ⟨⟨(some 32), .loadN 2 (.t 31), none⟩, 10, false, false⟩, ⟨⟨(some 33), .iaS 2 (.t 25) (.c (.int .i64 0)), none⟩, 11, false, false⟩, ⟨⟨none, .store 2 (.t 33) (.t 32), none⟩, 12, true, false⟩])
  (.seq (.ops [⟨(some 34), .mv (.t 0), none⟩, ⟨(some 35), .mv (.t 0), none⟩, ⟨(some 36), .nilck (.t 35), none⟩, ⟨(some 37), .fadd 0 (.t 36), none⟩, ⟨(some 38), .load1 (.t 37), none⟩, ⟨(some 39), .mv (.t 5), none⟩, ⟨(some 40), .slc 2 (.t 38) none (some (.t 39)) none, none⟩, ⟨(some 41), .nilck (.t 34), none⟩, ⟨(some 42), .fadd 0 (.t 41), none⟩, ⟨none, .store 1 (.t 42) (.t 40), none⟩])
  (.seq (.ops [⟨(some 43), .mv (.t 0), none⟩, ⟨(some 44), .call 56 [(.t 43)], none⟩])
  (.seq (.ops [⟨(some 45), .loadN 2 (.t 4), none⟩, ⟨none, .store 2 (.t 2) (.t 45), none⟩, ⟨(some 3), .mv (.c (.bool true)), none⟩])
  .ret))))))))
def r41 : List RV := [.cell 2 2 true, .t 3]
theorem fn41 : cFn Tryd.prog 41 = some (c41, r41, 46) := by kernel_rfl

/-- errors.As -/
def c42 : MC :=
  (.seq (.ops [⟨(some 4), .mv (.c (.bool false)), none⟩])
  (.seq (.seq (.ops [⟨(some 8), .mv (.t 0), none⟩, ⟨(some 9), .eqN .iface false (.t 8) (.c .nilIface), none⟩])
  (.cond (.t 9) (.seq (.ops [⟨(some 4), .mv (.c (.bool false)), none⟩])
  .ret) .skip))
  (.seq (.seq (.ops [⟨(some 10), .mv (.t 1), none⟩, ⟨(some 11), .eqN .iface false (.t 10) (.c .nilIface), none⟩])
  (.cond (.t 11) (.ops [⟨(some 12), .mki 9 (.c (.string ⟨#[101, 114, 114, 111, 114, 115, 58, 32, 116, 97, 114, 103, 101, 116, 32, 99, 97, 110, 110, 111, 116, 32, 98, 101, 32, 110, 105, 108]⟩)), none⟩, ⟨none, .bad, none⟩]) .skip))
  (.seq (.ops [⟨(some 13), .mv (.t 1), none⟩, ⟨(some 14), .call 57 [(.t 13)], none⟩, ⟨(some 5), .alloc [(.pointer none), (.pointer none), (.int .u64 0)], none⟩, ⟨none, .store 3 (.t 5) (.t 14), none⟩])
  (.seq (.ops [⟨(some 15), .loadN 3 (.t 5), none⟩, ⟨(some 16), .call 58 [(.t 15)], none⟩, ⟨(some 6), .mv (.t 16), none⟩])
  (.seq (.seq (.ops [⟨(some 17), .mv (.t 6), none⟩, ⟨(some 18), .bad, none⟩, ⟨(some 19), .bin .neq (.t 18) (.c (.int .u8 22)), none⟩, ⟨(some 20), .mv (.t 19), none⟩, ⟨(some 21), .loadN 3 (.t 5), (some (20, false))⟩, ⟨(some 22), .call 59 [(.t 21)], (some (20, false))⟩, ⟨(some 23), .pick (.t 20) (.c (.bool true)) (.t 22), none⟩])
  (.cond (.t 23) (.ops [⟨(some 24), .mki 9 (.c (.string ⟨#[101, 114, 114, 111, 114, 115, 58, 32, 116, 97, 114, 103, 101, 116, 32, 109, 117, 115, 116, 32, 98, 101, 32, 97, 32, 110, 111, 110, 45, 110, 105, 108, 32, 112, 111, 105, 110, 116, 101, 114]⟩)), none⟩, ⟨none, .bad, none⟩]) .skip))
  (.seq (.ops [⟨(some 25), .mv (.t 6), none⟩, ⟨(some 26), .bad, none⟩, ⟨(some 7), .mv (.t 26), none⟩])
  (.seq (.seq (.ops [⟨(some 27), .mv (.t 7), none⟩, ⟨(some 28), .bad, none⟩, ⟨(some 29), .bin .neq (.t 28) (.c (.int .u8 20)), none⟩, ⟨(some 30), .mv (.t 29), none⟩, ⟨(some 31), .mv (.t 7), (some (30, true))⟩, ⟨(some 32), .bad, (some (30, true))⟩, ⟨(some 33), .bad, (some (30, true))⟩, ⟨(some 34), .not (.t 33), (some (30, true))⟩, ⟨(some 35), .pick (.t 30) (.t 34) (.c (.bool false)), none⟩])
  (.cond (.t 35) (.ops [⟨(some 36), .mki 9 (.c (.string ⟨#[101, 114, 114, 111, 114, 115, 58, 32, 42, 116, 97, 114, 103, 101, 116, 32, 109, 117, 115, 116, 32, 98, 101, 32, 105, 110, 116, 101, 114, 102, 97, 99, 101, 32, 111, 114, 32, 105, 109, 112, 108, 101, 109, 101, 110, 116, 32, 101, 114, 114, 111, 114]⟩)), none⟩, ⟨none, .bad, none⟩]) .skip))
  (.seq (.ops [⟨(some 37), .mv (.t 0), none⟩, ⟨(some 38), .mv (.t 1), none⟩, ⟨(some 39), .loadN 3 (.t 5), none⟩, ⟨(some 40), .mv (.t 7), none⟩, ⟨(some 41), .call 60 [(.t 37), (.t 38), (.t 39), (.t 40)], none⟩, ⟨(some 4), .mv (.t 41), none⟩])
  .ret)))))))))
def r42 : List RV := [.t 4]
theorem fn42 : cFn Tryd.prog 42 = some (c42, r42, 42) := by kernel_rfl

/-- (dynamo/grid.Map).near -/
def c43 : MC :=
  (.seq (.ops [⟨(some 2), .box (.t 0), none⟩, ⟨(some 4), .mv (.c (.slice none 0 0)), none⟩])
  (.seq (.ops [⟨(some 5), .alloc [(.slice none 0 0)], none⟩])
  (.seq (.ops [⟨(some 8), .mkf (.func 61) [] [(.t 2), (.t 5)], none⟩, ⟨(some 6), .mv (.t 8), none⟩])
  (.seq (.ops [⟨(some 9), .mv (.t 1), none⟩, ⟨(some 10), .fadd 0 (.t 2), none⟩, ⟨(some 11), .load1 (.t 10), none⟩, ⟨(some 12), .bin .rem (.t 9) (.t 11), none⟩, ⟨(some 7), .mv (.t 12), none⟩])
  (.seq (.ops [⟨(some 13), .mv (.t 6), none⟩, ⟨(some 14), .mv (.t 1), none⟩, ⟨(some 15), .fadd 0 (.t 2), none⟩, ⟨(some 16), .load1 (.t 15), none⟩, ⟨(some 17), .bin .sub (.t 14) (.t 16), none⟩, ⟨(some 18), .callv (.t 13) [(.t 17), (.c (.bool true))], none⟩])
  (.seq (.ops [⟨(some 19), .mv (.t 6), none⟩, ⟨(some 20), .mv (.t 1), none⟩, ⟨(some 21), .bin .sub (.t 20) (.c (.int .i64 1)), none⟩, ⟨(some 22), .mv (.t 7), none⟩, ⟨(some 23), .bin .gtr (.t 22) (.c (.int .i64 0)), none⟩, ⟨(some 24), .callv (.t 19) [(.t 21), (.t 23)], none⟩])
  (.seq (.ops [⟨(some 25), .mv (.t 6), none⟩, ⟨(some 26), .mv (.t 1), none⟩, ⟨(some 27), .bin .add (.t 26) (.c (.int .i64 1)), none⟩, ⟨(some 28), .mv (.t 7), none⟩, ⟨(some 29), .fadd 0 (.t 2), none⟩, ⟨(some 30), .load1 (.t 29), none⟩, ⟨(some 31), .bin .sub (.t 30) (.c (.int .i64 1)), none⟩, ⟨(some 32), .bin .lss (.t 28) (.t 31), none⟩, ⟨(some 33), .callv (.t 25) [(.t 27), (.t 32)], none⟩])
  (.seq (.ops [⟨(some 34), .mv (.t 6), none⟩, ⟨(some 35), .mv (.t 1), none⟩, ⟨(some 36), .fadd 0 (.t 2), none⟩, ⟨(some 37), .load1 (.t 36), none⟩, ⟨(some 38), .bin .add (.t 35) (.t 37), none⟩, ⟨(some 39), .callv (.t 34) [(.t 38), (.c (.bool true))], none⟩])
  (.seq (.ops [⟨(some 40), .load1 (.t 5), none⟩, ⟨(some 4), .mv (.t 40), none⟩])
  .ret)))))))))
def r43 : List RV := [.t 4]
theorem fn43 : cFn Tryd.prog 43 = some (c43, r43, 41) := by kernel_rfl

/-- dynamo/heap.Sorted -/
def c44 : MC :=
  (.seq (.ops [⟨(some 2), .mv (.c (.slice none 0 0)), none⟩])
  (.seq (.ops [⟨(some 10), .call 38 [], none⟩, ⟨(some 3), .mv (.t 10), none⟩])
  (.seq (.ops [⟨(some 11), .mv (.t 3), none⟩, ⟨(some 12), .mkf (.func 40) [(.t 11)] [], none⟩, ⟨(some 4), .mv (.t 12), none⟩])
  (.seq (.seq (.ops [⟨(some 13), .mv (.t 0), none⟩, ⟨(some 14), .len false (.t 13), none⟩, ⟨(some 15), .mv (.c (.int .i64 0)), none⟩])
  (.block 0 (.loop (.seq (.ops [⟨(some 16), .bin .lss (.t 15) (.t 14), none⟩])
  (.seq (.cond (.t 16) .skip (.exit 0))
  (.seq (.block 1 (.seq (.ops [⟨(some 17), .iaS 2 (.t 13) (.t 15), none⟩, ⟨(some 18), .loadN 2 (.t 17), none⟩, ⟨(some 6), .alloc [(.int .i64 0), (.int .i64 0)], none⟩, ⟨none, .store 2 (.t 6) (.t 18), none⟩])
  (.ops [⟨(some 19), .mv (.t 4), none⟩, ⟨(some 20), .loadN 2 (.t 6), none⟩, ⟨(some 21), .callv (.t 19) [(.t 20)], none⟩])))
  (.ops [⟨(some 22), .bin .add (.t 15) (.c (.int .i64 1)), none⟩, ⟨(some 15), .mv (.t 22), none⟩])))))))
  (.seq (.ops [⟨(some 7), .mv (.c (.slice none 0 0)), none⟩])
  (.seq (.seq (.ops [⟨(some 24), .mv (.t 3), none⟩, ⟨(some 25), .call 41 [(.t 24)], none⟩, ⟨(some 23), .mv (.t 25), none⟩, ⟨(some 26), .ext (.t 23) 0, none⟩, ⟨(some 27), .ext (.t 23) 1, none⟩, ⟨(some 8), .alloc [(.int .i64 0), (.int .i64 0)], none⟩, ⟨none, .store 2 (.t 8) (.t 26), none⟩, ⟨(some 9), .mv (.t 27), none⟩])
  (.block 2 (.loop (.seq (.seq (.ops [⟨(some 28), .mv (.t 9), none⟩])
  (.cond (.t 28) .skip (.exit 2)))
  (.seq (.block 3 (.ops [⟨(some 34), .mv (.t 7), none⟩, ⟨(some 35), .loadN 2 (.t 8), none⟩, ⟨(some 36), .bsl 2 1 [(.int .i64 0), (.int .i64 0)] [(0, (.t 35))], none⟩, ⟨(some 37), .app 2 16 (.t 34) (.t 36), none⟩, ⟨(some 7), .mv (.t 37), none⟩]))
  (.seq (.seq (.ops [⟨(some 38), .loadN 2 (.t 8), none⟩])
  (.ops [⟨(some 8), .alloc [(.int .i64 0), (.int .i64 0)], none⟩, ⟨none, .store 2 (.t 8) (.t 38), none⟩]))
  (.ops [⟨(some 30), .mv (.t 3), none⟩, ⟨(some 31), .call 41 [(.t 30)], none⟩, ⟨(some 29), .mv (.t 31), none⟩, ⟨(some 32), .ext (.t 29) 0, none⟩, ⟨(some 33), .ext (.t 29) 1, none⟩, ⟨none, .store 2 (.t 8) (.t 32), none⟩, ⟨(some 9), .mv (.t 33), none⟩])))))))
  (.seq (.ops [⟨(some 39), .mv (.t 7), none⟩, ⟨(some 2), .mv (.t 39), none⟩])
  .ret)))))))
def r44 : List RV := [.t 2]
theorem fn44 : cFn Tryd.prog 44 = some (c44, r44, 40) := by kernel_rfl

/-- slices.IndexFunc[[]int,int] -/
def c45 : MC :=
  (.seq (.ops [⟨(some 4), .mv (.c (.int .i64 0)), none⟩])
  (.seq (.seq (.ops [⟨(some 6), .mv (.t 0), none⟩, ⟨(some 7), .len false (.t 6), none⟩, ⟨(some 8), .mv (.c (.int .i64 0)), none⟩])
  (.block 0 (.loop (.seq (.ops [⟨(some 9), .bin .lss (.t 8) (.t 7), none⟩])
  (.seq (.cond (.t 9) .skip (.exit 0))
  (.seq (.block 1 (.seq (.ops [⟨(some 10), .mv (.t 8), none⟩, ⟨(some 5), .mv (.t 10), none⟩])
  (.seq (.ops [⟨(some 11), .mv (.t 1), none⟩, ⟨(some 12), .mv (.t 0), none⟩, ⟨(some 13), .mv (.t 5), none⟩, ⟨(some 14), .iaS 1 (.t 12) (.t 13), none⟩, ⟨(some 15), .load1 (.t 14), none⟩, ⟨(some 16), .callv (.t 11) [(.t 15)], none⟩])
  (.cond (.t 16) (.seq (.ops [⟨(some 17), .mv (.t 5), none⟩, ⟨(some 4), .mv (.t 17), none⟩])
  .ret) .skip))))
  (.ops [⟨(some 18), .bin .add (.t 8) (.c (.int .i64 1)), none⟩, ⟨(some 8), .mv (.t 18), none⟩])))))))
  (.seq (.ops [⟨(some 4), .mv (.c (.int .i64 (-1))), none⟩])
  .ret)))
def r45 : List RV := [.t 4]
theorem fn45 : cFn Tryd.prog 45 = some (c45, r45, 19) := by kernel_rfl

/-- dynamo/route.Next$1 -/
def c46 : MC :=
  (.seq (.ops [⟨(some 3), .mv (.c (.bool false)), none⟩])
  (.seq (.ops [⟨(some 4), .mv (.t 0), none⟩, ⟨(some 5), .load1 (.t 1), none⟩, ⟨(some 6), .len false (.t 5), none⟩, ⟨(some 7), .bin .geq (.t 4) (.t 6), none⟩, ⟨(some 8), .mv (.t 7), none⟩, ⟨(some 9), .load1 (.t 1), (some (8, false))⟩, ⟨(some 10), .mv (.t 0), (some (8, false))⟩, ⟨(some 11), .iaS 1 (.t 9) (.t 10), (some (8, false))⟩, ⟨(some 12), .load1 (.t 11), (some (8, false))⟩, ⟨(some 13), .not (.t 12), (some (8, false))⟩, ⟨(some 14), .pick (.t 8) (.c (.bool true)) (.t 13), none⟩, ⟨(some 3), .mv (.t 14), none⟩])
  .ret))
def r46 : List RV := [.t 3]
theorem fn46 : cFn Tryd.prog 46 = some (c46, r46, 15) := by kernel_rfl

/-- dynamo/grid.sized -/
def c47 : MC :=
  (.seq (.ops [⟨(some 1), .box (.t 0), none⟩, ⟨(some 2), .mv (.c (.bool false)), none⟩])
  (.seq (.ops [⟨(some 3), .mv (.f 62), none⟩])
  (.seq (.ops [⟨(some 4), .mv (.t 3), none⟩, ⟨(some 5), .fadd 0 (.t 1), none⟩, ⟨(some 6), .load1 (.t 5), none⟩, ⟨(some 7), .callv (.t 4) [(.t 6)], none⟩, ⟨(some 8), .mv (.t 7), none⟩, ⟨(some 9), .mv (.t 3), (some (8, true))⟩, ⟨(some 10), .fadd 1 (.t 1), (some (8, true))⟩, ⟨(some 11), .load1 (.t 10), (some (8, true))⟩, ⟨(some 12), .callv (.t 9) [(.t 11)], (some (8, true))⟩, ⟨(some 13), .pick (.t 8) (.t 12) (.c (.bool false)), none⟩, ⟨(some 14), .mv (.t 13), none⟩, ⟨(some 15), .fadd 2 (.t 1), (some (14, true))⟩, ⟨(some 16), .load1 (.t 15), (some (14, true))⟩, ⟨(some 17), .len true (.t 16), (some (14, true))⟩, ⟨(some 18), .fadd 0 (.t 1), (some (14, true))⟩, ⟨(some 19), .load1 (.t 18), (some (14, true))⟩, ⟨(some 20), .fadd 1 (.t 1), (some (14, true))⟩, ⟨(some 21), .load1 (.t 20), (some (14, true))⟩, ⟨(some 22), .bin .mul (.t 19) (.t 21), (some (14, true))⟩, ⟨(some 23), .bin .eql (.t 17) (.t 22), (some (14, true))⟩, ⟨(some 24), .pick (.t 14) (.t 23) (.c (.bool false)), none⟩, ⟨(some 25), .mv (.t 24), none⟩, ⟨(some 26), .fadd 2 (.t 1), (some (25, true))⟩, ⟨(some 27), .load1 (.t 26), (some (25, true))⟩, ⟨(some 28), .call 63 [(.t 27), (.c (.string ⟨#[35, 46, 67, 80]⟩))], (some (25, true))⟩, ⟨(some 29), .bin .eql (.t 28) (.c (.string ⟨#[]⟩)), (some (25, true))⟩, ⟨(some 30), .pick (.t 25) (.t 29) (.c (.bool false)), none⟩, ⟨(some 31), .mv (.t 30), none⟩, ⟨(some 32), .fadd 2 (.t 1), (some (31, true))⟩, ⟨(some 33), .load1 (.t 32), (some (31, true))⟩, ⟨(some 34), .call 64 [(.t 33), (.f 65)], (some (31, true))⟩, ⟨(some 35), .not (.t 34), (some (31, true))⟩, ⟨(some 36), .pick (.t 31) (.t 35) (.c (.bool false)), none⟩, ⟨(some 2), .mv (.t 36), none⟩])
  .ret)))
def r47 : List RV := [.t 2]
theorem fn47 : cFn Tryd.prog 47 = some (c47, r47, 37) := by kernel_rfl

/-- strings.Index -/
def c48 : MC :=
  (.seq (.ops [⟨(some 4), .mv (.c (.int .i64 0)), none⟩])
  (.seq (.ops [⟨(some 5), .mv (.t 0), none⟩, ⟨(some 6), .mv (.t 1), none⟩, ⟨(some 7), .call 67 [(.t 5), (.t 6)], none⟩, ⟨(some 4), .mv (.t 7), none⟩])
  .ret))
def r48 : List RV := [.t 4]
theorem fn48 : cFn Tryd.prog 48 = some (c48, r48, 8) := by kernel_rfl

/-- (dynamo/grid.Map).reached -/
def c49 : MC :=
  (.seq (.ops [⟨(some 2), .box (.t 0), none⟩, ⟨(some 4), .mv (.c (.int .i64 0)), none⟩])
  (.seq (.ops [⟨(some 10), .mkmap, none⟩, ⟨(some 11), .mv (.t 1), none⟩, ⟨none, .mupd .int (.t 10) (.t 11) (.c (.bool true)), none⟩, ⟨(some 12), .mv (.t 10), none⟩, ⟨(some 5), .mv (.t 12), none⟩])
  (.seq (.ops [⟨(some 13), .mv (.t 1), none⟩, ⟨(some 14), .bsl 1 1 [(.int .i64 0)] [(0, (.t 13))], none⟩, ⟨(some 6), .mv (.t 14), none⟩])
  (.seq (.block 0 (.loop (.seq (.seq (.ops [⟨(some 15), .mv (.t 6), none⟩, ⟨(some 16), .len false (.t 15), none⟩, ⟨(some 17), .bin .gtr (.t 16) (.c (.int .i64 0)), none⟩])
  (.cond (.t 17) .skip (.exit 0)))
  (.block 1 (.seq (.ops [⟨(some 18), .mv (.t 6), none⟩, ⟨(some 19), .iaS 1 (.t 18) (.c (.int .i64 0)), none⟩, ⟨(some 20), .load1 (.t 19), none⟩, ⟨(some 7), .mv (.t 20), none⟩])
  (.seq (.ops [⟨(some 21), .mv (.t 6), none⟩, ⟨(some 22), .slc 1 (.t 21) (some (.c (.int .i64 1))) none none, none⟩, ⟨(some 6), .mv (.t 22), none⟩])
  (.seq (.ops [⟨(some 23), .loadN 3 (.t 2), none⟩, ⟨(some 24), .mv (.t 7), none⟩, ⟨(some 25), .call 43 [(.t 23), (.t 24)], none⟩, ⟨(some 26), .len false (.t 25), none⟩, ⟨(some 27), .mv (.c (.int .i64 0)), none⟩])
  (.block 2 (.loop (.seq (.ops [⟨(some 28), .bin .lss (.t 27) (.t 26), none⟩])
  (.seq (.cond (.t 28) .skip (.exit 2))
  (.seq (.block 3 (.seq (.ops [⟨(some 29), .iaS 1 (.t 25) (.t 27), none⟩, ⟨(some 30), .load1 (.t 29), none⟩, ⟨(some 9), .mv (.t 30), none⟩])
  (.seq (.ops [⟨(some 31), .mv (.t 5), none⟩, ⟨(some 32), .mv (.t 9), none⟩, ⟨(some 33), .mlook .int false (.bool false) (.t 31) (.t 32), none⟩, ⟨(some 34), .not (.t 33), none⟩])
  (.cond (.t 34) (.seq (.ops [⟨(some 35), .mv (.t 5), none⟩, ⟨(some 36), .mv (.t 9), none⟩, ⟨none, .mupd .int (.t 35) (.t 36) (.c (.bool true)), none⟩])
  (.ops [⟨(some 37), .mv (.t 6), none⟩, ⟨(some 38), .mv (.t 9), none⟩, ⟨(some 39), .bsl 1 1 [(.int .i64 0)] [(0, (.t 38))], none⟩, ⟨(some 40), .app 1 8 (.t 37) (.t 39), none⟩, ⟨(some 6), .mv (.t 40), none⟩])) .skip))))
  (.ops [⟨(some 41), .bin .add (.t 27) (.c (.int .i64 1)), none⟩, ⟨(some 27), .mv (.t 41), none⟩])))))))))))))
  (.seq (.ops [⟨(some 42), .mv (.t 5), none⟩, ⟨(some 43), .mlen (.t 42), none⟩, ⟨(some 4), .mv (.t 43), none⟩])
  .ret)))))
def r49 : List RV := [.t 4]
theorem fn49 : cFn Tryd.prog 49 = some (c49, r49, 44) := by kernel_rfl

/-- strings.Count -/
def c50 : MC :=
  (.seq (.ops [⟨(some 4), .mv (.c (.int .i64 0)), none⟩])
  (.seq (.seq (.ops [⟨(some 7), .mv (.t 1), none⟩, ⟨(some 8), .len true (.t 7), none⟩, ⟨(some 9), .bin .eql (.t 8) (.c (.int .i64 0)), none⟩])
  (.cond (.t 9) (.seq (.ops [⟨(some 10), .mv (.t 0), none⟩, ⟨(some 11), .call 68 [(.t 10)], none⟩, ⟨(some 12), .bin .add (.t 11) (.c (.int .i64 1)), none⟩, ⟨(some 4), .mv (.t 12), none⟩])
  .ret) .skip))
  (.seq (.seq (.ops [⟨(some 13), .mv (.t 1), none⟩, ⟨(some 14), .len true (.t 13), none⟩, ⟨(some 15), .bin .eql (.t 14) (.c (.int .i64 1)), none⟩])
  (.cond (.t 15) (.seq (.ops [⟨(some 16), .mv (.t 0), none⟩, ⟨(some 17), .mv (.t 1), none⟩, ⟨(some 18), .idxS (.t 17) (.c (.int .i64 0)), none⟩, ⟨(some 19), .call 69 [(.t 16), (.t 18)], none⟩, ⟨(some 4), .mv (.t 19), none⟩])
  .ret) .skip))
  (.seq (.ops [⟨(some 5), .mv (.c (.int .i64 0)), none⟩])
  (.block 0 (.loop (.block 1 (.seq (.ops [⟨(some 20), .mv (.t 0), none⟩, ⟨(some 21), .mv (.t 1), none⟩, ⟨(some 22), .call 48 [(.t 20), (.t 21)], none⟩, ⟨(some 6), .mv (.t 22), none⟩])
  (.seq (.seq (.ops [⟨(some 23), .mv (.t 6), none⟩, ⟨(some 24), .bin .eql (.t 23) (.c (.int .i64 (-1))), none⟩])
  (.cond (.t 24) (.seq (.ops [⟨(some 25), .mv (.t 5), none⟩, ⟨(some 4), .mv (.t 25), none⟩])
  .ret) .skip))
  (.seq (.ops [⟨(some 26), .mv (.t 5), none⟩, ⟨(some 27), .bin .add (.t 26) (.c (.int .i64 1)), none⟩, ⟨(some 5), .mv (.t 27), none⟩])
  (.ops [⟨(some 28), .mv (.t 0), none⟩, ⟨(some 29), .mv (.t 6), none⟩, ⟨(some 30), .mv (.t 1), none⟩, ⟨(some 31), .len true (.t 30), none⟩, ⟨(some 32), .bin .add (.t 29) (.t 31), none⟩, ⟨(some 33), .slcS (.t 28) (some (.t 32)) none, none⟩, ⟨(some 0), .mv (.t 33), none⟩])))))))))))
def r50 : List RV := [.t 4]
theorem fn50 : cFn Tryd.prog 50 = some (c50, r50, 34) := by kernel_rfl

/-- math/bits.Mul -/
def c51 : MC :=
  (.seq (.ops [⟨(some 4), .mv (.c (.int .u64 0)), none⟩, ⟨(some 5), .mv (.c (.int .u64 0)), none⟩])
  (.seq (.cond (.c (.bool false)) (.seq (.ops [⟨(some 11), .mv (.t 0), none⟩, ⟨(some 12), .conv .u32 (.t 11), none⟩, ⟨(some 13), .mv (.t 1), none⟩, ⟨(some 14), .conv .u32 (.t 13), none⟩, ⟨(some 15), .call 70 [(.t 12), (.t 14)], none⟩, ⟨(some 10), .mv (.t 15), none⟩, ⟨(some 16), .ext (.t 10) 0, none⟩, ⟨(some 17), .ext (.t 10) 1, none⟩, ⟨(some 6), .mv (.t 16), none⟩, ⟨(some 7), .mv (.t 17), none⟩])
  (.seq (.ops [⟨(some 18), .mv (.t 6), none⟩, ⟨(some 19), .conv .u64 (.t 18), none⟩, ⟨(some 20), .mv (.t 7), none⟩, ⟨(some 21), .conv .u64 (.t 20), none⟩, ⟨(some 4), .mv (.t 19), none⟩, ⟨(some 5), .mv (.t 21), none⟩])
  .ret)) .skip)
  (.seq (.ops [⟨(some 23), .mv (.t 0), none⟩, ⟨(some 24), .mv (.t 1), none⟩, ⟨(some 25), .call 71 [(.t 23), (.t 24)], none⟩, ⟨(some 22), .mv (.t 25), none⟩, ⟨(some 26), .ext (.t 22) 0, none⟩, ⟨(some 27), .ext (.t 22) 1, none⟩, ⟨(some 8), .mv (.t 26), none⟩, ⟨(some 9), .mv (.t 27), none⟩])
  (.seq (.ops [⟨(some 28), .mv (.t 8), none⟩, ⟨(some 29), .mv (.t 9), none⟩, ⟨(some 4), .mv (.t 28), none⟩, ⟨(some 5), .mv (.t 29), none⟩])
  .ret))))
def r51 : List RV := [.t 4, .t 5]
theorem fn51 : cFn Tryd.prog 51 = some (c51, r51, 30) := by kernel_rfl

/-- (dynamo/grid.Map).open -/
def c52 : MC :=
  (.seq (.ops [⟨(some 2), .box (.t 0), none⟩, ⟨(some 4), .mv (.c (.bool false)), none⟩])
  (.seq (.ops [⟨(some 5), .mv (.t 1), none⟩, ⟨(some 6), .bin .geq (.t 5) (.c (.int .i64 0)), none⟩, ⟨(some 7), .mv (.t 6), none⟩, ⟨(some 8), .mv (.t 1), (some (7, true))⟩, ⟨(some 9), .fadd 2 (.t 2), (some (7, true))⟩, ⟨(some 10), .load1 (.t 9), (some (7, true))⟩, ⟨(some 11), .len true (.t 10), (some (7, true))⟩, ⟨(some 12), .bin .lss (.t 8) (.t 11), (some (7, true))⟩, ⟨(some 13), .pick (.t 7) (.t 12) (.c (.bool false)), none⟩, ⟨(some 14), .mv (.t 13), none⟩, ⟨(some 15), .fadd 2 (.t 2), (some (14, true))⟩, ⟨(some 16), .load1 (.t 15), (some (14, true))⟩, ⟨(some 17), .mv (.t 1), (some (14, true))⟩, ⟨(some 18), .idxS (.t 16) (.t 17), (some (14, true))⟩, ⟨(some 19), .bin .neq (.t 18) (.c (.int .u8 35)), (some (14, true))⟩, ⟨(some 20), .pick (.t 14) (.t 19) (.c (.bool false)), none⟩, ⟨(some 4), .mv (.t 20), none⟩])
  .ret))
def r52 : List RV := [.t 4]
theorem fn52 : cFn Tryd.prog 52 = some (c52, r52, 21) := by kernel_rfl

/-- (*dynamo/heap.Heap).less -/
def c53 : MC :=
  (.seq (.ops [⟨(some 6), .mv (.c (.bool false)), none⟩])
  (.seq (.dops [⟨⟨(some 7), .mv (.t 0), none⟩, 0, false, false⟩, ⟨⟨(some 8), .nilck (.t 7), none⟩, 1, false, false⟩, ⟨⟨(some 9), .fadd 0 (.t 8), none⟩, 2, false, false⟩, ⟨⟨(some 10), .load1 (.t 9), none⟩, 3, false, false⟩, ⟨⟨(some 11), .mv (.t 1), none⟩, 4, false, false⟩, ⟨⟨(some 12), .iaS 2 (.t 10) (.t 11), none⟩, 5, false, false⟩, ⟨⟨(some 13), .loadN 2 (.t 12), none⟩, 6, false, false⟩, ⟨⟨(some 14), .mv (.t 0), none⟩, 7, false, false⟩, ⟨⟨(some 15), .nilck (.t 14), none⟩, 8, false, false⟩, ⟨⟨(some 16), .fadd 0 (.t 15), none⟩, 9, false, false⟩, ⟨⟨(some 17), .load1 (.t 16), none⟩, 10, false, false⟩, ⟨⟨(some 18), .mv (.t 2), none⟩, 11, false, false⟩, ⟨⟨(some 19), .iaS 2 (.t 17) (.t 18), none⟩, 12, false, false⟩, ⟨⟨(some 20), .loadN 2 (.t 19), none⟩, 13, false, false⟩, ⟨⟨(some 21), .call 72 [(.t 13), (.t 20)], none⟩, 14, true, false⟩, ⟨⟨(some 6), .mv (.t 21), none⟩, 15, false, false⟩])
  .ret))
def r53 : List RV := [.t 6]
theorem fn53 : cFn Tryd.prog 53 = some (c53, r53, 22) := by kernel_rfl

/-- (*dynamo/heap.Heap).swap -/
def c54 : MC :=
  (.dops [⟨⟨(some 6), .mv (.t 0), none⟩, 0, false, false⟩, ⟨⟨(some 7), .nilck (.t 6), none⟩, 1, false, false⟩, ⟨⟨(some 8), .fadd 0 (.t 7), none⟩, 2, false, false⟩, ⟨⟨(some 9), .load1 (.t 8), none⟩, 3, false, false⟩, ⟨⟨(some 10), .mv (.t 1), none⟩, 4, false, false⟩, ⟨⟨(some 11), .mv (.t 0), none⟩, 5, false, false⟩, ⟨⟨(some 12), .nilck (.t 11), none⟩, 6, false, false⟩, ⟨⟨(some 13), .fadd 0 (.t 12), none⟩, 7, false, false⟩, ⟨⟨(some 14), .load1 (.t 13), none⟩, 8, false, false⟩, ⟨⟨(some 15), .mv (.t 2), none⟩, 9, false, false⟩, ⟨⟨(some 16), .mv (.t 0), none⟩, 10, false, false⟩, ⟨⟨(some 17), .nilck (.t 16), none⟩, 11, false, false⟩, ⟨⟨(some 18), .fadd 0 (.t 17), none⟩, 12, false, false⟩, ⟨⟨(some 19), .load1 (.t 18), none⟩, 13, false, false⟩, ⟨⟨(some 20), .mv (.t 2), none⟩, 14, false, false⟩, ⟨⟨(some 21), .iaS 2 (.t 19) (.t 20), none⟩, 15, false, false⟩, ⟨⟨(some 22), .loadN 2 (.t 21), none⟩, 16, false, false⟩, ⟨⟨(some 23), .mv (.t 0), none⟩, 17, false, false⟩, ⟨⟨(some 24), .nilck (.t 23), none⟩, 18, false, false⟩, ⟨⟨(some 25), .fadd 0 (.t 24), none⟩, 19, false, false⟩, ⟨⟨(some 26), .load1 (.t 25), none⟩, 20, false, false⟩, ⟨⟨(some 27), .mv (.t 1), none⟩, 21, false, false⟩, ⟨⟨(some 28), .iaS 2 (.t 26) (.t 27), none⟩, 22, false, false⟩, ⟨⟨(some 29), .loadN 2 (.t 28), none⟩, 23, false, false⟩, ⟨⟨(some 30), .iaS 2 (.t 9) (.t 10), none⟩, 24, false, false⟩, ⟨⟨none, .store 2 (.t 30) (.t 22), none⟩, 25, true, false⟩, ⟨⟨(some 31), .iaS 2 (.t 14) (.t 15), none⟩, 26, false, false⟩, ⟨⟨none, .store 2 (.t 31) (.t 29), none⟩, 27, true, false⟩])
def r54 : List RV := []
theorem fn54 : cFn Tryd.prog 54 = some (c54, r54, 32) := by kernel_rfl

/-- (*dynamo/heap.Heap).Len -/
def c55 : MC :=
  (.seq (.ops [⟨(some 2), .mv (.c (.int .i64 0)), none⟩])
  (.seq (.seq (.ops [⟨(some 3), .mv (.t 0), none⟩, ⟨(some 4), .eqN .ptr false (.t 3) (.c (.pointer none)), none⟩])
  (.cond (.t 4) (.seq (.ops [⟨(some 2), .mv (.c (.int .i64 0)), none⟩])
  .ret) .skip))
  (.seq (.ops [⟨(some 5), .mv (.t 0), none⟩, ⟨(some 6), .nilck (.t 5), none⟩, ⟨(some 7), .fadd 0 (.t 6), none⟩, ⟨(some 8), .load1 (.t 7), none⟩, ⟨(some 9), .len false (.t 8), none⟩, ⟨(some 2), .mv (.t 9), none⟩])
  .ret)))
def r55 : List RV := [.t 2]
theorem fn55 : cFn Tryd.prog 55 = some (c55, r55, 10) := by kernel_rfl

/-- (*dynamo/heap.Heap).sink -/
def c56 : MC :=
  (.seq (.ops [⟨(some 2), .mv (.c (.int .i64 0)), none⟩])
  (.block 0 (.loop (.block 1 (.seq (.ops [⟨(some 4), .mv (.t 2), none⟩, ⟨(some 5), .bin .mul (.c (.int .i64 2)) (.t 4), none⟩, ⟨(some 6), .bin .add (.t 5) (.c (.int .i64 1)), none⟩, ⟨(some 3), .mv (.t 6), none⟩])
  (.seq (.seq (.ops [⟨(some 7), .mv (.t 3), none⟩, ⟨(some 8), .mv (.t 0), none⟩, ⟨(some 9), .nilck (.t 8), none⟩, ⟨(some 10), .fadd 0 (.t 9), none⟩, ⟨(some 11), .load1 (.t 10), none⟩, ⟨(some 12), .len false (.t 11), none⟩, ⟨(some 13), .bin .geq (.t 7) (.t 12), none⟩])
  (.cond (.t 13) .ret .skip))
  (.seq (.seq (.ops [⟨(some 14), .mv (.t 3), none⟩, ⟨(some 15), .bin .add (.t 14) (.c (.int .i64 1)), none⟩, ⟨(some 16), .mv (.t 0), none⟩, ⟨(some 17), .nilck (.t 16), none⟩, ⟨(some 18), .fadd 0 (.t 17), none⟩, ⟨(some 19), .load1 (.t 18), none⟩, ⟨(some 20), .len false (.t 19), none⟩, ⟨(some 21), .bin .lss (.t 15) (.t 20), none⟩, ⟨(some 22), .mv (.t 21), none⟩, ⟨(some 23), .mv (.t 0), (some (22, true))⟩, ⟨(some 24), .mv (.t 3), (some (22, true))⟩, ⟨(some 25), .bin .add (.t 24) (.c (.int .i64 1)), (some (22, true))⟩, ⟨(some 26), .mv (.t 3), (some (22, true))⟩, ⟨(some 27), .call 53 [(.t 23), (.t 25), (.t 26)], (some (22, true))⟩, ⟨(some 28), .pick (.t 22) (.t 27) (.c (.bool false)), none⟩])
  (.cond (.t 28) (.ops [⟨(some 29), .mv (.t 3), none⟩, ⟨(some 30), .bin .add (.t 29) (.c (.int .i64 1)), none⟩, ⟨(some 3), .mv (.t 30), none⟩]) .skip))
  (.seq (.seq (.ops [⟨(some 31), .mv (.t 0), none⟩, ⟨(some 32), .mv (.t 3), none⟩, ⟨(some 33), .mv (.t 2), none⟩, ⟨(some 34), .call 53 [(.t 31), (.t 32), (.t 33)], none⟩, ⟨(some 35), .not (.t 34), none⟩])
  (.cond (.t 35) .ret .skip))
  (.seq (.ops [⟨(some 36), .mv (.t 0), none⟩, ⟨(some 37), .mv (.t 2), none⟩, ⟨(some 38), .mv (.t 3), none⟩, ⟨(some 39), .call 54 [(.t 36), (.t 37), (.t 38)], none⟩])
  (.ops [⟨(some 40), .mv (.t 3), none⟩, ⟨(some 2), .mv (.t 40), none⟩]))))))))))
def r56 : List RV := []
theorem fn56 : cFn Tryd.prog 56 = some (c56, r56, 41) := by kernel_rfl

/-- (dynamo/grid.Map).near$1 -/
def c61 : MC :=
  (.seq (.ops [⟨(some 6), .mv (.t 1), none⟩, ⟨(some 7), .mv (.t 6), none⟩, ⟨(some 8), .loadN 3 (.t 2), (some (7, true))⟩, ⟨(some 9), .mv (.t 0), (some (7, true))⟩, ⟨(some 10), .call 52 [(.t 8), (.t 9)], (some (7, true))⟩, ⟨(some 11), .pick (.t 7) (.t 10) (.c (.bool false)), none⟩])
  (.cond (.t 11) (.ops [⟨(some 12), .load1 (.t 3), none⟩, ⟨(some 13), .mv (.t 0), none⟩, ⟨(some 14), .bsl 1 1 [(.int .i64 0)] [(0, (.t 13))], none⟩, ⟨(some 15), .app 1 8 (.t 12) (.t 14), none⟩, ⟨none, .store 1 (.t 3) (.t 15), none⟩]) .skip))
def r61 : List RV := []
theorem fn61 : cFn Tryd.prog 61 = some (c61, r61, 16) := by kernel_rfl

/-- dynamo/grid.sized$1 -/
def c62 : MC :=
  (.seq (.ops [⟨(some 2), .mv (.c (.bool false)), none⟩])
  (.seq (.ops [⟨(some 3), .mv (.t 0), none⟩, ⟨(some 4), .bin .geq (.t 3) (.c (.int .i64 1)), none⟩, ⟨(some 5), .mv (.t 4), none⟩, ⟨(some 6), .mv (.t 0), (some (5, true))⟩, ⟨(some 7), .bin .leq (.t 6) (.c (.int .i64 8)), (some (5, true))⟩, ⟨(some 8), .pick (.t 5) (.t 7) (.c (.bool false)), none⟩, ⟨(some 2), .mv (.t 8), none⟩])
  .ret))
def r62 : List RV := [.t 2]
theorem fn62 : cFn Tryd.prog 62 = some (c62, r62, 9) := by kernel_rfl

/-- strings.Trim -/
def c63 : MC :=
  (.seq (.ops [⟨(some 4), .mv (.c (.string ⟨#[]⟩)), none⟩])
  (.seq (.seq (.ops [⟨(some 7), .mv (.t 0), none⟩, ⟨(some 8), .bin .eql (.t 7) (.c (.string ⟨#[]⟩)), none⟩, ⟨(some 9), .mv (.t 8), none⟩, ⟨(some 10), .mv (.t 1), (some (9, false))⟩, ⟨(some 11), .bin .eql (.t 10) (.c (.string ⟨#[]⟩)), (some (9, false))⟩, ⟨(some 12), .pick (.t 9) (.c (.bool true)) (.t 11), none⟩])
  (.cond (.t 12) (.seq (.ops [⟨(some 13), .mv (.t 0), none⟩, ⟨(some 4), .mv (.t 13), none⟩])
  .ret) .skip))
  (.seq (.seq (.ops [⟨(some 14), .mv (.t 1), none⟩, ⟨(some 15), .len true (.t 14), none⟩, ⟨(some 16), .bin .eql (.t 15) (.c (.int .i64 1)), none⟩, ⟨(some 17), .mv (.t 16), none⟩, ⟨(some 18), .mv (.t 1), (some (17, true))⟩, ⟨(some 19), .idxS (.t 18) (.c (.int .i64 0)), (some (17, true))⟩, ⟨(some 20), .bin .lss (.t 19) (.c (.int .u8 128)), (some (17, true))⟩, ⟨(some 21), .pick (.t 17) (.t 20) (.c (.bool false)), none⟩])
  (.cond (.t 21) (.seq (.dops [⟨⟨(some 22), .mv (.t 0), none⟩, 0, false, false⟩, ⟨⟨(some 23), .mv (.t 1), none⟩, 1, false, false⟩, ⟨⟨(some 24), .idxS (.t 23) (.c (.int .i64 0)), none⟩, 2, false, false⟩, ⟨⟨(some 26), .mv (.t 1), none⟩, 4, false, false⟩, ⟨⟨(some 27), .idxS (.t 26) (.c (.int .i64 0)), none⟩, 5, false, false⟩, ⟨⟨(some 25), .call 77 [(.t 22), (.t 24)], none⟩, 3, true, false⟩, ⟨⟨(some 28), .call 76 [(.t 25), (.t 27)], none⟩, 6, true, false⟩, ⟨⟨(some 4), .mv (.t 28), none⟩, 7, false, false⟩])
  .ret) .skip))
  (.seq (.seq (.ops [⟨(some 30), .mv (.t 1), none⟩, ⟨(some 31), .call 78 [(.t 30)], none⟩, ⟨(some 29), .mv (.t 31), none⟩, ⟨(some 32), .ext (.t 29) 0, none⟩, ⟨(some 33), .ext (.t 29) 1, none⟩, ⟨(some 5), .alloc (List.replicate 256 (.bool false)), none⟩, ⟨none, .store 256 (.t 5) (.t 32), none⟩, ⟨(some 6), .mv (.t 33), none⟩])
  (.seq (.ops [⟨(some 34), .mv (.t 6), none⟩])
  (.cond (.t 34) (.seq (.ops [⟨(some 35), .mv (.t 0), none⟩, ⟨(some 36), .call 80 [(.t 35), (.t 5)], none⟩, ⟨(some 37), .call 79 [(.t 36), (.t 5)], none⟩, ⟨(some 4), .mv (.t 37), none⟩])
  .ret) .skip)))
  (.seq (.ops [⟨(some 38), .mv (.t 0), none⟩, ⟨(some 39), .mv (.t 1), none⟩, ⟨(some 40), .call 82 [(.t 38), (.t 39)], none⟩, ⟨(some 41), .mv (.t 1), none⟩, ⟨(some 42), .call 81 [(.t 40), (.t 41)], none⟩, ⟨(some 4), .mv (.t 42), none⟩])
  .ret)))))
def r63 : List RV := [.t 4]
theorem fn63 : cFn Tryd.prog 63 = some (c63, r63, 43) := by kernel_rfl

/-- strings.ContainsFunc -/
def c64 : MC :=
  (.seq (.ops [⟨(some 4), .mv (.c (.bool false)), none⟩])
  (.seq (.ops [⟨(some 5), .mv (.t 0), none⟩, ⟨(some 6), .mv (.t 1), none⟩, ⟨(some 7), .call 83 [(.t 5), (.t 6)], none⟩, ⟨(some 8), .bin .geq (.t 7) (.c (.int .i64 0)), none⟩, ⟨(some 4), .mv (.t 8), none⟩])
  .ret))
def r64 : List RV := [.t 4]
theorem fn64 : cFn Tryd.prog 64 = some (c64, r64, 9) := by kernel_rfl

/-- dynamo/grid.sized$2 -/
def c65 : MC :=
  (.seq (.ops [⟨(some 2), .mv (.c (.bool false)), none⟩])
  (.seq (.ops [⟨(some 3), .mv (.t 0), none⟩, ⟨(some 4), .call 66 [(.c (.string ⟨#[35, 46, 67, 80]⟩)), (.t 3)], none⟩, ⟨(some 5), .not (.t 4), none⟩, ⟨(some 2), .mv (.t 5), none⟩])
  .ret))
def r65 : List RV := [.t 2]
theorem fn65 : cFn Tryd.prog 65 = some (c65, r65, 6) := by kernel_rfl

/-- strings.ContainsRune -/
def c66 : MC :=
  (.seq (.ops [⟨(some 4), .mv (.c (.bool false)), none⟩])
  (.seq (.ops [⟨(some 5), .mv (.t 0), none⟩, ⟨(some 6), .mv (.t 1), none⟩, ⟨(some 7), .call 84 [(.t 5), (.t 6)], none⟩, ⟨(some 8), .bin .geq (.t 7) (.c (.int .i64 0)), none⟩, ⟨(some 4), .mv (.t 8), none⟩])
  .ret))
def r66 : List RV := [.t 4]
theorem fn66 : cFn Tryd.prog 66 = some (c66, r66, 9) := by kernel_rfl

/-- math/bits.Mul32 -/
def c70 : MC :=
  (.seq (.ops [⟨(some 4), .mv (.c (.int .u32 0)), none⟩, ⟨(some 5), .mv (.c (.int .u32 0)), none⟩])
  (.seq (.ops [⟨(some 7), .mv (.t 0), none⟩, ⟨(some 8), .conv .u64 (.t 7), none⟩, ⟨(some 9), .mv (.t 1), none⟩, ⟨(some 10), .conv .u64 (.t 9), none⟩, ⟨(some 11), .bin .mul (.t 8) (.t 10), none⟩, ⟨(some 6), .mv (.t 11), none⟩])
  (.seq (.ops [⟨(some 12), .mv (.t 6), none⟩, ⟨(some 13), .bin .shr (.t 12) (.c (.int .u64 32)), none⟩, ⟨(some 14), .conv .u32 (.t 13), none⟩, ⟨(some 15), .mv (.t 6), none⟩, ⟨(some 16), .conv .u32 (.t 15), none⟩, ⟨(some 4), .mv (.t 14), none⟩, ⟨(some 5), .mv (.t 16), none⟩])
  .ret)))
def r70 : List RV := [.t 4, .t 5]
theorem fn70 : cFn Tryd.prog 70 = some (c70, r70, 17) := by kernel_rfl

/-- math/bits.Mul64 -/
def c71 : MC :=
  (.seq (.ops [⟨(some 4), .mv (.c (.int .u64 0)), none⟩, ⟨(some 5), .mv (.c (.int .u64 0)), none⟩])
  (.seq (.ops [⟨(some 14), .mv (.t 0), none⟩, ⟨(some 15), .bin .and (.t 14) (.c (.int .u64 4294967295)), none⟩, ⟨(some 6), .mv (.t 15), none⟩])
  (.seq (.ops [⟨(some 16), .mv (.t 0), none⟩, ⟨(some 17), .bin .shr (.t 16) (.c (.int .u64 32)), none⟩, ⟨(some 7), .mv (.t 17), none⟩])
  (.seq (.ops [⟨(some 18), .mv (.t 1), none⟩, ⟨(some 19), .bin .and (.t 18) (.c (.int .u64 4294967295)), none⟩, ⟨(some 8), .mv (.t 19), none⟩])
  (.seq (.ops [⟨(some 20), .mv (.t 1), none⟩, ⟨(some 21), .bin .shr (.t 20) (.c (.int .u64 32)), none⟩, ⟨(some 9), .mv (.t 21), none⟩])
  (.seq (.ops [⟨(some 22), .mv (.t 6), none⟩, ⟨(some 23), .mv (.t 8), none⟩, ⟨(some 24), .bin .mul (.t 22) (.t 23), none⟩, ⟨(some 10), .mv (.t 24), none⟩])
  (.seq (.ops [⟨(some 25), .mv (.t 7), none⟩, ⟨(some 26), .mv (.t 8), none⟩, ⟨(some 27), .bin .mul (.t 25) (.t 26), none⟩, ⟨(some 28), .mv (.t 10), none⟩, ⟨(some 29), .bin .shr (.t 28) (.c (.int .u64 32)), none⟩, ⟨(some 30), .bin .add (.t 27) (.t 29), none⟩, ⟨(some 11), .mv (.t 30), none⟩])
  (.seq (.ops [⟨(some 31), .mv (.t 11), none⟩, ⟨(some 32), .bin .and (.t 31) (.c (.int .u64 4294967295)), none⟩, ⟨(some 12), .mv (.t 32), none⟩])
  (.seq (.ops [⟨(some 33), .mv (.t 11), none⟩, ⟨(some 34), .bin .shr (.t 33) (.c (.int .u64 32)), none⟩, ⟨(some 13), .mv (.t 34), none⟩])
  (.seq (.ops [⟨(some 35), .mv (.t 12), none⟩, ⟨(some 36), .mv (.t 6), none⟩, ⟨(some 37), .mv (.t 9), none⟩, ⟨(some 38), .bin .mul (.t 36) (.t 37), none⟩, ⟨(some 39), .bin .add (.t 35) (.t 38), none⟩, ⟨(some 12), .mv (.t 39), none⟩])
  (.seq (.ops [⟨(some 40), .mv (.t 7), none⟩, ⟨(some 41), .mv (.t 9), none⟩, ⟨(some 42), .bin .mul (.t 40) (.t 41), none⟩, ⟨(some 43), .mv (.t 13), none⟩, ⟨(some 44), .bin .add (.t 42) (.t 43), none⟩, ⟨(some 45), .mv (.t 12), none⟩, ⟨(some 46), .bin .shr (.t 45) (.c (.int .u64 32)), none⟩, ⟨(some 47), .bin .add (.t 44) (.t 46), none⟩, ⟨(some 4), .mv (.t 47), none⟩])
  (.seq (.ops [⟨(some 48), .mv (.t 0), none⟩, ⟨(some 49), .mv (.t 1), none⟩, ⟨(some 50), .bin .mul (.t 48) (.t 49), none⟩, ⟨(some 5), .mv (.t 50), none⟩])
  .ret))))))))))))
def r71 : List RV := [.t 4, .t 5]
theorem fn71 : cFn Tryd.prog 71 = some (c71, r71, 51) := by kernel_rfl

/-- dynamo/heap.Less -/
def c72 : MC :=
  (.seq (.ops [⟨(some 2), .box (.t 0), none⟩, ⟨(some 3), .box (.t 1), none⟩, ⟨(some 4), .mv (.c (.bool false)), none⟩])
  (.seq (.seq (.ops [⟨(some 5), .fadd 0 (.t 2), none⟩, ⟨(some 6), .load1 (.t 5), none⟩, ⟨(some 7), .fadd 0 (.t 3), none⟩, ⟨(some 8), .load1 (.t 7), none⟩, ⟨(some 9), .bin .neq (.t 6) (.t 8), none⟩])
  (.cond (.t 9) (.seq (.ops [⟨(some 10), .fadd 0 (.t 2), none⟩, ⟨(some 11), .load1 (.t 10), none⟩, ⟨(some 12), .fadd 0 (.t 3), none⟩, ⟨(some 13), .load1 (.t 12), none⟩, ⟨(some 14), .bin .lss (.t 11) (.t 13), none⟩, ⟨(some 4), .mv (.t 14), none⟩])
  .ret) .skip))
  (.seq (.ops [⟨(some 15), .fadd 1 (.t 2), none⟩, ⟨(some 16), .load1 (.t 15), none⟩, ⟨(some 17), .fadd 1 (.t 3), none⟩, ⟨(some 18), .load1 (.t 17), none⟩, ⟨(some 19), .bin .lss (.t 16) (.t 18), none⟩, ⟨(some 4), .mv (.t 19), none⟩])
  .ret)))
def r72 : List RV := [.t 4]
theorem fn72 : cFn Tryd.prog 72 = some (c72, r72, 20) := by kernel_rfl

/-- strings.trimLeftByte -/
def c76 : MC :=
  (.seq (.ops [⟨(some 4), .mv (.c (.string ⟨#[]⟩)), none⟩])
  (.seq (.block 0 (.loop (.seq (.seq (.ops [⟨(some 5), .mv (.t 0), none⟩, ⟨(some 6), .len true (.t 5), none⟩, ⟨(some 7), .bin .gtr (.t 6) (.c (.int .i64 0)), none⟩, ⟨(some 8), .mv (.t 7), none⟩, ⟨(some 9), .mv (.t 0), (some (8, true))⟩, ⟨(some 10), .idxS (.t 9) (.c (.int .i64 0)), (some (8, true))⟩, ⟨(some 11), .mv (.t 1), (some (8, true))⟩, ⟨(some 12), .bin .eql (.t 10) (.t 11), (some (8, true))⟩, ⟨(some 13), .pick (.t 8) (.t 12) (.c (.bool false)), none⟩])
  (.cond (.t 13) .skip (.exit 0)))
  (.block 1 (.ops [⟨(some 14), .mv (.t 0), none⟩, ⟨(some 15), .slcS (.t 14) (some (.c (.int .i64 1))) none, none⟩, ⟨(some 0), .mv (.t 15), none⟩])))))
  (.seq (.ops [⟨(some 16), .mv (.t 0), none⟩, ⟨(some 4), .mv (.t 16), none⟩])
  .ret)))
def r76 : List RV := [.t 4]
theorem fn76 : cFn Tryd.prog 76 = some (c76, r76, 17) := by kernel_rfl

/-- strings.trimRightByte -/
def c77 : MC :=
  (.seq (.ops [⟨(some 4), .mv (.c (.string ⟨#[]⟩)), none⟩])
  (.seq (.block 0 (.loop (.seq (.seq (.ops [⟨(some 5), .mv (.t 0), none⟩, ⟨(some 6), .len true (.t 5), none⟩, ⟨(some 7), .bin .gtr (.t 6) (.c (.int .i64 0)), none⟩, ⟨(some 8), .mv (.t 7), none⟩, ⟨(some 9), .mv (.t 0), (some (8, true))⟩, ⟨(some 10), .mv (.t 0), (some (8, true))⟩, ⟨(some 11), .len true (.t 10), (some (8, true))⟩, ⟨(some 12), .bin .sub (.t 11) (.c (.int .i64 1)), (some (8, true))⟩, ⟨(some 13), .idxS (.t 9) (.t 12), (some (8, true))⟩, ⟨(some 14), .mv (.t 1), (some (8, true))⟩, ⟨(some 15), .bin .eql (.t 13) (.t 14), (some (8, true))⟩, ⟨(some 16), .pick (.t 8) (.t 15) (.c (.bool false)), none⟩])
  (.cond (.t 16) .skip (.exit 0)))
  (.block 1 (.ops [⟨(some 17), .mv (.t 0), none⟩, ⟨(some 18), .mv (.t 0), none⟩, ⟨(some 19), .len true (.t 18), none⟩, ⟨(some 20), .bin .sub (.t 19) (.c (.int .i64 1)), none⟩, ⟨(some 21), .slcS (.t 17) none (some (.t 20)), none⟩, ⟨(some 0), .mv (.t 21), none⟩])))))
  (.seq (.ops [⟨(some 22), .mv (.t 0), none⟩, ⟨(some 4), .mv (.t 22), none⟩])
  .ret)))
def r77 : List RV := [.t 4]
theorem fn77 : cFn Tryd.prog 77 = some (c77, r77, 23) := by kernel_rfl

/-- strings.makeASCIISet -/
def c78 : MC :=
  (.seq (.ops [⟨(some 2), .alloc (List.replicate 256 (.bool false)), none⟩, ⟨(some 3), .mv (.c (.bool false)), none⟩])
  (.seq (.seq (.ops [⟨(some 4), .mv (.c (.int .i64 0)), none⟩])
  (.block 0 (.loop (.seq (.seq (.ops [⟨(some 6), .mv (.t 4), none⟩, ⟨(some 7), .mv (.t 0), none⟩, ⟨(some 8), .len true (.t 7), none⟩, ⟨(some 9), .bin .lss (.t 6) (.t 8), none⟩])
  (.cond (.t 9) .skip (.exit 0)))
  (.seq (.block 1 (.seq (.ops [⟨(some 12), .mv (.t 0), none⟩, ⟨(some 13), .mv (.t 4), none⟩, ⟨(some 14), .idxS (.t 12) (.t 13), none⟩, ⟨(some 5), .mv (.t 14), none⟩])
  (.seq (.seq (.ops [⟨(some 15), .mv (.t 5), none⟩, ⟨(some 16), .bin .geq (.t 15) (.c (.int .u8 128)), none⟩])
  (.cond (.t 16) (.seq (.ops [⟨(some 17), .loadN 256 (.t 2), none⟩, ⟨none, .store 256 (.t 2) (.t 17), none⟩, ⟨(some 3), .mv (.c (.bool false)), none⟩])
  .ret) .skip))
  (.ops [⟨(some 18), .mv (.t 5), none⟩, ⟨(some 19), .iaA 256 1 (.t 2) (.t 18), none⟩, ⟨none, .store 1 (.t 19) (.c (.bool true)), none⟩]))))
  (.ops [⟨(some 10), .mv (.t 4), none⟩, ⟨(some 11), .bin .add (.t 10) (.c (.int .i64 1)), none⟩, ⟨(some 4), .mv (.t 11), none⟩]))))))
  (.seq (.ops [⟨(some 20), .loadN 256 (.t 2), none⟩, ⟨none, .store 256 (.t 2) (.t 20), none⟩, ⟨(some 3), .mv (.c (.bool true)), none⟩])
  .ret)))
def r78 : List RV := [.cell 2 256 true, .t 3]
theorem fn78 : cFn Tryd.prog 78 = some (c78, r78, 21) := by kernel_rfl

/-- strings.trimLeftASCII -/
def c79 : MC :=
  (.seq (.ops [⟨(some 4), .mv (.c (.string ⟨#[]⟩)), none⟩])
  (.seq (.block 0 (.loop (.seq (.seq (.ops [⟨(some 5), .mv (.t 0), none⟩, ⟨(some 6), .len true (.t 5), none⟩, ⟨(some 7), .bin .gtr (.t 6) (.c (.int .i64 0)), none⟩])
  (.cond (.t 7) .skip (.exit 0)))
  (.block 1 (.seq (.seq (.ops [⟨(some 8), .mv (.t 1), none⟩, ⟨(some 9), .mv (.t 0), none⟩, ⟨(some 10), .idxS (.t 9) (.c (.int .i64 0)), none⟩, ⟨(some 11), .call 89 [(.t 8), (.t 10)], none⟩, ⟨(some 12), .not (.t 11), none⟩])
  (.cond (.t 12) (.exit 0) .skip))
  (.ops [⟨(some 13), .mv (.t 0), none⟩, ⟨(some 14), .slcS (.t 13) (some (.c (.int .i64 1))) none, none⟩, ⟨(some 0), .mv (.t 14), none⟩]))))))
  (.seq (.ops [⟨(some 15), .mv (.t 0), none⟩, ⟨(some 4), .mv (.t 15), none⟩])
  .ret)))
def r79 : List RV := [.t 4]
theorem fn79 : cFn Tryd.prog 79 = some (c79, r79, 16) := by kernel_rfl

/-- strings.trimRightASCII -/
def c80 : MC :=
  (.seq (.ops [⟨(some 4), .mv (.c (.string ⟨#[]⟩)), none⟩])
  (.seq (.block 0 (.loop (.seq (.seq (.ops [⟨(some 5), .mv (.t 0), none⟩, ⟨(some 6), .len true (.t 5), none⟩, ⟨(some 7), .bin .gtr (.t 6) (.c (.int .i64 0)), none⟩])
  (.cond (.t 7) .skip (.exit 0)))
  (.block 1 (.seq (.seq (.ops [⟨(some 8), .mv (.t 1), none⟩, ⟨(some 9), .mv (.t 0), none⟩, ⟨(some 10), .mv (.t 0), none⟩, ⟨(some 11), .len true (.t 10), none⟩, ⟨(some 12), .bin .sub (.t 11) (.c (.int .i64 1)), none⟩, ⟨(some 13), .idxS (.t 9) (.t 12), none⟩, ⟨(some 14), .call 89 [(.t 8), (.t 13)], none⟩, ⟨(some 15), .not (.t 14), none⟩])
  (.cond (.t 15) (.exit 0) .skip))
  (.ops [⟨(some 16), .mv (.t 0), none⟩, ⟨(some 17), .mv (.t 0), none⟩, ⟨(some 18), .len true (.t 17), none⟩, ⟨(some 19), .bin .sub (.t 18) (.c (.int .i64 1)), none⟩, ⟨(some 20), .slcS (.t 16) none (some (.t 19)), none⟩, ⟨(some 0), .mv (.t 20), none⟩]))))))
  (.seq (.ops [⟨(some 21), .mv (.t 0), none⟩, ⟨(some 4), .mv (.t 21), none⟩])
  .ret)))
def r80 : List RV := [.t 4]
theorem fn80 : cFn Tryd.prog 80 = some (c80, r80, 22) := by kernel_rfl

/-- strings.trimLeftUnicode -/
def c81 : MC :=
  (.seq (.ops [⟨(some 4), .mv (.c (.string ⟨#[]⟩)), none⟩])
  (.seq (.block 0 (.loop (.seq (.seq (.ops [⟨(some 7), .mv (.t 0), none⟩, ⟨(some 8), .len true (.t 7), none⟩, ⟨(some 9), .bin .gtr (.t 8) (.c (.int .i64 0)), none⟩])
  (.cond (.t 9) .skip (.exit 0)))
  (.block 1 (.seq (.ops [⟨(some 11), .mv (.t 0), none⟩, ⟨(some 12), .call 90 [(.t 11)], none⟩, ⟨(some 10), .mv (.t 12), none⟩, ⟨(some 13), .ext (.t 10) 0, none⟩, ⟨(some 14), .ext (.t 10) 1, none⟩, ⟨(some 5), .mv (.t 13), none⟩, ⟨(some 6), .mv (.t 14), none⟩])
  (.seq (.seq (.ops [⟨(some 15), .mv (.t 1), none⟩, ⟨(some 16), .mv (.t 5), none⟩, ⟨(some 17), .call 66 [(.t 15), (.t 16)], none⟩, ⟨(some 18), .not (.t 17), none⟩])
  (.cond (.t 18) (.exit 0) .skip))
  (.ops [⟨(some 19), .mv (.t 0), none⟩, ⟨(some 20), .mv (.t 6), none⟩, ⟨(some 21), .slcS (.t 19) (some (.t 20)) none, none⟩, ⟨(some 0), .mv (.t 21), none⟩])))))))
  (.seq (.ops [⟨(some 22), .mv (.t 0), none⟩, ⟨(some 4), .mv (.t 22), none⟩])
  .ret)))
def r81 : List RV := [.t 4]
theorem fn81 : cFn Tryd.prog 81 = some (c81, r81, 23) := by kernel_rfl

/-- strings.trimRightUnicode -/
def c82 : MC :=
  (.seq (.ops [⟨(some 4), .mv (.c (.string ⟨#[]⟩)), none⟩])
  (.seq (.block 0 (.loop (.seq (.seq (.ops [⟨(some 7), .mv (.t 0), none⟩, ⟨(some 8), .len true (.t 7), none⟩, ⟨(some 9), .bin .gtr (.t 8) (.c (.int .i64 0)), none⟩])
  (.cond (.t 9) .skip (.exit 0)))
  (.block 1 (.seq (.ops [⟨(some 10), .mv (.t 0), none⟩, ⟨(some 11), .mv (.t 0), none⟩, ⟨(some 12), .len true (.t 11), none⟩, ⟨(some 13), .bin .sub (.t 12) (.c (.int .i64 1)), none⟩, ⟨(some 14), .idxS (.t 10) (.t 13), none⟩, ⟨(some 15), .conv .i32 (.t 14), none⟩, ⟨(some 5), .mv (.t 15), none⟩, ⟨(some 6), .mv (.c (.int .i64 1)), none⟩])
  (.seq (.seq (.ops [⟨(some 16), .mv (.t 5), none⟩, ⟨(some 17), .bin .geq (.t 16) (.c (.int .i32 128)), none⟩])
  (.cond (.t 17) (.ops [⟨(some 19), .mv (.t 0), none⟩, ⟨(some 20), .call 91 [(.t 19)], none⟩, ⟨(some 18), .mv (.t 20), none⟩, ⟨(some 21), .ext (.t 18) 0, none⟩, ⟨(some 22), .ext (.t 18) 1, none⟩, ⟨(some 5), .mv (.t 21), none⟩, ⟨(some 6), .mv (.t 22), none⟩]) .skip))
  (.seq (.seq (.ops [⟨(some 23), .mv (.t 1), none⟩, ⟨(some 24), .mv (.t 5), none⟩, ⟨(some 25), .call 66 [(.t 23), (.t 24)], none⟩, ⟨(some 26), .not (.t 25), none⟩])
  (.cond (.t 26) (.exit 0) .skip))
  (.ops [⟨(some 27), .mv (.t 0), none⟩, ⟨(some 28), .mv (.t 0), none⟩, ⟨(some 29), .len true (.t 28), none⟩, ⟨(some 30), .mv (.t 6), none⟩, ⟨(some 31), .bin .sub (.t 29) (.t 30), none⟩, ⟨(some 32), .slcS (.t 27) none (some (.t 31)), none⟩, ⟨(some 0), .mv (.t 32), none⟩]))))))))
  (.seq (.ops [⟨(some 33), .mv (.t 0), none⟩, ⟨(some 4), .mv (.t 33), none⟩])
  .ret)))
def r82 : List RV := [.t 4]
theorem fn82 : cFn Tryd.prog 82 = some (c82, r82, 34) := by kernel_rfl

/-- strings.IndexFunc -/
def c83 : MC :=
  (.seq (.ops [⟨(some 4), .mv (.c (.int .i64 0)), none⟩])
  (.seq (.ops [⟨(some 5), .mv (.t 0), none⟩, ⟨(some 6), .mv (.t 1), none⟩, ⟨(some 7), .call 92 [(.t 5), (.t 6), (.c (.bool true))], none⟩, ⟨(some 4), .mv (.t 7), none⟩])
  .ret))
def r83 : List RV := [.t 4]
theorem fn83 : cFn Tryd.prog 83 = some (c83, r83, 8) := by kernel_rfl

/-- internal/stringslite.IndexByte -/
def c85 : MC :=
  (.seq (.ops [⟨(some 4), .mv (.c (.int .i64 0)), none⟩])
  (.seq (.ops [⟨(some 5), .mv (.t 0), none⟩, ⟨(some 6), .mv (.t 1), none⟩, ⟨(some 7), .call 95 [(.t 5), (.t 6)], none⟩, ⟨(some 4), .mv (.t 7), none⟩])
  .ret))
def r85 : List RV := [.t 4]
theorem fn85 : cFn Tryd.prog 85 = some (c85, r85, 8) := by kernel_rfl

/-- internal/bytealg.Cutover -/
def c87 : MC :=
  (.seq (.ops [⟨(some 2), .mv (.c (.int .i64 0)), none⟩])
  (.seq (.ops [⟨(some 3), .mv (.t 0), none⟩, ⟨(some 4), .bin .add (.t 3) (.c (.int .i64 16)), none⟩, ⟨(some 5), .bin .quo (.t 4) (.c (.int .i64 8)), none⟩, ⟨(some 2), .mv (.t 5), none⟩])
  .ret))
def r87 : List RV := [.t 2]
theorem fn87 : cFn Tryd.prog 87 = some (c87, r87, 6) := by kernel_rfl

/-- (*strings.asciiSet).contains -/
def c89 : MC :=
  (.seq (.ops [⟨(some 4), .mv (.c (.bool false)), none⟩])
  (.seq (.ops [⟨(some 5), .mv (.t 0), none⟩, ⟨(some 6), .mv (.t 1), none⟩, ⟨(some 7), .nilck (.t 5), none⟩, ⟨(some 8), .iaA 256 1 (.t 7) (.t 6), none⟩, ⟨(some 9), .load1 (.t 8), none⟩, ⟨(some 4), .mv (.t 9), none⟩])
  .ret))
def r89 : List RV := [.t 4]
theorem fn89 : cFn Tryd.prog 89 = some (c89, r89, 10) := by kernel_rfl

/-- unicode/utf8.DecodeRuneInString -/
def c90 : MC :=
  (.seq (.ops [⟨(some 2), .mv (.c (.int .i32 0)), none⟩, ⟨(some 3), .mv (.c (.int .i64 0)), none⟩])
  (.seq (.seq (.ops [⟨(some 4), .mv (.t 0), none⟩, ⟨(some 5), .bin .neq (.t 4) (.c (.string ⟨#[]⟩)), none⟩, ⟨(some 6), .mv (.t 5), none⟩, ⟨(some 7), .mv (.t 0), (some (6, true))⟩, ⟨(some 8), .idxS (.t 7) (.c (.int .i64 0)), (some (6, true))⟩, ⟨(some 9), .bin .lss (.t 8) (.c (.int .u8 128)), (some (6, true))⟩, ⟨(some 10), .pick (.t 6) (.t 9) (.c (.bool false)), none⟩])
  (.cond (.t 10) (.seq (.ops [⟨(some 11), .mv (.t 0), none⟩, ⟨(some 12), .idxS (.t 11) (.c (.int .i64 0)), none⟩, ⟨(some 13), .conv .i32 (.t 12), none⟩, ⟨(some 2), .mv (.t 13), none⟩, ⟨(some 3), .mv (.c (.int .i64 1)), none⟩])
  .ret) (.ops [⟨(some 15), .mv (.t 0), none⟩, ⟨(some 16), .call 97 [(.t 15)], none⟩, ⟨(some 14), .mv (.t 16), none⟩, ⟨(some 17), .ext (.t 14) 0, none⟩, ⟨(some 18), .ext (.t 14) 1, none⟩, ⟨(some 2), .mv (.t 17), none⟩, ⟨(some 3), .mv (.t 18), none⟩])))
  .ret))
def r90 : List RV := [.t 2, .t 3]
theorem fn90 : cFn Tryd.prog 90 = some (c90, r90, 19) := by kernel_rfl

/-- unicode/utf8.DecodeLastRuneInString -/
def c91 : MC :=
  (.seq (.ops [⟨(some 2), .mv (.c (.int .i32 0)), none⟩, ⟨(some 3), .mv (.c (.int .i64 0)), none⟩])
  (.seq (.ops [⟨(some 7), .mv (.t 0), none⟩, ⟨(some 8), .len true (.t 7), none⟩, ⟨(some 4), .mv (.t 8), none⟩])
  (.seq (.seq (.ops [⟨(some 9), .mv (.t 4), none⟩, ⟨(some 10), .bin .eql (.t 9) (.c (.int .i64 0)), none⟩])
  (.cond (.t 10) (.seq (.ops [⟨(some 2), .mv (.c (.int .i32 65533)), none⟩, ⟨(some 3), .mv (.c (.int .i64 0)), none⟩])
  .ret) .skip))
  (.seq (.ops [⟨(some 11), .mv (.t 4), none⟩, ⟨(some 12), .bin .sub (.t 11) (.c (.int .i64 1)), none⟩, ⟨(some 5), .mv (.t 12), none⟩])
  (.seq (.ops [⟨(some 13), .mv (.t 0), none⟩, ⟨(some 14), .mv (.t 5), none⟩, ⟨(some 15), .idxS (.t 13) (.t 14), none⟩, ⟨(some 16), .conv .i32 (.t 15), none⟩, ⟨(some 2), .mv (.t 16), none⟩])
  (.seq (.seq (.ops [⟨(some 17), .mv (.t 2), none⟩, ⟨(some 18), .bin .lss (.t 17) (.c (.int .i32 128)), none⟩])
  (.cond (.t 18) (.seq (.ops [⟨(some 19), .mv (.t 2), none⟩, ⟨(some 2), .mv (.t 19), none⟩, ⟨(some 3), .mv (.c (.int .i64 1)), none⟩])
  .ret) .skip))
  (.seq (.ops [⟨(some 20), .mv (.t 4), none⟩, ⟨(some 21), .bin .sub (.t 20) (.c (.int .i64 4)), none⟩, ⟨(some 22), .max2 (.t 21) (.c (.int .i64 0)), none⟩, ⟨(some 6), .mv (.t 22), none⟩])
  (.seq (.seq (.ops [⟨(some 23), .mv (.t 5), none⟩, ⟨(some 24), .bin .sub (.t 23) (.c (.int .i64 1)), none⟩, ⟨(some 5), .mv (.t 24), none⟩])
  (.block 0 (.loop (.seq (.seq (.ops [⟨(some 25), .mv (.t 5), none⟩, ⟨(some 26), .mv (.t 6), none⟩, ⟨(some 27), .bin .geq (.t 25) (.t 26), none⟩])
  (.cond (.t 27) .skip (.exit 0)))
  (.seq (.block 1 (.seq (.ops [⟨(some 30), .mv (.t 0), none⟩, ⟨(some 31), .mv (.t 5), none⟩, ⟨(some 32), .idxS (.t 30) (.t 31), none⟩, ⟨(some 33), .call 98 [(.t 32)], none⟩])
  (.cond (.t 33) (.exit 0) .skip)))
  (.ops [⟨(some 28), .mv (.t 5), none⟩, ⟨(some 29), .bin .sub (.t 28) (.c (.int .i64 1)), none⟩, ⟨(some 5), .mv (.t 29), none⟩]))))))
  (.seq (.seq (.ops [⟨(some 34), .mv (.t 5), none⟩, ⟨(some 35), .bin .lss (.t 34) (.c (.int .i64 0)), none⟩])
  (.cond (.t 35) (.ops [⟨(some 5), .mv (.c (.int .i64 0)), none⟩]) .skip))
  (.seq (.ops [⟨(some 37), .mv (.t 0), none⟩, ⟨(some 38), .mv (.t 5), none⟩, ⟨(some 39), .mv (.t 4), none⟩, ⟨(some 40), .slcS (.t 37) (some (.t 38)) (some (.t 39)), none⟩, ⟨(some 41), .call 90 [(.t 40)], none⟩, ⟨(some 36), .mv (.t 41), none⟩, ⟨(some 42), .ext (.t 36) 0, none⟩, ⟨(some 43), .ext (.t 36) 1, none⟩, ⟨(some 2), .mv (.t 42), none⟩, ⟨(some 3), .mv (.t 43), none⟩])
  (.seq (.seq (.ops [⟨(some 44), .mv (.t 5), none⟩, ⟨(some 45), .mv (.t 3), none⟩, ⟨(some 46), .bin .add (.t 44) (.t 45), none⟩, ⟨(some 47), .mv (.t 4), none⟩, ⟨(some 48), .bin .neq (.t 46) (.t 47), none⟩])
  (.cond (.t 48) (.seq (.ops [⟨(some 2), .mv (.c (.int .i32 65533)), none⟩, ⟨(some 3), .mv (.c (.int .i64 1)), none⟩])
  .ret) .skip))
  (.seq (.ops [⟨(some 49), .mv (.t 2), none⟩, ⟨(some 50), .mv (.t 3), none⟩, ⟨(some 2), .mv (.t 49), none⟩, ⟨(some 3), .mv (.t 50), none⟩])
  .ret))))))))))))
def r91 : List RV := [.t 2, .t 3]
theorem fn91 : cFn Tryd.prog 91 = some (c91, r91, 51) := by kernel_rfl

/-- strings.indexFunc -/
def c92 : MC :=
  (.seq (.ops [⟨(some 6), .mv (.c (.int .i64 0)), none⟩])
  (.seq (.seq (.ops [⟨(some 9), .mv (.t 0), none⟩, ⟨(some 10), .bad, none⟩])
  (.block 0 (.loop (.seq (.ops [⟨(some 11), .bad, none⟩, ⟨(some 12), .ext (.t 11) 0, none⟩])
  (.seq (.cond (.t 12) .skip (.exit 0))
  (.block 1 (.seq (.ops [⟨(some 13), .ext (.t 11) 1, none⟩, ⟨(some 14), .ext (.t 11) 2, none⟩, ⟨(some 7), .mv (.t 13), none⟩, ⟨(some 8), .mv (.t 14), none⟩])
  (.seq (.ops [⟨(some 15), .mv (.t 1), none⟩, ⟨(some 16), .mv (.t 8), none⟩, ⟨(some 17), .callv (.t 15) [(.t 16)], none⟩, ⟨(some 18), .mv (.t 2), none⟩, ⟨(some 19), .eqB false (.t 17) (.t 18), none⟩])
  (.cond (.t 19) (.seq (.ops [⟨(some 20), .mv (.t 7), none⟩, ⟨(some 6), .mv (.t 20), none⟩])
  .ret) .skip)))))))))
  (.seq (.ops [⟨(some 6), .mv (.c (.int .i64 (-1))), none⟩])
  .ret)))
def r92 : List RV := [.t 6]
theorem fn92 : cFn Tryd.prog 92 = some (c92, r92, 21) := by kernel_rfl

/-- strings.IndexByte -/
def c93 : MC :=
  (.seq (.ops [⟨(some 4), .mv (.c (.int .i64 0)), none⟩])
  (.seq (.ops [⟨(some 5), .mv (.t 0), none⟩, ⟨(some 6), .mv (.t 1), none⟩, ⟨(some 7), .call 85 [(.t 5), (.t 6)], none⟩, ⟨(some 4), .mv (.t 7), none⟩])
  .ret))
def r93 : List RV := [.t 4]
theorem fn93 : cFn Tryd.prog 93 = some (c93, r93, 8) := by kernel_rfl

/-- unicode/utf8.ValidRune -/
def c94 : MC :=
  (.seq (.ops [⟨(some 2), .mv (.c (.bool false)), none⟩])
  (.seq (.block 0 (.seq (.ops [⟨(some 4), .mv (.t 0), none⟩, ⟨(some 5), .bin .leq (.c (.int .i32 0)) (.t 4), none⟩, ⟨(some 6), .mv (.t 5), none⟩, ⟨(some 7), .mv (.t 0), (some (6, true))⟩, ⟨(some 8), .bin .lss (.t 7) (.c (.int .i32 55296)), (some (6, true))⟩, ⟨(some 9), .pick (.t 6) (.t 8) (.c (.bool false)), none⟩, ⟨(some 3), .mv (.t 9), none⟩])
  (.cond (.t 3) (.seq (.ops [⟨(some 2), .mv (.c (.bool true)), none⟩])
  .ret) (.seq (.ops [⟨(some 11), .mv (.t 0), none⟩, ⟨(some 12), .bin .lss (.c (.int .i32 57343)) (.t 11), none⟩, ⟨(some 13), .mv (.t 12), none⟩, ⟨(some 14), .mv (.t 0), (some (13, true))⟩, ⟨(some 15), .bin .leq (.t 14) (.c (.int .i32 1114111)), (some (13, true))⟩, ⟨(some 16), .pick (.t 13) (.t 15) (.c (.bool false)), none⟩, ⟨(some 10), .mv (.t 16), none⟩])
  (.cond (.t 10) (.seq (.ops [⟨(some 2), .mv (.c (.bool true)), none⟩])
  .ret) .skip)))))
  (.seq (.ops [⟨(some 2), .mv (.c (.bool false)), none⟩])
  .ret)))
def r94 : List RV := [.t 2]
theorem fn94 : cFn Tryd.prog 94 = some (c94, r94, 17) := by kernel_rfl

/-- unicode/utf8.RuneStart -/
def c98 : MC :=
  (.seq (.ops [⟨(some 2), .mv (.c (.bool false)), none⟩])
  (.seq (.ops [⟨(some 3), .mv (.t 0), none⟩, ⟨(some 4), .bin .and (.t 3) (.c (.int .u8 192)), none⟩, ⟨(some 5), .bin .neq (.t 4) (.c (.int .u8 128)), none⟩, ⟨(some 2), .mv (.t 5), none⟩])
  .ret))
def r98 : List RV := [.t 2]
theorem fn98 : cFn Tryd.prog 98 = some (c98, r98, 6) := by kernel_rfl

/-- (*dynamo/tag.Tagged).Unwrap -/
def c118 : MC :=
  (.seq (.ops [⟨(some 2), .mv (.c .nilIface), none⟩])
  (.seq (.seq (.ops [⟨(some 3), .mv (.t 0), none⟩, ⟨(some 4), .eqN .ptr false (.t 3) (.c (.pointer none)), none⟩])
  (.cond (.t 4) (.seq (.ops [⟨(some 2), .mv (.c .nilIface), none⟩])
  .ret) .skip))
  (.seq (.ops [⟨(some 5), .mv (.t 0), none⟩, ⟨(some 6), .nilck (.t 5), none⟩, ⟨(some 7), .fadd 1 (.t 6), none⟩, ⟨(some 8), .load1 (.t 7), none⟩, ⟨(some 2), .mv (.t 8), none⟩])
  .ret)))
def r118 : List RV := [.t 2]
theorem fn118 : cFn Tryd.prog 118 = some (c118, r118, 9) := by kernel_rfl

end Go.Proofs.YtcjogomiiinkfaaDoor.Code
