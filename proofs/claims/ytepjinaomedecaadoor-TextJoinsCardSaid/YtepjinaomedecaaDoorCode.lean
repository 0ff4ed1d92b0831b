/- The small code of functions of this program, printed by wip/tools/MiniShow.lean, with the fact that it is theirs. -/
import Derived.Test.YtepjinaomedecaaDoorMiniV
import Derived.Test.YtepjinaomedecaaDoorProg
namespace Go.Proofs.YtepjinaomedecaaDoor.Code
open Go.Mini
set_option maxRecDepth 100000

/-- dynamo/dynamolaw14.GridBack -/
def c3 : MC :=
  (.seq (.ops [⟨(some 2), .box (.t 0), none⟩, ⟨(some 4), .mv (.c (.bool false)), none⟩])
  (.seq (.seq (.ops [⟨(some 13), .call 11 [], none⟩, ⟨(some 14), .not (.t 13), none⟩, ⟨(some 15), .mv (.t 14), none⟩, ⟨(some 16), .fadd 2 (.t 2), (some (15, false))⟩, ⟨(some 17), .load1 (.t 16), (some (15, false))⟩, ⟨(some 18), .len true (.t 17), (some (15, false))⟩, ⟨(some 19), .bin .gtr (.t 18) (.c (.int .i64 200)), (some (15, false))⟩, ⟨(some 20), .pick (.t 15) (.c (.bool true)) (.t 19), none⟩, ⟨(some 21), .mv (.t 20), none⟩, ⟨(some 22), .mv (.t 1), (some (21, false))⟩, ⟨(some 23), .len true (.t 22), (some (21, false))⟩, ⟨(some 24), .bin .gtr (.t 23) (.c (.int .i64 200)), (some (21, false))⟩, ⟨(some 25), .pick (.t 21) (.c (.bool true)) (.t 24), none⟩])
  (.cond (.t 25) (.seq (.ops [⟨(some 26), .call 11 [], none⟩, ⟨(some 4), .mv (.t 26), none⟩])
  .ret) .skip))
  (.seq (.ops [⟨(some 28), .loadN 3 (.t 2), none⟩, ⟨(some 29), .call 13 [(.t 28)], none⟩, ⟨(some 30), .call 12 [(.t 29)], none⟩, ⟨(some 27), .mv (.t 30), none⟩, ⟨(some 31), .ext (.t 27) 0, none⟩, ⟨(some 32), .ext (.t 27) 1, none⟩, ⟨(some 5), .mv (.t 31), none⟩, ⟨(some 6), .mv (.t 32), none⟩])
  (.seq (.seq (.ops [⟨(some 33), .mv (.t 6), none⟩, ⟨(some 34), .call 14 [(.t 33)], none⟩, ⟨(some 35), .bin .eql (.t 34) (.c (.int .i64 0)), none⟩])
  (.cond (.t 35) (.seq (.ops [⟨(some 37), .mv (.t 5), none⟩, ⟨(some 38), .call 15 [(.t 37)], none⟩, ⟨(some 36), .mv (.t 38), none⟩, ⟨(some 39), .ext (.t 36) 0, none⟩, ⟨(some 40), .ext (.t 36) 1, none⟩, ⟨(some 7), .alloc [(.int .i64 0), (.int .i64 0), (.string ⟨#[]⟩)], none⟩, ⟨none, .store 3 (.t 7) (.t 39), none⟩, ⟨(some 8), .mv (.t 40), none⟩])
  (.seq (.dops [⟨⟨(some 41), .mv (.t 8), none⟩, 0, false, false⟩, ⟨⟨(some 42), .call 14 [(.t 41)], none⟩, 1, true, false⟩, ⟨⟨(some 43), .bin .neq (.t 42) (.c (.int .i64 0)), none⟩, 2, false, false⟩, ⟨⟨(some 44), .mv (.t 43), none⟩, 3, false, false⟩, ⟨⟨(some 45), .loadN 3 (.t 7), (some (44, false))⟩, 4, false, false⟩, ⟨⟨(some 46), .loadN 3 (.t 2), (some (44, false))⟩, 5, false, false⟩, ⟨⟨(some 47), .call 13 [(.t 46)], (some (44, false))⟩, 6, true, true⟩, ⟨⟨(some 48), .eqA true [.int, .int, .str] (.t 45) (.t 47), (some (44, false))⟩, 7, false, false⟩, ⟨⟨(some 49), .pick (.t 44) (.c (.bool true)) (.t 48), none⟩, 8, false, false⟩])
  (.cond (.t 49) (.seq (.ops [⟨(some 4), .mv (.c (.bool false)), none⟩])
  .ret) .skip))) (.seq (.ops [⟨(some 50), .mv (.t 6), none⟩, ⟨(some 51), .call 14 [(.t 50)], none⟩, ⟨(some 52), .bin .neq (.t 51) (.c (.int .i64 1)), none⟩, ⟨(some 53), .mv (.t 52), none⟩, ⟨(some 54), .mv (.t 5), (some (53, false))⟩, ⟨(some 55), .bin .neq (.t 54) (.c (.string ⟨#[]⟩)), (some (53, false))⟩, ⟨(some 56), .pick (.t 53) (.c (.bool true)) (.t 55), none⟩])
  (.cond (.t 56) (.seq (.ops [⟨(some 4), .mv (.c (.bool false)), none⟩])
  .ret) .skip))))
  (.seq (.ops [⟨(some 58), .mv (.t 1), none⟩, ⟨(some 59), .call 15 [(.t 58)], none⟩, ⟨(some 57), .mv (.t 59), none⟩, ⟨(some 60), .ext (.t 57) 0, none⟩, ⟨(some 61), .ext (.t 57) 1, none⟩, ⟨(some 9), .alloc [(.int .i64 0), (.int .i64 0), (.string ⟨#[]⟩)], none⟩, ⟨none, .store 3 (.t 9) (.t 60), none⟩, ⟨(some 10), .mv (.t 61), none⟩])
  (.seq (.seq (.ops [⟨(some 62), .mv (.t 10), none⟩, ⟨(some 63), .call 14 [(.t 62)], none⟩, ⟨(some 64), .bin .neq (.t 63) (.c (.int .i64 0)), none⟩])
  (.cond (.t 64) (.seq (.ops [⟨(some 65), .mv (.t 10), none⟩, ⟨(some 66), .call 14 [(.t 65)], none⟩, ⟨(some 67), .bin .eql (.t 66) (.c (.int .i64 2)), none⟩, ⟨(some 68), .mv (.t 67), none⟩, ⟨(some 69), .loadN 3 (.t 9), (some (68, true))⟩, ⟨(some 70), .bld [(.int .i64 0), (.int .i64 0), (.string ⟨#[]⟩)] [], (some (68, true))⟩, ⟨(some 71), .eqA false [.int, .int, .str] (.t 69) (.t 70), (some (68, true))⟩, ⟨(some 72), .pick (.t 68) (.t 71) (.c (.bool false)), none⟩, ⟨(some 4), .mv (.t 72), none⟩])
  .ret) .skip))
  (.seq (.ops [⟨(some 74), .loadN 3 (.t 9), none⟩, ⟨(some 75), .call 12 [(.t 74)], none⟩, ⟨(some 73), .mv (.t 75), none⟩, ⟨(some 76), .ext (.t 73) 0, none⟩, ⟨(some 77), .ext (.t 73) 1, none⟩, ⟨(some 11), .mv (.t 76), none⟩, ⟨(some 12), .mv (.t 77), none⟩])
  (.seq (.ops [⟨(some 78), .mv (.t 12), none⟩, ⟨(some 79), .call 14 [(.t 78)], none⟩, ⟨(some 80), .bin .eql (.t 79) (.c (.int .i64 0)), none⟩, ⟨(some 81), .mv (.t 80), none⟩, ⟨(some 82), .mv (.t 11), (some (81, true))⟩, ⟨(some 83), .mv (.t 1), (some (81, true))⟩, ⟨(some 84), .bin .eql (.t 82) (.t 83), (some (81, true))⟩, ⟨(some 85), .pick (.t 81) (.t 84) (.c (.bool false)), none⟩, ⟨(some 86), .mv (.t 85), none⟩, ⟨(some 87), .loadN 3 (.t 9), (some (86, true))⟩, ⟨(some 88), .call 16 [(.t 87)], (some (86, true))⟩, ⟨(some 89), .pick (.t 86) (.t 88) (.c (.bool false)), none⟩, ⟨(some 4), .mv (.t 89), none⟩])
  .ret))))))))
def r3 : List RV := [.t 4]
theorem fn3 : cFn Tryd.prog 3 = some (c3, r3, 90) := by kernel_rfl

/-- dynamo/dynamolaw14.GridPlays -/
def c4 : MC :=
  (.seq (.ops [⟨(some 2), .box (.t 0), none⟩, ⟨(some 4), .mv (.c (.bool false)), none⟩])
  (.seq (.seq (.ops [⟨(some 12), .call 11 [], none⟩, ⟨(some 13), .not (.t 12), none⟩, ⟨(some 14), .mv (.t 13), none⟩, ⟨(some 15), .fadd 2 (.t 2), (some (14, false))⟩, ⟨(some 16), .load1 (.t 15), (some (14, false))⟩, ⟨(some 17), .len true (.t 16), (some (14, false))⟩, ⟨(some 18), .bin .gtr (.t 17) (.c (.int .i64 200)), (some (14, false))⟩, ⟨(some 19), .pick (.t 14) (.c (.bool true)) (.t 18), none⟩, ⟨(some 20), .mv (.t 19), none⟩, ⟨(some 21), .mv (.t 1), (some (20, false))⟩, ⟨(some 22), .len true (.t 21), (some (20, false))⟩, ⟨(some 23), .bin .gtr (.t 22) (.c (.int .i64 200)), (some (20, false))⟩, ⟨(some 24), .pick (.t 20) (.c (.bool true)) (.t 23), none⟩])
  (.cond (.t 24) (.seq (.ops [⟨(some 25), .call 11 [], none⟩, ⟨(some 4), .mv (.t 25), none⟩])
  .ret) .skip))
  (.seq (.ops [⟨(some 27), .loadN 3 (.t 2), none⟩, ⟨(some 28), .call 13 [(.t 27)], none⟩, ⟨(some 29), .call 12 [(.t 28)], none⟩, ⟨(some 26), .mv (.t 29), none⟩, ⟨(some 30), .ext (.t 26) 0, none⟩, ⟨(some 31), .ext (.t 26) 1, none⟩, ⟨(some 5), .mv (.t 30), none⟩, ⟨(some 6), .mv (.t 31), none⟩])
  (.seq (.ops [⟨(some 32), .loadN 3 (.t 2), none⟩, ⟨(some 33), .call 17 [(.t 32)], none⟩, ⟨(some 7), .mv (.t 33), none⟩])
  (.seq (.seq (.ops [⟨(some 34), .loadN 3 (.t 2), none⟩, ⟨(some 35), .call 13 [(.t 34)], none⟩, ⟨(some 36), .call 16 [(.t 35)], none⟩, ⟨(some 37), .mv (.t 7), none⟩, ⟨(some 38), .eqB true (.t 36) (.t 37), none⟩, ⟨(some 39), .mv (.t 38), none⟩, ⟨(some 40), .mv (.t 7), (some (39, false))⟩, ⟨(some 41), .mv (.t 6), (some (39, false))⟩, ⟨(some 42), .call 14 [(.t 41)], (some (39, false))⟩, ⟨(some 43), .bin .eql (.t 42) (.c (.int .i64 0)), (some (39, false))⟩, ⟨(some 44), .eqB true (.t 40) (.t 43), (some (39, false))⟩, ⟨(some 45), .pick (.t 39) (.c (.bool true)) (.t 44), none⟩, ⟨(some 46), .mv (.t 45), none⟩, ⟨(some 47), .mv (.t 7), (some (46, false))⟩, ⟨(some 48), .mv (.t 47), (some (46, false))⟩, ⟨(some 49), .mv (.t 5), (some (48, true))⟩, ⟨(some 50), .loadN 3 (.t 2), (some (48, true))⟩, ⟨(some 51), .call 18 [(.t 50)], (some (48, true))⟩, ⟨(some 52), .bin .neq (.t 49) (.t 51), (some (48, true))⟩, ⟨(some 53), .pick (.t 48) (.t 52) (.c (.bool false)), (some (46, false))⟩, ⟨(some 54), .pick (.t 46) (.c (.bool true)) (.t 53), none⟩])
  (.cond (.t 54) (.seq (.ops [⟨(some 4), .mv (.c (.bool false)), none⟩])
  .ret) .skip))
  (.seq (.ops [⟨(some 56), .mv (.t 1), none⟩, ⟨(some 57), .call 15 [(.t 56)], none⟩, ⟨(some 55), .mv (.t 57), none⟩, ⟨(some 58), .ext (.t 55) 0, none⟩, ⟨(some 59), .ext (.t 55) 1, none⟩, ⟨(some 8), .alloc [(.int .i64 0), (.int .i64 0), (.string ⟨#[]⟩)], none⟩, ⟨none, .store 3 (.t 8) (.t 58), none⟩, ⟨(some 9), .mv (.t 59), none⟩])
  (.seq (.ops [⟨(some 61), .mv (.t 1), none⟩, ⟨(some 62), .call 19 [(.t 61)], none⟩, ⟨(some 60), .mv (.t 62), none⟩, ⟨(some 63), .ext (.t 60) 0, none⟩, ⟨(some 64), .ext (.t 60) 1, none⟩, ⟨(some 10), .alloc [(.int .i64 0), (.int .i64 0), (.string ⟨#[]⟩)], none⟩, ⟨none, .store 3 (.t 10) (.t 63), none⟩, ⟨(some 11), .mv (.t 64), none⟩])
  (.seq (.dops [⟨⟨(some 65), .loadN 3 (.t 8), none⟩, 0, false, false⟩, ⟨⟨(some 66), .loadN 3 (.t 10), none⟩, 1, false, false⟩, ⟨⟨(some 67), .call 13 [(.t 66)], none⟩, 2, true, true⟩, ⟨⟨(some 68), .eqA false [.int, .int, .str] (.t 65) (.t 67), none⟩, 3, false, false⟩, ⟨⟨(some 69), .mv (.t 68), none⟩, 4, false, false⟩, ⟨⟨(some 70), .mv (.t 11), (some (69, true))⟩, 5, false, false⟩, ⟨⟨(some 71), .mv (.t 9), (some (69, true))⟩, 6, false, false⟩, ⟨⟨(some 72), .call 14 [(.t 71)], (some (69, true))⟩, 7, true, false⟩, ⟨⟨(some 73), .bin .eql (.t 72) (.c (.int .i64 0)), (some (69, true))⟩, 8, false, false⟩, ⟨⟨(some 74), .eqB false (.t 70) (.t 73), (some (69, true))⟩, 9, false, false⟩, ⟨⟨(some 75), .pick (.t 69) (.t 74) (.c (.bool false)), none⟩, 10, false, false⟩, ⟨⟨(some 4), .mv (.t 75), none⟩, 11, false, false⟩])
  .ret))))))))
def r4 : List RV := [.t 4]
theorem fn4 : cFn Tryd.prog 4 = some (c4, r4, 76) := by kernel_rfl

/-- dynamo/dynamolaw25.TextBack -/
def c5 : MC :=
  (.seq (.ops [⟨(some 1), .box (.t 0), none⟩, ⟨(some 2), .mv (.c (.bool false)), none⟩])
  (.seq (.seq (.ops [⟨(some 7), .call 20 [], none⟩, ⟨(some 8), .not (.t 7), none⟩, ⟨(some 9), .mv (.t 8), none⟩, ⟨(some 10), .fadd 0 (.t 1), (some (9, false))⟩, ⟨(some 11), .load1 (.t 10), (some (9, false))⟩, ⟨(some 12), .len true (.t 11), (some (9, false))⟩, ⟨(some 13), .bin .gtr (.t 12) (.c (.int .i64 50)), (some (9, false))⟩, ⟨(some 14), .pick (.t 9) (.c (.bool true)) (.t 13), none⟩])
  (.cond (.t 14) (.seq (.ops [⟨(some 15), .call 20 [], none⟩, ⟨(some 2), .mv (.t 15), none⟩])
  .ret) .skip))
  (.seq (.ops [⟨(some 17), .loadN 4 (.t 1), none⟩, ⟨(some 18), .call 22 [(.t 17)], none⟩, ⟨(some 19), .call 21 [(.t 18)], none⟩, ⟨(some 16), .mv (.t 19), none⟩, ⟨(some 20), .ext (.t 16) 0, none⟩, ⟨(some 21), .ext (.t 16) 1, none⟩, ⟨(some 3), .mv (.t 20), none⟩, ⟨(some 4), .mv (.t 21), none⟩])
  (.seq (.seq (.ops [⟨(some 22), .loadN 4 (.t 1), none⟩, ⟨(some 23), .call 23 [(.t 22)], none⟩, ⟨(some 24), .not (.t 23), none⟩])
  (.cond (.t 24) (.seq (.ops [⟨(some 25), .mv (.t 4), none⟩, ⟨(some 26), .call 14 [(.t 25)], none⟩, ⟨(some 27), .bin .eql (.t 26) (.c (.int .i64 1)), none⟩, ⟨(some 28), .mv (.t 27), none⟩, ⟨(some 29), .mv (.t 3), (some (28, true))⟩, ⟨(some 30), .bin .eql (.t 29) (.c (.string ⟨#[]⟩)), (some (28, true))⟩, ⟨(some 31), .pick (.t 28) (.t 30) (.c (.bool false)), none⟩, ⟨(some 2), .mv (.t 31), none⟩])
  .ret) .skip))
  (.seq (.ops [⟨(some 33), .mv (.t 3), none⟩, ⟨(some 34), .call 24 [(.t 33)], none⟩, ⟨(some 32), .mv (.t 34), none⟩, ⟨(some 35), .ext (.t 32) 0, none⟩, ⟨(some 36), .ext (.t 32) 1, none⟩, ⟨(some 5), .alloc [(.string ⟨#[]⟩), (.int .i64 0), (.int .i64 0), (.int .i64 0)], none⟩, ⟨none, .store 4 (.t 5) (.t 35), none⟩, ⟨(some 6), .mv (.t 36), none⟩])
  (.seq (.dops [⟨⟨(some 37), .mv (.t 4), none⟩, 0, false, false⟩, ⟨⟨(some 38), .call 14 [(.t 37)], none⟩, 1, true, false⟩, ⟨⟨(some 39), .bin .eql (.t 38) (.c (.int .i64 0)), none⟩, 2, false, false⟩, ⟨⟨(some 40), .mv (.t 39), none⟩, 3, false, false⟩, ⟨⟨(some 41), .mv (.t 3), (some (40, true))⟩, 4, false, false⟩, ⟨⟨(some 42), .loadN 4 (.t 1), (some (40, true))⟩, 5, false, false⟩, ⟨⟨(some 43), .call 25 [(.t 42)], (some (40, true))⟩, 6, true, false⟩, ⟨⟨(some 44), .bin .eql (.t 41) (.t 43), (some (40, true))⟩, 7, false, false⟩, ⟨⟨(some 45), .pick (.t 40) (.t 44) (.c (.bool false)), none⟩, 8, false, false⟩, ⟨⟨(some 46), .mv (.t 45), none⟩, 9, false, false⟩, ⟨⟨(some 47), .mv (.t 6), (some (46, true))⟩, 10, false, false⟩, ⟨⟨(some 48), .call 14 [(.t 47)], (some (46, true))⟩, 11, true, false⟩, ⟨⟨(some 49), .bin .eql (.t 48) (.c (.int .i64 0)), (some (46, true))⟩, 12, false, false⟩, ⟨⟨(some 50), .pick (.t 46) (.t 49) (.c (.bool false)), none⟩, 13, false, false⟩, ⟨⟨(some 51), .mv (.t 50), none⟩, 14, false, false⟩, ⟨⟨(some 52), .loadN 4 (.t 5), (some (51, true))⟩, 15, false, false⟩, ⟨⟨(some 53), .loadN 4 (.t 1), (some (51, true))⟩, 16, false, false⟩, ⟨⟨(some 54), .call 22 [(.t 53)], (some (51, true))⟩, 17, true, true⟩, ⟨⟨(some 55), .eqA false [.str, .int, .int, .int] (.t 52) (.t 54), (some (51, true))⟩, 18, false, false⟩, ⟨⟨(some 56), .pick (.t 51) (.t 55) (.c (.bool false)), none⟩, 19, false, false⟩, ⟨⟨(some 2), .mv (.t 56), none⟩, 20, false, false⟩])
  .ret))))))
def r5 : List RV := [.t 2]
theorem fn5 : cFn Tryd.prog 5 = some (c5, r5, 57) := by kernel_rfl

/-- dynamo/dynamolaw25.TextOnly -/
def c6 : MC :=
  (.seq (.ops [⟨(some 2), .mv (.c (.bool false)), none⟩])
  (.seq (.seq (.ops [⟨(some 7), .call 20 [], none⟩, ⟨(some 8), .not (.t 7), none⟩, ⟨(some 9), .mv (.t 8), none⟩, ⟨(some 10), .mv (.t 0), (some (9, false))⟩, ⟨(some 11), .len true (.t 10), (some (9, false))⟩, ⟨(some 12), .bin .gtr (.t 11) (.c (.int .i64 300)), (some (9, false))⟩, ⟨(some 13), .pick (.t 9) (.c (.bool true)) (.t 12), none⟩])
  (.cond (.t 13) (.seq (.ops [⟨(some 14), .call 20 [], none⟩, ⟨(some 2), .mv (.t 14), none⟩])
  .ret) .skip))
  (.seq (.ops [⟨(some 16), .mv (.t 0), none⟩, ⟨(some 17), .call 24 [(.t 16)], none⟩, ⟨(some 15), .mv (.t 17), none⟩, ⟨(some 18), .ext (.t 15) 0, none⟩, ⟨(some 19), .ext (.t 15) 1, none⟩, ⟨(some 3), .alloc [(.string ⟨#[]⟩), (.int .i64 0), (.int .i64 0), (.int .i64 0)], none⟩, ⟨none, .store 4 (.t 3) (.t 18), none⟩, ⟨(some 4), .mv (.t 19), none⟩])
  (.seq (.seq (.ops [⟨(some 20), .mv (.t 4), none⟩, ⟨(some 21), .call 14 [(.t 20)], none⟩, ⟨(some 22), .bin .neq (.t 21) (.c (.int .i64 0)), none⟩])
  (.cond (.t 22) (.seq (.ops [⟨(some 23), .mv (.t 4), none⟩, ⟨(some 24), .call 14 [(.t 23)], none⟩, ⟨(some 25), .bin .eql (.t 24) (.c (.int .i64 2)), none⟩, ⟨(some 26), .mv (.t 25), none⟩, ⟨(some 27), .loadN 4 (.t 3), (some (26, true))⟩, ⟨(some 28), .bld [(.string ⟨#[]⟩), (.int .i64 0), (.int .i64 0), (.int .i64 0)] [], (some (26, true))⟩, ⟨(some 29), .eqA false [.str, .int, .int, .int] (.t 27) (.t 28), (some (26, true))⟩, ⟨(some 30), .pick (.t 26) (.t 29) (.c (.bool false)), none⟩, ⟨(some 2), .mv (.t 30), none⟩])
  .ret) .skip))
  (.seq (.ops [⟨(some 32), .loadN 4 (.t 3), none⟩, ⟨(some 33), .call 21 [(.t 32)], none⟩, ⟨(some 31), .mv (.t 33), none⟩, ⟨(some 34), .ext (.t 31) 0, none⟩, ⟨(some 35), .ext (.t 31) 1, none⟩, ⟨(some 5), .mv (.t 34), none⟩, ⟨(some 6), .mv (.t 35), none⟩])
  (.seq (.ops [⟨(some 36), .mv (.t 6), none⟩, ⟨(some 37), .call 14 [(.t 36)], none⟩, ⟨(some 38), .bin .eql (.t 37) (.c (.int .i64 0)), none⟩, ⟨(some 39), .mv (.t 38), none⟩, ⟨(some 40), .mv (.t 5), (some (39, true))⟩, ⟨(some 41), .mv (.t 0), (some (39, true))⟩, ⟨(some 42), .bin .eql (.t 40) (.t 41), (some (39, true))⟩, ⟨(some 43), .pick (.t 39) (.t 42) (.c (.bool false)), none⟩, ⟨(some 2), .mv (.t 43), none⟩])
  .ret))))))
def r6 : List RV := [.t 2]
theorem fn6 : cFn Tryd.prog 6 = some (c6, r6, 44) := by kernel_rfl

/-- dynamo/dynamolaw25.TextUnlike -/
def c7 : MC :=
  (.seq (.ops [⟨(some 2), .box (.t 0), none⟩, ⟨(some 3), .box (.t 1), none⟩, ⟨(some 4), .mv (.c (.bool false)), none⟩])
  (.seq (.seq (.ops [⟨(some 9), .call 20 [], none⟩, ⟨(some 10), .not (.t 9), none⟩, ⟨(some 11), .mv (.t 10), none⟩, ⟨(some 12), .fadd 0 (.t 2), (some (11, false))⟩, ⟨(some 13), .load1 (.t 12), (some (11, false))⟩, ⟨(some 14), .len true (.t 13), (some (11, false))⟩, ⟨(some 15), .bin .gtr (.t 14) (.c (.int .i64 50)), (some (11, false))⟩, ⟨(some 16), .pick (.t 11) (.c (.bool true)) (.t 15), none⟩, ⟨(some 17), .mv (.t 16), none⟩, ⟨(some 18), .fadd 0 (.t 3), (some (17, false))⟩, ⟨(some 19), .load1 (.t 18), (some (17, false))⟩, ⟨(some 20), .len true (.t 19), (some (17, false))⟩, ⟨(some 21), .bin .gtr (.t 20) (.c (.int .i64 50)), (some (17, false))⟩, ⟨(some 22), .pick (.t 17) (.c (.bool true)) (.t 21), none⟩])
  (.cond (.t 22) (.seq (.ops [⟨(some 23), .call 20 [], none⟩, ⟨(some 4), .mv (.t 23), none⟩])
  .ret) .skip))
  (.seq (.ops [⟨(some 25), .loadN 4 (.t 2), none⟩, ⟨(some 26), .call 22 [(.t 25)], none⟩, ⟨(some 27), .call 21 [(.t 26)], none⟩, ⟨(some 24), .mv (.t 27), none⟩, ⟨(some 28), .ext (.t 24) 0, none⟩, ⟨(some 29), .ext (.t 24) 1, none⟩, ⟨(some 5), .mv (.t 28), none⟩, ⟨(some 6), .mv (.t 29), none⟩])
  (.seq (.ops [⟨(some 31), .loadN 4 (.t 3), none⟩, ⟨(some 32), .call 22 [(.t 31)], none⟩, ⟨(some 33), .call 21 [(.t 32)], none⟩, ⟨(some 30), .mv (.t 33), none⟩, ⟨(some 34), .ext (.t 30) 0, none⟩, ⟨(some 35), .ext (.t 30) 1, none⟩, ⟨(some 7), .mv (.t 34), none⟩, ⟨(some 8), .mv (.t 35), none⟩])
  (.seq (.ops [⟨(some 36), .mv (.t 6), none⟩, ⟨(some 37), .call 14 [(.t 36)], none⟩, ⟨(some 38), .bin .neq (.t 37) (.c (.int .i64 0)), none⟩, ⟨(some 39), .mv (.t 38), none⟩, ⟨(some 40), .mv (.t 8), (some (39, false))⟩, ⟨(some 41), .call 14 [(.t 40)], (some (39, false))⟩, ⟨(some 42), .bin .neq (.t 41) (.c (.int .i64 0)), (some (39, false))⟩, ⟨(some 43), .pick (.t 39) (.c (.bool true)) (.t 42), none⟩, ⟨(some 44), .mv (.t 43), none⟩, ⟨(some 45), .mv (.t 5), (some (44, false))⟩, ⟨(some 46), .mv (.t 7), (some (44, false))⟩, ⟨(some 47), .bin .eql (.t 45) (.t 46), (some (44, false))⟩, ⟨(some 48), .loadN 4 (.t 2), (some (44, false))⟩, ⟨(some 49), .loadN 4 (.t 3), (some (44, false))⟩, ⟨(some 50), .eqA false [.str, .int, .int, .int] (.t 48) (.t 49), (some (44, false))⟩, ⟨(some 51), .eqB false (.t 47) (.t 50), (some (44, false))⟩, ⟨(some 52), .pick (.t 44) (.c (.bool true)) (.t 51), none⟩, ⟨(some 4), .mv (.t 52), none⟩])
  .ret)))))
def r7 : List RV := [.t 4]
theorem fn7 : cFn Tryd.prog 7 = some (c7, r7, 53) := by kernel_rfl

/-- dynamo/dynamolaw25.TextTells -/
def c8 : MC :=
  (.seq (.ops [⟨(some 2), .mv (.c (.bool false)), none⟩])
  (.seq (.seq (.ops [⟨(some 5), .call 20 [], none⟩, ⟨(some 6), .not (.t 5), none⟩, ⟨(some 7), .mv (.t 6), none⟩, ⟨(some 8), .mv (.t 0), (some (7, false))⟩, ⟨(some 9), .len false (.t 8), (some (7, false))⟩, ⟨(some 10), .bin .gtr (.t 9) (.c (.int .i64 60)), (some (7, false))⟩, ⟨(some 11), .pick (.t 7) (.c (.bool true)) (.t 10), none⟩])
  (.cond (.t 11) (.seq (.ops [⟨(some 12), .call 20 [], none⟩, ⟨(some 2), .mv (.t 12), none⟩])
  .ret) .skip))
  (.seq (.ops [⟨(some 3), .mv (.c (.string ⟨#[]⟩)), none⟩])
  (.seq (.seq (.ops [⟨(some 4), .mv (.c (.int .i64 0)), none⟩])
  (.block 0 (.loop (.seq (.seq (.ops [⟨(some 13), .mv (.t 4), none⟩, ⟨(some 14), .mv (.t 0), none⟩, ⟨(some 15), .len false (.t 14), none⟩, ⟨(some 16), .bin .lss (.t 13) (.t 15), none⟩])
  (.cond (.t 16) .skip (.exit 0)))
  (.seq (.block 1 (.dops [⟨⟨(some 19), .mv (.t 3), none⟩, 0, false, false⟩, ⟨⟨(some 20), .mv (.t 0), none⟩, 1, false, false⟩, ⟨⟨(some 21), .mv (.t 4), none⟩, 2, false, false⟩, ⟨⟨(some 22), .iaS 2 (.t 20) (.t 21), none⟩, 3, false, false⟩, ⟨⟨(some 23), .fadd 0 (.t 22), none⟩, 4, false, false⟩, ⟨⟨(some 24), .load1 (.t 23), none⟩, 5, false, false⟩, ⟨⟨(some 28), .mv (.t 0), none⟩, 9, false, false⟩, ⟨⟨(some 29), .mv (.t 4), none⟩, 10, false, false⟩, ⟨⟨(some 30), .iaS 2 (.t 28) (.t 29), none⟩, 11, false, false⟩, ⟨⟨(some 31), .fadd 1 (.t 30), none⟩, 12, false, false⟩, ⟨⟨(some 32), .load1 (.t 31), none⟩, 13, false, false⟩, ⟨⟨(some 25), .call 26 [(.t 24)], none⟩, 6, true, true⟩, ⟨⟨(some 26), .bin .add (.t 19) (.t 25), none⟩, 7, false, false⟩, ⟨⟨(some 27), .bin .add (.t 26) (.c (.string ⟨#[32]⟩)), none⟩, 8, false, false⟩, ⟨⟨(some 33), .call 26 [(.t 32)], none⟩, 14, true, false⟩, ⟨⟨(some 34), .bin .add (.t 27) (.t 33), none⟩, 15, false, false⟩, ⟨⟨(some 35), .bin .add (.t 34) (.c (.string ⟨#[10]⟩)), none⟩, 16, false, false⟩, ⟨⟨(some 3), .mv (.t 35), none⟩, 17, true, false⟩]))
  (.ops [⟨(some 17), .mv (.t 4), none⟩, ⟨(some 18), .bin .add (.t 17) (.c (.int .i64 1)), none⟩, ⟨(some 4), .mv (.t 18), none⟩]))))))
  (.seq (.ops [⟨(some 36), .mv (.t 0), none⟩, ⟨(some 37), .call 27 [(.t 36)], none⟩, ⟨(some 38), .mv (.t 3), none⟩, ⟨(some 39), .bin .eql (.t 37) (.t 38), none⟩, ⟨(some 2), .mv (.t 39), none⟩])
  .ret)))))
def r8 : List RV := [.t 2]
theorem fn8 : cFn Tryd.prog 8 = some (c8, r8, 40) := by kernel_rfl

/-- dynamo/dynamolaw25.TextAll -/
def c9 : MC :=
  (.seq (.ops [⟨(some 2), .mv (.c (.bool false)), none⟩])
  (.seq (.seq (.ops [⟨(some 16), .call 20 [], none⟩, ⟨(some 17), .not (.t 16), none⟩, ⟨(some 18), .mv (.t 17), none⟩, ⟨(some 19), .mv (.t 0), (some (18, false))⟩, ⟨(some 20), .len true (.t 19), (some (18, false))⟩, ⟨(some 21), .bin .gtr (.t 20) (.c (.int .i64 3000)), (some (18, false))⟩, ⟨(some 22), .pick (.t 18) (.c (.bool true)) (.t 21), none⟩])
  (.cond (.t 22) (.seq (.ops [⟨(some 23), .call 20 [], none⟩, ⟨(some 2), .mv (.t 23), none⟩])
  .ret) .skip))
  (.seq (.ops [⟨(some 25), .mv (.t 0), none⟩, ⟨(some 26), .call 28 [(.t 25)], none⟩, ⟨(some 24), .mv (.t 26), none⟩, ⟨(some 27), .ext (.t 24) 0, none⟩, ⟨(some 28), .ext (.t 24) 1, none⟩, ⟨(some 29), .ext (.t 24) 2, none⟩, ⟨(some 3), .mv (.t 27), none⟩, ⟨(some 4), .mv (.t 28), none⟩, ⟨(some 5), .mv (.t 29), none⟩])
  (.seq (.ops [⟨(some 6), .mv (.c (.int .i64 0)), none⟩, ⟨(some 7), .mv (.c (.int .i64 0)), none⟩])
  (.seq (.ops [⟨(some 8), .mv (.c (.slice none 0 0)), none⟩])
  (.seq (.seq (.ops [⟨(some 9), .mv (.c (.int .i64 0)), none⟩])
  (.block 0 (.loop (.seq (.seq (.ops [⟨(some 30), .mv (.t 9), none⟩, ⟨(some 31), .mv (.t 0), none⟩, ⟨(some 32), .len true (.t 31), none⟩, ⟨(some 33), .bin .lss (.t 30) (.t 32), none⟩])
  (.cond (.t 33) .skip (.exit 0)))
  (.seq (.block 1 (.seq (.seq (.ops [⟨(some 36), .mv (.t 0), none⟩, ⟨(some 37), .mv (.t 9), none⟩, ⟨(some 38), .idxS (.t 36) (.t 37), none⟩, ⟨(some 39), .bin .neq (.t 38) (.c (.int .u8 10)), none⟩, ⟨(some 40), .mv (.t 39), none⟩, ⟨(some 41), .mv (.t 9), (some (40, true))⟩, ⟨(some 42), .mv (.t 0), (some (40, true))⟩, ⟨(some 43), .len true (.t 42), (some (40, true))⟩, ⟨(some 44), .bin .sub (.t 43) (.c (.int .i64 1)), (some (40, true))⟩, ⟨(some 45), .bin .lss (.t 41) (.t 44), (some (40, true))⟩, ⟨(some 46), .pick (.t 40) (.t 45) (.c (.bool false)), none⟩])
  (.cond (.t 46) (.exit 1) .skip))
  (.seq (.ops [⟨(some 47), .mv (.t 7), none⟩, ⟨(some 48), .bin .add (.t 47) (.c (.int .i64 1)), none⟩, ⟨(some 7), .mv (.t 48), none⟩])
  (.seq (.ops [⟨(some 50), .mv (.t 0), none⟩, ⟨(some 51), .mv (.t 6), none⟩, ⟨(some 52), .mv (.t 9), none⟩, ⟨(some 53), .bin .add (.t 52) (.c (.int .i64 1)), none⟩, ⟨(some 54), .slcS (.t 50) (some (.t 51)) (some (.t 53)), none⟩, ⟨(some 55), .call 24 [(.t 54)], none⟩, ⟨(some 49), .mv (.t 55), none⟩, ⟨(some 56), .ext (.t 49) 0, none⟩, ⟨(some 57), .ext (.t 49) 1, none⟩, ⟨(some 10), .alloc [(.string ⟨#[]⟩), (.int .i64 0), (.int .i64 0), (.int .i64 0)], none⟩, ⟨none, .store 4 (.t 10) (.t 56), none⟩, ⟨(some 11), .mv (.t 57), none⟩])
  (.seq (.seq (.ops [⟨(some 58), .mv (.t 11), none⟩, ⟨(some 59), .call 14 [(.t 58)], none⟩, ⟨(some 60), .bin .neq (.t 59) (.c (.int .i64 0)), none⟩])
  (.cond (.t 60) (.seq (.ops [⟨(some 61), .mv (.t 5), none⟩, ⟨(some 62), .call 14 [(.t 61)], none⟩, ⟨(some 63), .bin .eql (.t 62) (.c (.int .i64 2)), none⟩, ⟨(some 64), .mv (.t 63), none⟩, ⟨(some 65), .mv (.t 4), (some (64, true))⟩, ⟨(some 66), .mv (.t 7), (some (64, true))⟩, ⟨(some 67), .bin .eql (.t 65) (.t 66), (some (64, true))⟩, ⟨(some 68), .pick (.t 64) (.t 67) (.c (.bool false)), none⟩, ⟨(some 69), .mv (.t 68), none⟩, ⟨(some 70), .mv (.t 3), (some (69, true))⟩, ⟨(some 71), .len false (.t 70), (some (69, true))⟩, ⟨(some 72), .bin .eql (.t 71) (.c (.int .i64 0)), (some (69, true))⟩, ⟨(some 73), .pick (.t 69) (.t 72) (.c (.bool false)), none⟩, ⟨(some 2), .mv (.t 73), none⟩])
  .ret) .skip))
  (.seq (.ops [⟨(some 74), .mv (.t 8), none⟩, ⟨(some 75), .loadN 4 (.t 10), none⟩, ⟨(some 76), .bsl 4 1 [(.string ⟨#[]⟩), (.int .i64 0), (.int .i64 0), (.int .i64 0)] [(0, (.t 75))], none⟩, ⟨(some 77), .app 4 40 (.t 74) (.t 76), none⟩, ⟨(some 8), .mv (.t 77), none⟩])
  (.ops [⟨(some 78), .mv (.t 9), none⟩, ⟨(some 79), .bin .add (.t 78) (.c (.int .i64 1)), none⟩, ⟨(some 6), .mv (.t 79), none⟩])))))))
  (.ops [⟨(some 34), .mv (.t 9), none⟩, ⟨(some 35), .bin .add (.t 34) (.c (.int .i64 1)), none⟩, ⟨(some 9), .mv (.t 35), none⟩]))))))
  (.seq (.seq (.ops [⟨(some 12), .mv (.c (.int .i64 0)), none⟩])
  (.block 2 (.loop (.seq (.seq (.ops [⟨(some 80), .mv (.t 12), none⟩, ⟨(some 81), .mv (.t 8), none⟩, ⟨(some 82), .len false (.t 81), none⟩, ⟨(some 83), .bin .lss (.t 80) (.t 82), none⟩])
  (.cond (.t 83) .skip (.exit 2)))
  (.seq (.block 3 (.seq (.dops [⟨⟨(some 86), .mv (.t 3), none⟩, 0, false, false⟩, ⟨⟨(some 87), .len false (.t 86), none⟩, 1, false, false⟩, ⟨⟨(some 88), .mv (.t 8), none⟩, 2, false, false⟩, ⟨⟨(some 89), .len false (.t 88), none⟩, 3, false, false⟩, ⟨⟨(some 90), .bin .neq (.t 87) (.t 89), none⟩, 4, false, false⟩, ⟨⟨(some 91), .mv (.t 90), none⟩, 5, false, false⟩, ⟨⟨(some 92), .mv (.t 3), (some (91, false))⟩, 6, false, false⟩, ⟨⟨(some 93), .mv (.t 12), (some (91, false))⟩, 7, false, false⟩, ⟨⟨(some 94), .iaS 4 (.t 92) (.t 93), (some (91, false))⟩, 8, false, false⟩, ⟨⟨(some 95), .loadN 4 (.t 94), (some (91, false))⟩, 9, false, false⟩, ⟨⟨(some 96), .mv (.t 8), (some (91, false))⟩, 10, false, false⟩, ⟨⟨(some 97), .mv (.t 12), (some (91, false))⟩, 11, false, false⟩, ⟨⟨(some 98), .iaS 4 (.t 96) (.t 97), (some (91, false))⟩, 12, false, false⟩, ⟨⟨(some 99), .loadN 4 (.t 98), (some (91, false))⟩, 13, false, false⟩, ⟨⟨(some 100), .eqA true [.str, .int, .int, .int] (.t 95) (.t 99), (some (91, false))⟩, 14, false, false⟩, ⟨⟨(some 101), .pick (.t 91) (.c (.bool true)) (.t 100), none⟩, 15, false, false⟩])
  (.cond (.t 101) (.seq (.ops [⟨(some 2), .mv (.c (.bool false)), none⟩])
  .ret) .skip)))
  (.ops [⟨(some 84), .mv (.t 12), none⟩, ⟨(some 85), .bin .add (.t 84) (.c (.int .i64 1)), none⟩, ⟨(some 12), .mv (.t 85), none⟩]))))))
  (.seq (.ops [⟨(some 103), .mks 1 1 [(.int .u8 0)] (.c (.int .i64 20001)) (.c (.int .i64 20001)), none⟩, ⟨(some 104), .b2s (.t 103), none⟩, ⟨(some 105), .call 28 [(.t 104)], none⟩, ⟨(some 102), .mv (.t 105), none⟩, ⟨(some 106), .ext (.t 102) 0, none⟩, ⟨(some 107), .ext (.t 102) 1, none⟩, ⟨(some 108), .ext (.t 102) 2, none⟩, ⟨(some 13), .mv (.t 106), none⟩, ⟨(some 14), .mv (.t 107), none⟩, ⟨(some 15), .mv (.t 108), none⟩])
  (.seq (.ops [⟨(some 109), .mv (.t 5), none⟩, ⟨(some 110), .call 14 [(.t 109)], none⟩, ⟨(some 111), .bin .eql (.t 110) (.c (.int .i64 0)), none⟩, ⟨(some 112), .mv (.t 111), none⟩, ⟨(some 113), .mv (.t 4), (some (112, true))⟩, ⟨(some 114), .bin .eql (.t 113) (.c (.int .i64 0)), (some (112, true))⟩, ⟨(some 115), .pick (.t 112) (.t 114) (.c (.bool false)), none⟩, ⟨(some 116), .mv (.t 115), none⟩, ⟨(some 117), .mv (.t 3), (some (116, true))⟩, ⟨(some 118), .len false (.t 117), (some (116, true))⟩, ⟨(some 119), .mv (.t 8), (some (116, true))⟩, ⟨(some 120), .len false (.t 119), (some (116, true))⟩, ⟨(some 121), .bin .eql (.t 118) (.t 120), (some (116, true))⟩, ⟨(some 122), .pick (.t 116) (.t 121) (.c (.bool false)), none⟩, ⟨(some 123), .mv (.t 122), none⟩, ⟨(some 124), .mv (.t 14), (some (123, true))⟩, ⟨(some 125), .bin .eql (.t 124) (.c (.int .i64 0)), (some (123, true))⟩, ⟨(some 126), .pick (.t 123) (.t 125) (.c (.bool false)), none⟩, ⟨(some 127), .mv (.t 126), none⟩, ⟨(some 128), .mv (.t 15), (some (127, true))⟩, ⟨(some 129), .call 14 [(.t 128)], (some (127, true))⟩, ⟨(some 130), .bin .eql (.t 129) (.c (.int .i64 8)), (some (127, true))⟩, ⟨(some 131), .pick (.t 127) (.t 130) (.c (.bool false)), none⟩, ⟨(some 2), .mv (.t 131), none⟩])
  .ret)))))))))
def r9 : List RV := [.t 2]
theorem fn9 : cFn Tryd.prog 9 = some (c9, r9, 132) := by kernel_rfl

/-- dynamo/dynamolaw25.TextJoins -/
def c10 : MC :=
  (.seq (.ops [⟨(some 4), .mv (.c (.bool false)), none⟩])
  (.seq (.seq (.ops [⟨(some 15), .call 20 [], none⟩, ⟨(some 16), .not (.t 15), none⟩, ⟨(some 17), .mv (.t 16), none⟩, ⟨(some 18), .mv (.t 0), (some (17, false))⟩, ⟨(some 19), .call 29 [(.t 18)], (some (17, false))⟩, ⟨(some 20), .bin .eql (.t 19) (.c (.int .i64 0)), (some (17, false))⟩, ⟨(some 21), .pick (.t 17) (.c (.bool true)) (.t 20), none⟩, ⟨(some 22), .mv (.t 21), none⟩, ⟨(some 23), .mv (.t 1), (some (22, false))⟩, ⟨(some 24), .call 29 [(.t 23)], (some (22, false))⟩, ⟨(some 25), .bin .eql (.t 24) (.c (.int .i64 0)), (some (22, false))⟩, ⟨(some 26), .pick (.t 22) (.c (.bool true)) (.t 25), none⟩])
  (.cond (.t 26) (.seq (.ops [⟨(some 27), .call 20 [], none⟩, ⟨(some 4), .mv (.t 27), none⟩])
  .ret) .skip))
  (.seq (.ops [⟨(some 5), .mv (.c (.string ⟨#[]⟩)), none⟩])
  (.seq (.ops [⟨(some 6), .mv (.c (.slice none 0 0)), none⟩])
  (.seq (.ops [⟨(some 28), .bsl 4 0 [(.string ⟨#[]⟩), (.int .i64 0), (.int .i64 0), (.int .i64 0)] [], none⟩, ⟨(some 29), .mv (.t 0), none⟩, ⟨(some 30), .app 4 40 (.t 28) (.t 29), none⟩, ⟨(some 31), .mv (.t 1), none⟩, ⟨(some 32), .app 4 40 (.t 30) (.t 31), none⟩, ⟨(some 7), .mv (.t 32), none⟩])
  (.seq (.seq (.ops [⟨(some 8), .mv (.c (.int .i64 0)), none⟩])
  (.block 0 (.loop (.seq (.seq (.ops [⟨(some 33), .mv (.t 8), none⟩, ⟨(some 34), .mv (.t 7), none⟩, ⟨(some 35), .len false (.t 34), none⟩, ⟨(some 36), .bin .lss (.t 33) (.t 35), none⟩])
  (.cond (.t 36) .skip (.exit 0)))
  (.seq (.block 1 (.seq (.ops [⟨(some 40), .mv (.t 7), none⟩, ⟨(some 41), .mv (.t 8), none⟩, ⟨(some 42), .iaS 4 (.t 40) (.t 41), none⟩, ⟨(some 43), .loadN 4 (.t 42), none⟩, ⟨(some 44), .call 22 [(.t 43)], none⟩, ⟨(some 45), .call 21 [(.t 44)], none⟩, ⟨(some 39), .mv (.t 45), none⟩, ⟨(some 46), .ext (.t 39) 0, none⟩, ⟨(some 47), .ext (.t 39) 1, none⟩, ⟨(some 9), .mv (.t 46), none⟩, ⟨(some 10), .mv (.t 47), none⟩])
  (.seq (.ops [⟨(some 48), .mv (.t 10), none⟩, ⟨(some 49), .call 14 [(.t 48)], none⟩, ⟨(some 50), .bin .eql (.t 49) (.c (.int .i64 0)), none⟩])
  (.cond (.t 50) (.seq (.ops [⟨(some 51), .mv (.t 5), none⟩, ⟨(some 52), .mv (.t 9), none⟩, ⟨(some 53), .bin .add (.t 51) (.t 52), none⟩, ⟨(some 5), .mv (.t 53), none⟩])
  (.ops [⟨(some 54), .mv (.t 6), none⟩, ⟨(some 55), .mv (.t 7), none⟩, ⟨(some 56), .mv (.t 8), none⟩, ⟨(some 57), .iaS 4 (.t 55) (.t 56), none⟩, ⟨(some 58), .loadN 4 (.t 57), none⟩, ⟨(some 59), .call 22 [(.t 58)], none⟩, ⟨(some 60), .bsl 4 1 [(.string ⟨#[]⟩), (.int .i64 0), (.int .i64 0), (.int .i64 0)] [(0, (.t 59))], none⟩, ⟨(some 61), .app 4 40 (.t 54) (.t 60), none⟩, ⟨(some 6), .mv (.t 61), none⟩])) .skip))))
  (.ops [⟨(some 37), .mv (.t 8), none⟩, ⟨(some 38), .bin .add (.t 37) (.c (.int .i64 1)), none⟩, ⟨(some 8), .mv (.t 38), none⟩]))))))
  (.seq (.ops [⟨(some 63), .mv (.t 5), none⟩, ⟨(some 64), .call 28 [(.t 63)], none⟩, ⟨(some 62), .mv (.t 64), none⟩, ⟨(some 65), .ext (.t 62) 0, none⟩, ⟨(some 66), .ext (.t 62) 1, none⟩, ⟨(some 67), .ext (.t 62) 2, none⟩, ⟨(some 11), .mv (.t 65), none⟩, ⟨(some 12), .mv (.t 66), none⟩, ⟨(some 13), .mv (.t 67), none⟩])
  (.seq (.seq (.ops [⟨(some 14), .mv (.c (.int .i64 0)), none⟩])
  (.block 2 (.loop (.seq (.seq (.ops [⟨(some 68), .mv (.t 14), none⟩, ⟨(some 69), .mv (.t 6), none⟩, ⟨(some 70), .len false (.t 69), none⟩, ⟨(some 71), .bin .lss (.t 68) (.t 70), none⟩])
  (.cond (.t 71) .skip (.exit 2)))
  (.seq (.block 3 (.seq (.dops [⟨⟨(some 74), .mv (.t 11), none⟩, 0, false, false⟩, ⟨⟨(some 75), .len false (.t 74), none⟩, 1, false, false⟩, ⟨⟨(some 76), .mv (.t 6), none⟩, 2, false, false⟩, ⟨⟨(some 77), .len false (.t 76), none⟩, 3, false, false⟩, ⟨⟨(some 78), .bin .neq (.t 75) (.t 77), none⟩, 4, false, false⟩, ⟨⟨(some 79), .mv (.t 78), none⟩, 5, false, false⟩, ⟨⟨(some 80), .mv (.t 11), (some (79, false))⟩, 6, false, false⟩, ⟨⟨(some 81), .mv (.t 14), (some (79, false))⟩, 7, false, false⟩, ⟨⟨(some 82), .iaS 4 (.t 80) (.t 81), (some (79, false))⟩, 8, false, false⟩, ⟨⟨(some 83), .loadN 4 (.t 82), (some (79, false))⟩, 9, false, false⟩, ⟨⟨(some 84), .mv (.t 6), (some (79, false))⟩, 10, false, false⟩, ⟨⟨(some 85), .mv (.t 14), (some (79, false))⟩, 11, false, false⟩, ⟨⟨(some 86), .iaS 4 (.t 84) (.t 85), (some (79, false))⟩, 12, false, false⟩, ⟨⟨(some 87), .loadN 4 (.t 86), (some (79, false))⟩, 13, false, false⟩, ⟨⟨(some 88), .eqA true [.str, .int, .int, .int] (.t 83) (.t 87), (some (79, false))⟩, 14, false, false⟩, ⟨⟨(some 89), .pick (.t 79) (.c (.bool true)) (.t 88), none⟩, 15, false, false⟩])
  (.cond (.t 89) (.seq (.ops [⟨(some 4), .mv (.c (.bool false)), none⟩])
  .ret) .skip)))
  (.ops [⟨(some 72), .mv (.t 14), none⟩, ⟨(some 73), .bin .add (.t 72) (.c (.int .i64 1)), none⟩, ⟨(some 14), .mv (.t 73), none⟩]))))))
  (.seq (.ops [⟨(some 90), .mv (.t 13), none⟩, ⟨(some 91), .call 14 [(.t 90)], none⟩, ⟨(some 92), .bin .eql (.t 91) (.c (.int .i64 0)), none⟩, ⟨(some 93), .mv (.t 92), none⟩, ⟨(some 94), .mv (.t 12), (some (93, true))⟩, ⟨(some 95), .bin .eql (.t 94) (.c (.int .i64 0)), (some (93, true))⟩, ⟨(some 96), .pick (.t 93) (.t 95) (.c (.bool false)), none⟩, ⟨(some 97), .mv (.t 96), none⟩, ⟨(some 98), .mv (.t 11), (some (97, true))⟩, ⟨(some 99), .len false (.t 98), (some (97, true))⟩, ⟨(some 100), .mv (.t 6), (some (97, true))⟩, ⟨(some 101), .len false (.t 100), (some (97, true))⟩, ⟨(some 102), .bin .eql (.t 99) (.t 101), (some (97, true))⟩, ⟨(some 103), .pick (.t 97) (.t 102) (.c (.bool false)), none⟩, ⟨(some 4), .mv (.t 103), none⟩])
  .ret)))))))))
def r10 : List RV := [.t 4]
theorem fn10 : cFn Tryd.prog 10 = some (c10, r10, 104) := by kernel_rfl

/-- dynamo/dynamolaw14.awake -/
def c11 : MC :=
  (.seq (.ops [⟨(some 0), .mv (.c (.bool false)), none⟩])
  (.seq (.ops [⟨(some 4), .call 15 [(.c (.string ⟨#[46, 67, 10]⟩))], none⟩, ⟨(some 3), .mv (.t 4), none⟩, ⟨(some 5), .ext (.t 3) 0, none⟩, ⟨(some 6), .ext (.t 3) 1, none⟩, ⟨(some 1), .alloc [(.int .i64 0), (.int .i64 0), (.string ⟨#[]⟩)], none⟩, ⟨none, .store 3 (.t 1) (.t 5), none⟩, ⟨(some 2), .mv (.t 6), none⟩])
  (.seq (.ops [⟨(some 7), .mv (.t 2), none⟩, ⟨(some 8), .call 14 [(.t 7)], none⟩, ⟨(some 9), .bin .eql (.t 8) (.c (.int .i64 0)), none⟩, ⟨(some 10), .mv (.t 9), none⟩, ⟨(some 11), .fadd 0 (.t 1), (some (10, true))⟩, ⟨(some 12), .load1 (.t 11), (some (10, true))⟩, ⟨(some 13), .bin .eql (.t 12) (.c (.int .i64 2)), (some (10, true))⟩, ⟨(some 14), .pick (.t 10) (.t 13) (.c (.bool false)), none⟩, ⟨(some 15), .mv (.t 14), none⟩, ⟨(some 16), .fadd 1 (.t 1), (some (15, true))⟩, ⟨(some 17), .load1 (.t 16), (some (15, true))⟩, ⟨(some 18), .bin .eql (.t 17) (.c (.int .i64 1)), (some (15, true))⟩, ⟨(some 19), .pick (.t 15) (.t 18) (.c (.bool false)), none⟩, ⟨(some 20), .mv (.t 19), none⟩, ⟨(some 21), .loadN 3 (.t 1), (some (20, true))⟩, ⟨(some 22), .call 30 [(.t 21), (.c (.int .i64 0))], (some (20, true))⟩, ⟨(some 23), .pick (.t 20) (.t 22) (.c (.bool false)), none⟩, ⟨(some 0), .mv (.t 23), none⟩])
  .ret)))
def r11 : List RV := [.t 0]
theorem fn11 : cFn Tryd.prog 11 = some (c11, r11, 24) := by kernel_rfl

/-- dynamo/dynamolaw14.Of -/
def c13 : MC :=
  (.seq (.ops [⟨(some 1), .box (.t 0), none⟩, ⟨(some 2), .alloc [(.int .i64 0), (.int .i64 0), (.string ⟨#[]⟩)], none⟩])
  (.seq (.ops [⟨(some 3), .fadd 0 (.t 1), none⟩, ⟨(some 4), .load1 (.t 3), none⟩, ⟨(some 5), .fadd 1 (.t 1), none⟩, ⟨(some 6), .load1 (.t 5), none⟩, ⟨(some 7), .fadd 2 (.t 1), none⟩, ⟨(some 8), .load1 (.t 7), none⟩, ⟨(some 9), .bld [(.int .i64 0), (.int .i64 0), (.string ⟨#[]⟩)] [(0, 1, (.t 4)), (1, 1, (.t 6)), (2, 1, (.t 8))], none⟩, ⟨none, .store 3 (.t 2) (.t 9), none⟩])
  .ret))
def r13 : List RV := [.cell 2 3 true]
theorem fn13 : cFn Tryd.prog 13 = some (c13, r13, 10) := by kernel_rfl

/-- dynamo/tag.Num -/
def c14 : MC :=
  (.seq (.ops [⟨(some 2), .mv (.c (.int .i64 0)), none⟩])
  (.seq (.seq (.ops [⟨(some 4), .mv (.t 0), none⟩, ⟨(some 5), .eqN .iface false (.t 4) (.c .nilIface), none⟩])
  (.cond (.t 5) (.seq (.ops [⟨(some 2), .mv (.c (.int .i64 0)), none⟩])
  .ret) .skip))
  (.seq (.ops [⟨(some 3), .alloc [(.int .i64 0)], none⟩])
  (.seq (.seq (.ops [⟨(some 6), .mv (.t 0), none⟩, ⟨(some 7), .mki 77 (.t 3), none⟩, ⟨(some 8), .call 35 [(.t 6), (.t 7)], none⟩])
  (.cond (.t 8) (.seq (.ops [⟨(some 9), .load1 (.t 3), none⟩, ⟨(some 2), .mv (.t 9), none⟩])
  .ret) .skip))
  (.seq (.ops [⟨(some 2), .mv (.c (.int .i64 (-1))), none⟩])
  .ret)))))
def r14 : List RV := [.t 2]
theorem fn14 : cFn Tryd.prog 14 = some (c14, r14, 10) := by kernel_rfl

/-- dynamo/grid.Right -/
def c16 : MC :=
  (.seq (.ops [⟨(some 1), .box (.t 0), none⟩, ⟨(some 2), .mv (.c (.bool false)), none⟩])
  (.seq (.seq (.ops [⟨(some 4), .loadN 3 (.t 1), none⟩, ⟨(some 5), .call 38 [(.t 4)], none⟩, ⟨(some 6), .not (.t 5), none⟩])
  (.cond (.t 6) (.seq (.ops [⟨(some 2), .mv (.c (.bool false)), none⟩])
  .ret) .skip))
  (.seq (.ops [⟨(some 7), .fadd 2 (.t 1), none⟩, ⟨(some 8), .load1 (.t 7), none⟩, ⟨(some 9), .call 39 [(.t 8), (.c (.string ⟨#[67]⟩))], none⟩, ⟨(some 3), .mv (.t 9), none⟩])
  (.seq (.dops [⟨⟨(some 10), .mv (.t 3), none⟩, 0, false, false⟩, ⟨⟨(some 11), .bin .geq (.t 10) (.c (.int .i64 0)), none⟩, 1, false, false⟩, ⟨⟨(some 12), .mv (.t 11), none⟩, 2, false, false⟩, ⟨⟨(some 13), .loadN 3 (.t 1), (some (12, true))⟩, 3, false, false⟩, ⟨⟨(some 14), .mv (.t 3), (some (12, true))⟩, 4, false, false⟩, ⟨⟨(some 16), .fadd 2 (.t 1), (some (12, true))⟩, 6, false, false⟩, ⟨⟨(some 17), .load1 (.t 16), (some (12, true))⟩, 7, false, false⟩, ⟨⟨(some 18), .len true (.t 17), (some (12, true))⟩, 8, false, false⟩, ⟨⟨(some 19), .fadd 2 (.t 1), (some (12, true))⟩, 9, false, false⟩, ⟨⟨(some 20), .load1 (.t 19), (some (12, true))⟩, 10, false, false⟩, ⟨⟨(some 15), .call 40 [(.t 13), (.t 14)], (some (12, true))⟩, 5, true, true⟩, ⟨⟨(some 21), .call 41 [(.t 20), (.c (.string ⟨#[35]⟩))], (some (12, true))⟩, 11, true, true⟩, ⟨⟨(some 22), .bin .sub (.t 18) (.t 21), (some (12, true))⟩, 12, false, false⟩, ⟨⟨(some 23), .bin .eql (.t 15) (.t 22), (some (12, true))⟩, 13, false, false⟩, ⟨⟨(some 24), .pick (.t 12) (.t 23) (.c (.bool false)), none⟩, 14, false, false⟩, ⟨⟨(some 2), .mv (.t 24), none⟩, 15, false, false⟩])
  .ret))))
def r16 : List RV := [.t 2]
theorem fn16 : cFn Tryd.prog 16 = some (c16, r16, 25) := by kernel_rfl

/-- dynamo/dynamoref14.Right -/
def c17 : MC :=
  (.seq (.ops [⟨(some 1), .box (.t 0), none⟩, ⟨(some 2), .mv (.c (.bool false)), none⟩])
  (.seq (.seq (.ops [⟨(some 11), .fadd 0 (.t 1), none⟩, ⟨(some 12), .load1 (.t 11), none⟩, ⟨(some 13), .bin .lss (.t 12) (.c (.int .i64 1)), none⟩, ⟨(some 14), .mv (.t 13), none⟩, ⟨(some 15), .fadd 0 (.t 1), (some (14, false))⟩, ⟨(some 16), .load1 (.t 15), (some (14, false))⟩, ⟨(some 17), .bin .gtr (.t 16) (.c (.int .i64 8)), (some (14, false))⟩, ⟨(some 18), .pick (.t 14) (.c (.bool true)) (.t 17), none⟩, ⟨(some 19), .mv (.t 18), none⟩, ⟨(some 20), .fadd 1 (.t 1), (some (19, false))⟩, ⟨(some 21), .load1 (.t 20), (some (19, false))⟩, ⟨(some 22), .bin .lss (.t 21) (.c (.int .i64 1)), (some (19, false))⟩, ⟨(some 23), .pick (.t 19) (.c (.bool true)) (.t 22), none⟩, ⟨(some 24), .mv (.t 23), none⟩, ⟨(some 25), .fadd 1 (.t 1), (some (24, false))⟩, ⟨(some 26), .load1 (.t 25), (some (24, false))⟩, ⟨(some 27), .bin .gtr (.t 26) (.c (.int .i64 8)), (some (24, false))⟩, ⟨(some 28), .pick (.t 24) (.c (.bool true)) (.t 27), none⟩, ⟨(some 29), .mv (.t 28), none⟩, ⟨(some 30), .fadd 2 (.t 1), (some (29, false))⟩, ⟨(some 31), .load1 (.t 30), (some (29, false))⟩, ⟨(some 32), .len true (.t 31), (some (29, false))⟩, ⟨(some 33), .fadd 0 (.t 1), (some (29, false))⟩, ⟨(some 34), .load1 (.t 33), (some (29, false))⟩, ⟨(some 35), .fadd 1 (.t 1), (some (29, false))⟩, ⟨(some 36), .load1 (.t 35), (some (29, false))⟩, ⟨(some 37), .bin .mul (.t 34) (.t 36), (some (29, false))⟩, ⟨(some 38), .bin .neq (.t 32) (.t 37), (some (29, false))⟩, ⟨(some 39), .pick (.t 29) (.c (.bool true)) (.t 38), none⟩])
  (.cond (.t 39) (.seq (.ops [⟨(some 2), .mv (.c (.bool false)), none⟩])
  .ret) .skip))
  (.seq (.ops [⟨(some 40), .fadd 2 (.t 1), none⟩, ⟨(some 41), .load1 (.t 40), none⟩, ⟨(some 42), .len true (.t 41), none⟩, ⟨(some 43), .mks 1 1 [(.bool false)] (.t 42) (.t 42), none⟩, ⟨(some 3), .mv (.t 43), none⟩])
  (.seq (.ops [⟨(some 4), .mv (.c (.bool false)), none⟩])
  (.seq (.seq (.ops [⟨(some 5), .mv (.c (.int .i64 0)), none⟩])
  (.block 0 (.loop (.seq (.seq (.ops [⟨(some 44), .mv (.t 5), none⟩, ⟨(some 45), .fadd 2 (.t 1), none⟩, ⟨(some 46), .load1 (.t 45), none⟩, ⟨(some 47), .len true (.t 46), none⟩, ⟨(some 48), .bin .lss (.t 44) (.t 47), none⟩])
  (.cond (.t 48) .skip (.exit 0)))
  (.seq (.block 1 (.seq (.ops [⟨(some 51), .fadd 2 (.t 1), none⟩, ⟨(some 52), .load1 (.t 51), none⟩, ⟨(some 53), .mv (.t 5), none⟩, ⟨(some 54), .idxS (.t 52) (.t 53), none⟩, ⟨(some 6), .mv (.t 54), none⟩])
  (.seq (.seq (.ops [⟨(some 55), .mv (.t 6), none⟩, ⟨(some 56), .bin .neq (.t 55) (.c (.int .u8 35)), none⟩, ⟨(some 57), .mv (.t 56), none⟩, ⟨(some 58), .mv (.t 6), (some (57, true))⟩, ⟨(some 59), .bin .neq (.t 58) (.c (.int .u8 46)), (some (57, true))⟩, ⟨(some 60), .pick (.t 57) (.t 59) (.c (.bool false)), none⟩, ⟨(some 61), .mv (.t 60), none⟩, ⟨(some 62), .mv (.t 6), (some (61, true))⟩, ⟨(some 63), .bin .neq (.t 62) (.c (.int .u8 67)), (some (61, true))⟩, ⟨(some 64), .pick (.t 61) (.t 63) (.c (.bool false)), none⟩, ⟨(some 65), .mv (.t 64), none⟩, ⟨(some 66), .mv (.t 6), (some (65, true))⟩, ⟨(some 67), .bin .neq (.t 66) (.c (.int .u8 80)), (some (65, true))⟩, ⟨(some 68), .pick (.t 65) (.t 67) (.c (.bool false)), none⟩])
  (.cond (.t 68) (.seq (.ops [⟨(some 2), .mv (.c (.bool false)), none⟩])
  .ret) .skip))
  (.seq (.ops [⟨(some 69), .mv (.t 6), none⟩, ⟨(some 70), .bin .eql (.t 69) (.c (.int .u8 67)), none⟩, ⟨(some 71), .mv (.t 70), none⟩, ⟨(some 72), .mv (.t 4), (some (71, true))⟩, ⟨(some 73), .not (.t 72), (some (71, true))⟩, ⟨(some 74), .pick (.t 71) (.t 73) (.c (.bool false)), none⟩])
  (.cond (.t 74) (.seq (.ops [⟨(some 75), .mv (.t 3), none⟩, ⟨(some 76), .mv (.t 5), none⟩, ⟨(some 77), .iaS 1 (.t 75) (.t 76), none⟩, ⟨none, .store 1 (.t 77) (.c (.bool true)), none⟩])
  (.ops [⟨(some 4), .mv (.c (.bool true)), none⟩])) .skip)))))
  (.ops [⟨(some 49), .mv (.t 5), none⟩, ⟨(some 50), .bin .add (.t 49) (.c (.int .i64 1)), none⟩, ⟨(some 5), .mv (.t 50), none⟩]))))))
  (.seq (.seq (.ops [⟨(some 7), .mv (.c (.int .i64 0)), none⟩])
  (.block 2 (.loop (.seq (.seq (.ops [⟨(some 78), .mv (.t 7), none⟩, ⟨(some 79), .mv (.t 3), none⟩, ⟨(some 80), .len false (.t 79), none⟩, ⟨(some 81), .bin .lss (.t 78) (.t 80), none⟩])
  (.cond (.t 81) .skip (.exit 2)))
  (.seq (.block 3 (.seq (.ops [⟨(some 8), .mv (.c (.int .i64 0)), none⟩])
  (.block 4 (.loop (.seq (.seq (.ops [⟨(some 84), .mv (.t 8), none⟩, ⟨(some 85), .mv (.t 3), none⟩, ⟨(some 86), .len false (.t 85), none⟩, ⟨(some 87), .bin .lss (.t 84) (.t 86), none⟩])
  (.cond (.t 87) .skip (.exit 4)))
  (.seq (.block 5 (.seq (.ops [⟨(some 9), .mv (.c (.int .i64 0)), none⟩])
  (.block 6 (.loop (.seq (.seq (.ops [⟨(some 90), .mv (.t 9), none⟩, ⟨(some 91), .mv (.t 3), none⟩, ⟨(some 92), .len false (.t 91), none⟩, ⟨(some 93), .bin .lss (.t 90) (.t 92), none⟩, ⟨(some 94), .mv (.t 93), none⟩, ⟨(some 95), .fadd 2 (.t 1), (some (94, true))⟩, ⟨(some 96), .load1 (.t 95), (some (94, true))⟩, ⟨(some 97), .mv (.t 8), (some (94, true))⟩, ⟨(some 98), .idxS (.t 96) (.t 97), (some (94, true))⟩, ⟨(some 99), .bin .neq (.t 98) (.c (.int .u8 35)), (some (94, true))⟩, ⟨(some 100), .pick (.t 94) (.t 99) (.c (.bool false)), none⟩])
  (.cond (.t 100) .skip (.exit 6)))
  (.seq (.block 7 (.seq (.ops [⟨(some 103), .mv (.t 3), none⟩, ⟨(some 104), .mv (.t 9), none⟩, ⟨(some 105), .iaS 1 (.t 103) (.t 104), none⟩, ⟨(some 106), .load1 (.t 105), none⟩, ⟨(some 107), .mv (.t 106), none⟩, ⟨(some 108), .fadd 0 (.t 1), (some (107, true))⟩, ⟨(some 109), .load1 (.t 108), (some (107, true))⟩, ⟨(some 110), .mv (.t 8), (some (107, true))⟩, ⟨(some 111), .mv (.t 9), (some (107, true))⟩, ⟨(some 112), .call 42 [(.t 109), (.t 110), (.t 111)], (some (107, true))⟩, ⟨(some 113), .pick (.t 107) (.t 112) (.c (.bool false)), none⟩])
  (.cond (.t 113) (.ops [⟨(some 114), .mv (.t 3), none⟩, ⟨(some 115), .mv (.t 8), none⟩, ⟨(some 116), .iaS 1 (.t 114) (.t 115), none⟩, ⟨none, .store 1 (.t 116) (.c (.bool true)), none⟩]) .skip)))
  (.ops [⟨(some 101), .mv (.t 9), none⟩, ⟨(some 102), .bin .add (.t 101) (.c (.int .i64 1)), none⟩, ⟨(some 9), .mv (.t 102), none⟩])))))))
  (.ops [⟨(some 88), .mv (.t 8), none⟩, ⟨(some 89), .bin .add (.t 88) (.c (.int .i64 1)), none⟩, ⟨(some 8), .mv (.t 89), none⟩])))))))
  (.ops [⟨(some 82), .mv (.t 7), none⟩, ⟨(some 83), .bin .add (.t 82) (.c (.int .i64 1)), none⟩, ⟨(some 7), .mv (.t 83), none⟩]))))))
  (.seq (.seq (.ops [⟨(some 10), .mv (.c (.int .i64 0)), none⟩])
  (.block 8 (.loop (.seq (.seq (.ops [⟨(some 117), .mv (.t 10), none⟩, ⟨(some 118), .mv (.t 3), none⟩, ⟨(some 119), .len false (.t 118), none⟩, ⟨(some 120), .bin .lss (.t 117) (.t 119), none⟩])
  (.cond (.t 120) .skip (.exit 8)))
  (.seq (.block 9 (.seq (.ops [⟨(some 123), .mv (.t 3), none⟩, ⟨(some 124), .mv (.t 10), none⟩, ⟨(some 125), .iaS 1 (.t 123) (.t 124), none⟩, ⟨(some 126), .load1 (.t 125), none⟩, ⟨(some 127), .not (.t 126), none⟩, ⟨(some 128), .mv (.t 127), none⟩, ⟨(some 129), .fadd 2 (.t 1), (some (128, true))⟩, ⟨(some 130), .load1 (.t 129), (some (128, true))⟩, ⟨(some 131), .mv (.t 10), (some (128, true))⟩, ⟨(some 132), .idxS (.t 130) (.t 131), (some (128, true))⟩, ⟨(some 133), .bin .neq (.t 132) (.c (.int .u8 35)), (some (128, true))⟩, ⟨(some 134), .pick (.t 128) (.t 133) (.c (.bool false)), none⟩])
  (.cond (.t 134) (.seq (.ops [⟨(some 2), .mv (.c (.bool false)), none⟩])
  .ret) .skip)))
  (.ops [⟨(some 121), .mv (.t 10), none⟩, ⟨(some 122), .bin .add (.t 121) (.c (.int .i64 1)), none⟩, ⟨(some 10), .mv (.t 122), none⟩]))))))
  (.seq (.ops [⟨(some 135), .mv (.t 4), none⟩, ⟨(some 2), .mv (.t 135), none⟩])
  .ret))))))))
def r17 : List RV := [.t 2]
theorem fn17 : cFn Tryd.prog 17 = some (c17, r17, 136) := by kernel_rfl

/-- dynamo/dynamoref14.Lay -/
def c18 : MC :=
  (.seq (.ops [⟨(some 1), .box (.t 0), none⟩, ⟨(some 2), .mv (.c (.string ⟨#[]⟩)), none⟩])
  (.seq (.ops [⟨(some 3), .mv (.c (.string ⟨#[]⟩)), none⟩])
  (.seq (.seq (.ops [⟨(some 4), .mv (.c (.int .i64 0)), none⟩])
  (.block 0 (.loop (.seq (.seq (.ops [⟨(some 5), .mv (.t 4), none⟩, ⟨(some 6), .fadd 1 (.t 1), none⟩, ⟨(some 7), .load1 (.t 6), none⟩, ⟨(some 8), .bin .lss (.t 5) (.t 7), none⟩])
  (.cond (.t 8) .skip (.exit 0)))
  (.seq (.block 1 (.ops [⟨(some 11), .mv (.t 3), none⟩, ⟨(some 12), .fadd 2 (.t 1), none⟩, ⟨(some 13), .load1 (.t 12), none⟩, ⟨(some 14), .mv (.t 4), none⟩, ⟨(some 15), .fadd 0 (.t 1), none⟩, ⟨(some 16), .load1 (.t 15), none⟩, ⟨(some 17), .bin .mul (.t 14) (.t 16), none⟩, ⟨(some 18), .mv (.t 4), none⟩, ⟨(some 19), .bin .add (.t 18) (.c (.int .i64 1)), none⟩, ⟨(some 20), .fadd 0 (.t 1), none⟩, ⟨(some 21), .load1 (.t 20), none⟩, ⟨(some 22), .bin .mul (.t 19) (.t 21), none⟩, ⟨(some 23), .slcS (.t 13) (some (.t 17)) (some (.t 22)), none⟩, ⟨(some 24), .bin .add (.t 11) (.t 23), none⟩, ⟨(some 25), .bin .add (.t 24) (.c (.string ⟨#[10]⟩)), none⟩, ⟨(some 3), .mv (.t 25), none⟩]))
  (.ops [⟨(some 9), .mv (.t 4), none⟩, ⟨(some 10), .bin .add (.t 9) (.c (.int .i64 1)), none⟩, ⟨(some 4), .mv (.t 10), none⟩]))))))
  (.seq (.ops [⟨(some 26), .mv (.t 3), none⟩, ⟨(some 2), .mv (.t 26), none⟩])
  .ret))))
def r18 : List RV := [.t 2]
theorem fn18 : cFn Tryd.prog 18 = some (c18, r18, 27) := by kernel_rfl

/-- dynamo/dynamoref14.Read -/
def c19 : MC :=
  (.seq (.ops [⟨(some 2), .alloc [(.int .i64 0), (.int .i64 0), (.string ⟨#[]⟩)], none⟩, ⟨(some 3), .mv (.c (.bool false)), none⟩])
  (.seq (.ops [⟨(some 4), .alloc [(.int .i64 0), (.int .i64 0), (.string ⟨#[]⟩)], none⟩])
  (.seq (.ops [⟨(some 5), .mv (.c (.int .i64 0)), none⟩])
  (.seq (.seq (.ops [⟨(some 6), .mv (.c (.int .i64 0)), none⟩])
  (.block 0 (.loop (.seq (.seq (.ops [⟨(some 7), .mv (.t 6), none⟩, ⟨(some 8), .mv (.t 0), none⟩, ⟨(some 9), .len true (.t 8), none⟩, ⟨(some 10), .bin .lss (.t 7) (.t 9), none⟩])
  (.cond (.t 10) .skip (.exit 0)))
  (.seq (.block 1 (.seq (.seq (.ops [⟨(some 13), .mv (.t 0), none⟩, ⟨(some 14), .mv (.t 6), none⟩, ⟨(some 15), .idxS (.t 13) (.t 14), none⟩, ⟨(some 16), .bin .neq (.t 15) (.c (.int .u8 10)), none⟩])
  (.cond (.t 16) (.exit 1) .skip))
  (.seq (.seq (.ops [⟨(some 17), .fadd 1 (.t 4), none⟩, ⟨(some 18), .load1 (.t 17), none⟩, ⟨(some 19), .bin .gtr (.t 18) (.c (.int .i64 0)), none⟩, ⟨(some 20), .mv (.t 19), none⟩, ⟨(some 21), .mv (.t 6), (some (20, true))⟩, ⟨(some 22), .mv (.t 5), (some (20, true))⟩, ⟨(some 23), .bin .sub (.t 21) (.t 22), (some (20, true))⟩, ⟨(some 24), .fadd 0 (.t 4), (some (20, true))⟩, ⟨(some 25), .load1 (.t 24), (some (20, true))⟩, ⟨(some 26), .bin .neq (.t 23) (.t 25), (some (20, true))⟩, ⟨(some 27), .pick (.t 20) (.t 26) (.c (.bool false)), none⟩])
  (.cond (.t 27) (.seq (.ops [⟨(some 28), .bld [(.int .i64 0), (.int .i64 0), (.string ⟨#[]⟩)] [], none⟩, ⟨none, .store 3 (.t 2) (.t 28), none⟩, ⟨(some 3), .mv (.c (.bool false)), none⟩])
  .ret) .skip))
  (.seq (.ops [⟨(some 29), .mv (.t 6), none⟩, ⟨(some 30), .mv (.t 5), none⟩, ⟨(some 31), .bin .sub (.t 29) (.t 30), none⟩, ⟨(some 32), .fadd 0 (.t 4), none⟩, ⟨none, .store 1 (.t 32) (.t 31), none⟩])
  (.seq (.ops [⟨(some 33), .fadd 1 (.t 4), none⟩, ⟨(some 34), .load1 (.t 33), none⟩, ⟨(some 35), .bin .add (.t 34) (.c (.int .i64 1)), none⟩, ⟨(some 36), .fadd 1 (.t 4), none⟩, ⟨none, .store 1 (.t 36) (.t 35), none⟩])
  (.seq (.dops [⟨⟨(some 37), .fadd 2 (.t 4), none⟩, 0, false, false⟩, ⟨⟨(some 38), .load1 (.t 37), none⟩, 1, false, false⟩, ⟨⟨(some 39), .mv (.t 0), none⟩, 2, false, false⟩, ⟨⟨(some 40), .mv (.t 5), none⟩, 3, false, false⟩, ⟨⟨(some 41), .mv (.t 6), none⟩, 4, false, false⟩, ⟨⟨(some 42), .slcS (.t 39) (some (.t 40)) (some (.t 41)), none⟩, 5, false, false⟩, ⟨⟨(some 43), .bin .add (.t 38) (.t 42), none⟩, 6, false, false⟩, ⟨⟨(some 44), .fadd 2 (.t 4), none⟩, 7, false, false⟩, ⟨⟨none, .store 1 (.t 44) (.t 43), none⟩, 8, true, false⟩])
  (.ops [⟨(some 45), .mv (.t 6), none⟩, ⟨(some 46), .bin .add (.t 45) (.c (.int .i64 1)), none⟩, ⟨(some 5), .mv (.t 46), none⟩])))))))
  (.ops [⟨(some 11), .mv (.t 6), none⟩, ⟨(some 12), .bin .add (.t 11) (.c (.int .i64 1)), none⟩, ⟨(some 6), .mv (.t 12), none⟩]))))))
  (.seq (.seq (.ops [⟨(some 47), .mv (.t 5), none⟩, ⟨(some 48), .mv (.t 0), none⟩, ⟨(some 49), .len true (.t 48), none⟩, ⟨(some 50), .bin .neq (.t 47) (.t 49), none⟩, ⟨(some 51), .mv (.t 50), none⟩, ⟨(some 52), .loadN 3 (.t 4), (some (51, false))⟩, ⟨(some 53), .call 17 [(.t 52)], (some (51, false))⟩, ⟨(some 54), .not (.t 53), (some (51, false))⟩, ⟨(some 55), .pick (.t 51) (.c (.bool true)) (.t 54), none⟩])
  (.cond (.t 55) (.seq (.ops [⟨(some 56), .bld [(.int .i64 0), (.int .i64 0), (.string ⟨#[]⟩)] [], none⟩, ⟨none, .store 3 (.t 2) (.t 56), none⟩, ⟨(some 3), .mv (.c (.bool false)), none⟩])
  .ret) .skip))
  (.seq (.ops [⟨(some 57), .loadN 3 (.t 4), none⟩, ⟨none, .store 3 (.t 2) (.t 57), none⟩, ⟨(some 3), .mv (.c (.bool true)), none⟩])
  .ret))))))
def r19 : List RV := [.cell 2 3 true, .t 3]
theorem fn19 : cFn Tryd.prog 19 = some (c19, r19, 58) := by kernel_rfl

/-- dynamo/dynamolaw25.awake -/
def c20 : MC :=
  (.seq (.ops [⟨(some 0), .mv (.c (.bool false)), none⟩])
  (.seq (.ops [⟨(some 4), .call 24 [(.c (.string ⟨#[116, 101, 108, 108, 32, 49, 32, 53, 48, 10]⟩))], none⟩, ⟨(some 3), .mv (.t 4), none⟩, ⟨(some 5), .ext (.t 3) 0, none⟩, ⟨(some 6), .ext (.t 3) 1, none⟩, ⟨(some 1), .alloc [(.string ⟨#[]⟩), (.int .i64 0), (.int .i64 0), (.int .i64 0)], none⟩, ⟨none, .store 4 (.t 1) (.t 5), none⟩, ⟨(some 2), .mv (.t 6), none⟩])
  (.seq (.ops [⟨(some 7), .mv (.t 2), none⟩, ⟨(some 8), .call 14 [(.t 7)], none⟩, ⟨(some 9), .bin .eql (.t 8) (.c (.int .i64 0)), none⟩, ⟨(some 10), .mv (.t 9), none⟩, ⟨(some 11), .loadN 4 (.t 1), (some (10, true))⟩, ⟨(some 12), .bld [(.string ⟨#[]⟩), (.int .i64 0), (.int .i64 0), (.int .i64 0)] [(0, 1, (.c (.string ⟨#[116, 101, 108, 108]⟩))), (1, 1, (.c (.int .i64 1))), (2, 1, (.c (.int .i64 50)))], (some (10, true))⟩, ⟨(some 13), .eqA false [.str, .int, .int, .int] (.t 11) (.t 12), (some (10, true))⟩, ⟨(some 14), .pick (.t 10) (.t 13) (.c (.bool false)), none⟩, ⟨(some 0), .mv (.t 14), none⟩])
  .ret)))
def r20 : List RV := [.t 0]
theorem fn20 : cFn Tryd.prog 20 = some (c20, r20, 15) := by kernel_rfl

/-- dynamo/text.Lay -/
def c21 : MC :=
  (.seq (.ops [⟨(some 1), .box (.t 0), none⟩, ⟨(some 2), .mv (.c (.string ⟨#[]⟩)), none⟩, ⟨(some 3), .mv (.c .nilIface), none⟩])
  (.seq (.ops [⟨(some 9), .fadd 0 (.t 1), none⟩, ⟨(some 10), .load1 (.t 9), none⟩, ⟨(some 4), .mv (.t 10), none⟩])
  (.seq (.dops [⟨⟨(some 12), .fadd 0 (.t 1), none⟩, 1, false, false⟩, ⟨⟨(some 13), .load1 (.t 12), none⟩, 2, false, false⟩, ⟨⟨(some 11), .call 43 [], none⟩, 0, true, true⟩, ⟨⟨(some 14), .mlook .str false (.string ⟨#[]⟩) (.t 11) (.t 13), none⟩, 3, false, false⟩, ⟨⟨(some 5), .mv (.t 14), none⟩, 4, false, false⟩])
  (.seq (.seq (.ops [⟨(some 15), .mv (.t 5), none⟩, ⟨(some 16), .len true (.t 15), none⟩, ⟨(some 17), .mv (.c (.int .i64 0)), none⟩])
  (.block 0 (.loop (.seq (.ops [⟨(some 18), .bin .lss (.t 17) (.t 16), none⟩])
  (.seq (.cond (.t 18) .skip (.exit 0))
  (.seq (.block 1 (.seq (.ops [⟨(some 19), .mv (.t 17), none⟩, ⟨(some 6), .mv (.t 19), none⟩])
  (.ops [⟨(some 20), .mv (.t 4), none⟩, ⟨(some 21), .mv (.t 5), none⟩, ⟨(some 22), .mv (.t 6), none⟩, ⟨(some 23), .idxS (.t 21) (.t 22), none⟩, ⟨(some 24), .call 45 [(.t 1), (.t 23)], none⟩, ⟨(some 25), .nilck (.t 24), none⟩, ⟨(some 26), .load1 (.t 25), none⟩, ⟨(some 27), .call 44 [(.t 26)], none⟩, ⟨(some 28), .bin .add (.c (.string ⟨#[32]⟩)) (.t 27), none⟩, ⟨(some 29), .bin .add (.t 20) (.t 28), none⟩, ⟨(some 4), .mv (.t 29), none⟩])))
  (.ops [⟨(some 30), .bin .add (.t 17) (.c (.int .i64 1)), none⟩, ⟨(some 17), .mv (.t 30), none⟩])))))))
  (.seq (.ops [⟨(some 31), .mv (.t 4), none⟩, ⟨(some 32), .bin .add (.t 31) (.c (.string ⟨#[10]⟩)), none⟩, ⟨(some 4), .mv (.t 32), none⟩])
  (.seq (.seq (.ops [⟨(some 34), .mv (.t 4), none⟩, ⟨(some 35), .call 24 [(.t 34)], none⟩, ⟨(some 33), .mv (.t 35), none⟩, ⟨(some 36), .ext (.t 33) 0, none⟩, ⟨(some 37), .ext (.t 33) 1, none⟩, ⟨(some 7), .alloc [(.string ⟨#[]⟩), (.int .i64 0), (.int .i64 0), (.int .i64 0)], none⟩, ⟨none, .store 4 (.t 7) (.t 36), none⟩, ⟨(some 8), .mv (.t 37), none⟩])
  (.seq (.ops [⟨(some 38), .mv (.t 8), none⟩, ⟨(some 39), .eqN .iface true (.t 38) (.c .nilIface), none⟩, ⟨(some 40), .mv (.t 39), none⟩, ⟨(some 41), .loadN 4 (.t 7), (some (40, false))⟩, ⟨(some 42), .loadN 4 (.t 1), (some (40, false))⟩, ⟨(some 43), .eqA true [.str, .int, .int, .int] (.t 41) (.t 42), (some (40, false))⟩, ⟨(some 44), .pick (.t 40) (.c (.bool true)) (.t 43), none⟩])
  (.cond (.t 44) (.seq (.ops [⟨(some 45), .mki 66 (.c (.int .i64 1)), none⟩, ⟨(some 46), .call 31 [(.c (.string ⟨#[116, 101, 120, 116]⟩)), (.t 45)], none⟩, ⟨(some 2), .mv (.c (.string ⟨#[]⟩)), none⟩, ⟨(some 3), .mv (.t 46), none⟩])
  .ret) .skip)))
  (.seq (.ops [⟨(some 47), .mv (.t 4), none⟩, ⟨(some 2), .mv (.t 47), none⟩, ⟨(some 3), .mv (.c .nilIface), none⟩])
  .ret)))))))
def r21 : List RV := [.t 2, .t 3]
theorem fn21 : cFn Tryd.prog 21 = some (c21, r21, 48) := by kernel_rfl

/-- dynamo/dynamolaw23.Of -/
def c22 : MC :=
  (.seq (.ops [⟨(some 1), .box (.t 0), none⟩, ⟨(some 2), .alloc [(.string ⟨#[]⟩), (.int .i64 0), (.int .i64 0), (.int .i64 0)], none⟩])
  (.seq (.ops [⟨(some 3), .fadd 0 (.t 1), none⟩, ⟨(some 4), .load1 (.t 3), none⟩, ⟨(some 5), .fadd 1 (.t 1), none⟩, ⟨(some 6), .load1 (.t 5), none⟩, ⟨(some 7), .fadd 2 (.t 1), none⟩, ⟨(some 8), .load1 (.t 7), none⟩, ⟨(some 9), .fadd 3 (.t 1), none⟩, ⟨(some 10), .load1 (.t 9), none⟩, ⟨(some 11), .bld [(.string ⟨#[]⟩), (.int .i64 0), (.int .i64 0), (.int .i64 0)] [(0, 1, (.t 4)), (1, 1, (.t 6)), (2, 1, (.t 8)), (3, 1, (.t 10))], none⟩, ⟨none, .store 4 (.t 2) (.t 11), none⟩])
  .ret))
def r22 : List RV := [.cell 2 4 true]
theorem fn22 : cFn Tryd.prog 22 = some (c22, r22, 12) := by kernel_rfl

/-- dynamo/dynamoref25.Right -/
def c23 : MC :=
  (.seq (.ops [⟨(some 1), .box (.t 0), none⟩, ⟨(some 2), .mv (.c (.bool false)), none⟩])
  (.seq (.seq (.ops [⟨(some 8), .fadd 0 (.t 1), none⟩, ⟨(some 9), .load1 (.t 8), none⟩, ⟨(some 10), .call 46 [(.t 9)], none⟩, ⟨(some 11), .bin .eql (.t 10) (.c (.int .i64 0)), none⟩])
  (.cond (.t 11) (.seq (.ops [⟨(some 2), .mv (.c (.bool false)), none⟩])
  .ret) .skip))
  (.seq (.ops [⟨(some 12), .fadd 0 (.t 1), none⟩, ⟨(some 13), .load1 (.t 12), none⟩, ⟨(some 14), .call 47 [(.t 13)], none⟩, ⟨(some 3), .mv (.t 14), none⟩])
  (.seq (.ops [⟨(some 15), .fadd 1 (.t 1), none⟩, ⟨(some 16), .load1 (.t 15), none⟩, ⟨(some 17), .fadd 2 (.t 1), none⟩, ⟨(some 18), .load1 (.t 17), none⟩, ⟨(some 19), .fadd 3 (.t 1), none⟩, ⟨(some 20), .load1 (.t 19), none⟩, ⟨(some 21), .bld [(.int .i64 0), (.int .i64 0), (.int .i64 0)] [(0, 1, (.t 16)), (1, 1, (.t 18)), (2, 1, (.t 20))], none⟩, ⟨(some 4), .alloc [(.int .i64 0), (.int .i64 0), (.int .i64 0)], none⟩, ⟨none, .store 3 (.t 4) (.t 21), none⟩])
  (.seq (.seq (.ops [⟨(some 5), .mv (.c (.int .i64 0)), none⟩])
  (.block 0 (.loop (.seq (.seq (.ops [⟨(some 22), .mv (.t 5), none⟩, ⟨(some 23), .bin .lss (.t 22) (.c (.int .i64 3)), none⟩])
  (.cond (.t 23) .skip (.exit 0)))
  (.seq (.block 1 (.seq (.ops [⟨(some 6), .mv (.c (.bool false)), none⟩])
  (.seq (.seq (.ops [⟨(some 7), .mv (.c (.int .i64 0)), none⟩])
  (.block 2 (.loop (.seq (.seq (.ops [⟨(some 26), .mv (.t 7), none⟩, ⟨(some 27), .mv (.t 3), none⟩, ⟨(some 28), .len true (.t 27), none⟩, ⟨(some 29), .bin .lss (.t 26) (.t 28), none⟩])
  (.cond (.t 29) .skip (.exit 2)))
  (.seq (.block 3 (.ops [⟨(some 32), .mv (.t 6), none⟩, ⟨(some 33), .mv (.t 32), none⟩, ⟨(some 34), .mv (.t 3), (some (33, false))⟩, ⟨(some 35), .mv (.t 7), (some (33, false))⟩, ⟨(some 36), .idxS (.t 34) (.t 35), (some (33, false))⟩, ⟨(some 37), .conv .i64 (.t 36), (some (33, false))⟩, ⟨(some 38), .mv (.t 5), (some (33, false))⟩, ⟨(some 39), .bin .add (.c (.int .i64 97)) (.t 38), (some (33, false))⟩, ⟨(some 40), .bin .eql (.t 37) (.t 39), (some (33, false))⟩, ⟨(some 41), .pick (.t 33) (.c (.bool true)) (.t 40), none⟩, ⟨(some 6), .mv (.t 41), none⟩]))
  (.ops [⟨(some 30), .mv (.t 7), none⟩, ⟨(some 31), .bin .add (.t 30) (.c (.int .i64 1)), none⟩, ⟨(some 7), .mv (.t 31), none⟩]))))))
  (.seq (.ops [⟨(some 42), .mv (.t 6), none⟩, ⟨(some 43), .not (.t 42), none⟩, ⟨(some 44), .mv (.t 43), none⟩, ⟨(some 45), .mv (.t 5), (some (44, true))⟩, ⟨(some 46), .iaA 3 1 (.t 4) (.t 45), (some (44, true))⟩, ⟨(some 47), .load1 (.t 46), (some (44, true))⟩, ⟨(some 48), .bin .neq (.t 47) (.c (.int .i64 0)), (some (44, true))⟩, ⟨(some 49), .pick (.t 44) (.t 48) (.c (.bool false)), none⟩, ⟨(some 50), .mv (.t 49), none⟩, ⟨(some 51), .mv (.t 5), (some (50, false))⟩, ⟨(some 52), .iaA 3 1 (.t 4) (.t 51), (some (50, false))⟩, ⟨(some 53), .load1 (.t 52), (some (50, false))⟩, ⟨(some 54), .bin .lss (.t 53) (.c (.int .i64 0)), (some (50, false))⟩, ⟨(some 55), .pick (.t 50) (.c (.bool true)) (.t 54), none⟩, ⟨(some 56), .mv (.t 55), none⟩, ⟨(some 57), .mv (.t 5), (some (56, false))⟩, ⟨(some 58), .iaA 3 1 (.t 4) (.t 57), (some (56, false))⟩, ⟨(some 59), .load1 (.t 58), (some (56, false))⟩, ⟨(some 60), .bin .gtr (.t 59) (.c (.int .i64 999)), (some (56, false))⟩, ⟨(some 61), .pick (.t 56) (.c (.bool true)) (.t 60), none⟩])
  (.cond (.t 61) (.seq (.ops [⟨(some 2), .mv (.c (.bool false)), none⟩])
  .ret) .skip)))))
  (.ops [⟨(some 24), .mv (.t 5), none⟩, ⟨(some 25), .bin .add (.t 24) (.c (.int .i64 1)), none⟩, ⟨(some 5), .mv (.t 25), none⟩]))))))
  (.seq (.ops [⟨(some 2), .mv (.c (.bool true)), none⟩])
  .ret))))))
def r23 : List RV := [.t 2]
theorem fn23 : cFn Tryd.prog 23 = some (c23, r23, 62) := by kernel_rfl

/-- dynamo/text.Read -/
def c24 : MC :=
  (.seq (.ops [⟨(some 2), .alloc [(.string ⟨#[]⟩), (.int .i64 0), (.int .i64 0), (.int .i64 0)], none⟩, ⟨(some 3), .mv (.c .nilIface), none⟩])
  (.seq (.ops [⟨(some 14), .mv (.t 0), none⟩, ⟨(some 15), .call 37 [(.t 14), (.c (.string ⟨#[10]⟩))], none⟩, ⟨(some 13), .mv (.t 15), none⟩, ⟨(some 16), .ext (.t 13) 0, none⟩, ⟨(some 17), .ext (.t 13) 1, none⟩, ⟨(some 4), .mv (.t 16), none⟩, ⟨(some 5), .mv (.t 17), none⟩])
  (.seq (.ops [⟨(some 18), .mv (.t 4), none⟩, ⟨(some 19), .call 48 [(.t 18), (.c (.string ⟨#[32]⟩))], none⟩, ⟨(some 6), .mv (.t 19), none⟩])
  (.seq (.dops [⟨⟨(some 22), .mv (.t 6), none⟩, 1, false, false⟩, ⟨⟨(some 23), .iaS 1 (.t 22) (.c (.int .i64 0)), none⟩, 2, false, false⟩, ⟨⟨(some 24), .load1 (.t 23), none⟩, 3, false, false⟩, ⟨⟨(some 21), .call 43 [], none⟩, 0, true, true⟩, ⟨⟨(some 25), .mlook .str true (.string ⟨#[]⟩) (.t 21) (.t 24), none⟩, 4, false, false⟩, ⟨⟨(some 20), .mv (.t 25), none⟩, 5, false, false⟩, ⟨⟨(some 26), .ext (.t 20) 0, none⟩, 6, false, false⟩, ⟨⟨(some 27), .ext (.t 20) 1, none⟩, 7, false, false⟩, ⟨⟨(some 7), .mv (.t 26), none⟩, 8, false, false⟩, ⟨⟨(some 8), .mv (.t 27), none⟩, 9, false, false⟩])
  (.seq (.seq (.ops [⟨(some 28), .mv (.t 5), none⟩, ⟨(some 29), .not (.t 28), none⟩, ⟨(some 30), .mv (.t 29), none⟩, ⟨(some 31), .mv (.t 8), (some (30, false))⟩, ⟨(some 32), .not (.t 31), (some (30, false))⟩, ⟨(some 33), .pick (.t 30) (.c (.bool true)) (.t 32), none⟩, ⟨(some 34), .mv (.t 33), none⟩, ⟨(some 35), .mv (.t 6), (some (34, false))⟩, ⟨(some 36), .len false (.t 35), (some (34, false))⟩, ⟨(some 37), .mv (.t 7), (some (34, false))⟩, ⟨(some 38), .len true (.t 37), (some (34, false))⟩, ⟨(some 39), .bin .add (.c (.int .i64 1)) (.t 38), (some (34, false))⟩, ⟨(some 40), .bin .neq (.t 36) (.t 39), (some (34, false))⟩, ⟨(some 41), .pick (.t 34) (.c (.bool true)) (.t 40), none⟩])
  (.cond (.t 41) (.seq (.ops [⟨(some 42), .bld [(.string ⟨#[]⟩), (.int .i64 0), (.int .i64 0), (.int .i64 0)] [], none⟩, ⟨(some 43), .call 49 [], none⟩, ⟨none, .store 4 (.t 2) (.t 42), none⟩, ⟨(some 3), .mv (.t 43), none⟩])
  .ret) .skip))
  (.seq (.ops [⟨(some 44), .mv (.t 6), none⟩, ⟨(some 45), .iaS 1 (.t 44) (.c (.int .i64 0)), none⟩, ⟨(some 46), .load1 (.t 45), none⟩, ⟨(some 47), .bld [(.string ⟨#[]⟩), (.int .i64 0), (.int .i64 0), (.int .i64 0)] [(0, 1, (.t 46))], none⟩, ⟨(some 9), .alloc [(.string ⟨#[]⟩), (.int .i64 0), (.int .i64 0), (.int .i64 0)], none⟩, ⟨none, .store 4 (.t 9) (.t 47), none⟩])
  (.seq (.seq (.ops [⟨(some 48), .mv (.t 7), none⟩, ⟨(some 49), .len true (.t 48), none⟩, ⟨(some 50), .mv (.c (.int .i64 0)), none⟩])
  (.block 0 (.loop (.seq (.ops [⟨(some 51), .bin .lss (.t 50) (.t 49), none⟩])
  (.seq (.cond (.t 51) .skip (.exit 0))
  (.seq (.block 1 (.seq (.ops [⟨(some 52), .mv (.t 50), none⟩, ⟨(some 10), .mv (.t 52), none⟩])
  (.seq (.ops [⟨(some 54), .mv (.t 6), none⟩, ⟨(some 55), .mv (.t 10), none⟩, ⟨(some 56), .bin .add (.c (.int .i64 1)) (.t 55), none⟩, ⟨(some 57), .iaS 1 (.t 54) (.t 56), none⟩, ⟨(some 58), .load1 (.t 57), none⟩, ⟨(some 59), .call 50 [(.t 58)], none⟩, ⟨(some 53), .mv (.t 59), none⟩, ⟨(some 60), .ext (.t 53) 0, none⟩, ⟨(some 61), .ext (.t 53) 1, none⟩, ⟨(some 11), .mv (.t 60), none⟩, ⟨(some 12), .mv (.t 61), none⟩])
  (.seq (.seq (.ops [⟨(some 62), .mv (.t 12), none⟩, ⟨(some 63), .not (.t 62), none⟩])
  (.cond (.t 63) (.seq (.ops [⟨(some 64), .bld [(.string ⟨#[]⟩), (.int .i64 0), (.int .i64 0), (.int .i64 0)] [], none⟩, ⟨(some 65), .call 49 [], none⟩, ⟨none, .store 4 (.t 2) (.t 64), none⟩, ⟨(some 3), .mv (.t 65), none⟩])
  .ret) .skip))
  (.ops [⟨(some 66), .mv (.t 7), none⟩, ⟨(some 67), .mv (.t 10), none⟩, ⟨(some 68), .idxS (.t 66) (.t 67), none⟩, ⟨(some 69), .call 45 [(.t 9), (.t 68)], none⟩, ⟨(some 70), .mv (.t 11), none⟩, ⟨(some 71), .nilck (.t 69), none⟩, ⟨none, .store 1 (.t 71) (.t 70), none⟩])))))
  (.ops [⟨(some 72), .bin .add (.t 50) (.c (.int .i64 1)), none⟩, ⟨(some 50), .mv (.t 72), none⟩])))))))
  (.seq (.ops [⟨(some 73), .loadN 4 (.t 9), none⟩, ⟨none, .store 4 (.t 2) (.t 73), none⟩, ⟨(some 3), .mv (.c .nilIface), none⟩])
  .ret))))))))
def r24 : List RV := [.cell 2 4 true, .t 3]
theorem fn24 : cFn Tryd.prog 24 = some (c24, r24, 74) := by kernel_rfl

/-- dynamo/dynamoref25.Lay -/
def c25 : MC :=
  (.seq (.ops [⟨(some 1), .box (.t 0), none⟩, ⟨(some 2), .mv (.c (.string ⟨#[]⟩)), none⟩])
  (.seq (.ops [⟨(some 7), .fadd 0 (.t 1), none⟩, ⟨(some 8), .load1 (.t 7), none⟩, ⟨(some 3), .mv (.t 8), none⟩])
  (.seq (.ops [⟨(some 9), .fadd 0 (.t 1), none⟩, ⟨(some 10), .load1 (.t 9), none⟩, ⟨(some 11), .call 47 [(.t 10)], none⟩, ⟨(some 4), .mv (.t 11), none⟩])
  (.seq (.ops [⟨(some 12), .fadd 1 (.t 1), none⟩, ⟨(some 13), .load1 (.t 12), none⟩, ⟨(some 14), .fadd 2 (.t 1), none⟩, ⟨(some 15), .load1 (.t 14), none⟩, ⟨(some 16), .fadd 3 (.t 1), none⟩, ⟨(some 17), .load1 (.t 16), none⟩, ⟨(some 18), .bld [(.int .i64 0), (.int .i64 0), (.int .i64 0)] [(0, 1, (.t 13)), (1, 1, (.t 15)), (2, 1, (.t 17))], none⟩, ⟨(some 5), .alloc [(.int .i64 0), (.int .i64 0), (.int .i64 0)], none⟩, ⟨none, .store 3 (.t 5) (.t 18), none⟩])
  (.seq (.seq (.ops [⟨(some 6), .mv (.c (.int .i64 0)), none⟩])
  (.block 0 (.loop (.seq (.seq (.ops [⟨(some 19), .mv (.t 6), none⟩, ⟨(some 20), .mv (.t 4), none⟩, ⟨(some 21), .len true (.t 20), none⟩, ⟨(some 22), .bin .lss (.t 19) (.t 21), none⟩])
  (.cond (.t 22) .skip (.exit 0)))
  (.seq (.block 1 (.ops [⟨(some 25), .mv (.t 3), none⟩, ⟨(some 26), .bin .add (.t 25) (.c (.string ⟨#[32]⟩)), none⟩, ⟨(some 27), .mv (.t 4), none⟩, ⟨(some 28), .mv (.t 6), none⟩, ⟨(some 29), .idxS (.t 27) (.t 28), none⟩, ⟨(some 30), .conv .i64 (.t 29), none⟩, ⟨(some 31), .bin .sub (.t 30) (.c (.int .i64 97)), none⟩, ⟨(some 32), .iaA 3 1 (.t 5) (.t 31), none⟩, ⟨(some 33), .load1 (.t 32), none⟩, ⟨(some 34), .call 26 [(.t 33)], none⟩, ⟨(some 35), .bin .add (.t 26) (.t 34), none⟩, ⟨(some 3), .mv (.t 35), none⟩]))
  (.ops [⟨(some 23), .mv (.t 6), none⟩, ⟨(some 24), .bin .add (.t 23) (.c (.int .i64 1)), none⟩, ⟨(some 6), .mv (.t 24), none⟩]))))))
  (.seq (.ops [⟨(some 36), .mv (.t 3), none⟩, ⟨(some 37), .bin .add (.t 36) (.c (.string ⟨#[10]⟩)), none⟩, ⟨(some 2), .mv (.t 37), none⟩])
  .ret))))))
def r25 : List RV := [.t 2]
theorem fn25 : cFn Tryd.prog 25 = some (c25, r25, 38) := by kernel_rfl

/-- dynamo/dynamoref25.Dec -/
def c26 : MC :=
  (.seq (.ops [⟨(some 2), .mv (.c (.string ⟨#[]⟩)), none⟩])
  (.seq (.seq (.ops [⟨(some 4), .mv (.t 0), none⟩, ⟨(some 5), .bin .lss (.t 4) (.c (.int .i64 0)), none⟩])
  (.cond (.t 5) (.seq (.seq (.ops [⟨(some 6), .mv (.t 0), none⟩, ⟨(some 7), .bin .eql (.t 6) (.c (.int .i64 (-9223372036854775808))), none⟩])
  (.cond (.t 7) (.seq (.ops [⟨(some 2), .mv (.c (.string ⟨#[45, 57, 50, 50, 51, 51, 55, 50, 48, 51, 54, 56, 53, 52, 55, 55, 53, 56, 48, 56]⟩)), none⟩])
  .ret) .skip))
  (.seq (.ops [⟨(some 8), .mv (.t 0), none⟩, ⟨(some 9), .neg (.t 8), none⟩, ⟨(some 10), .call 26 [(.t 9)], none⟩, ⟨(some 11), .bin .add (.c (.string ⟨#[45]⟩)) (.t 10), none⟩, ⟨(some 2), .mv (.t 11), none⟩])
  .ret)) .skip))
  (.seq (.ops [⟨(some 3), .mv (.c (.string ⟨#[]⟩)), none⟩])
  (.seq (.block 0 (.loop (.seq (.seq (.ops [⟨(some 12), .mv (.t 0), none⟩, ⟨(some 13), .bin .gtr (.t 12) (.c (.int .i64 9)), none⟩])
  (.cond (.t 13) .skip (.exit 0)))
  (.block 1 (.seq (.ops [⟨(some 14), .mv (.t 0), none⟩, ⟨(some 15), .bin .rem (.t 14) (.c (.int .i64 10)), none⟩, ⟨(some 16), .bin .add (.c (.int .i64 48)) (.t 15), none⟩, ⟨(some 17), .conv .u8 (.t 16), none⟩, ⟨(some 18), .bsl 1 1 [(.int .u8 0)] [(0, (.t 17))], none⟩, ⟨(some 19), .b2s (.t 18), none⟩, ⟨(some 20), .mv (.t 3), none⟩, ⟨(some 21), .bin .add (.t 19) (.t 20), none⟩, ⟨(some 3), .mv (.t 21), none⟩])
  (.ops [⟨(some 22), .mv (.t 0), none⟩, ⟨(some 23), .bin .quo (.t 22) (.c (.int .i64 10)), none⟩, ⟨(some 0), .mv (.t 23), none⟩]))))))
  (.seq (.ops [⟨(some 24), .mv (.t 0), none⟩, ⟨(some 25), .bin .add (.c (.int .i64 48)) (.t 24), none⟩, ⟨(some 26), .conv .u8 (.t 25), none⟩, ⟨(some 27), .bsl 1 1 [(.int .u8 0)] [(0, (.t 26))], none⟩, ⟨(some 28), .b2s (.t 27), none⟩, ⟨(some 29), .mv (.t 3), none⟩, ⟨(some 30), .bin .add (.t 28) (.t 29), none⟩, ⟨(some 2), .mv (.t 30), none⟩])
  .ret)))))
def r26 : List RV := [.t 2]
theorem fn26 : cFn Tryd.prog 26 = some (c26, r26, 31) := by kernel_rfl

/-- dynamo/text.Tell -/
def c27 : MC :=
  (.seq (.ops [⟨(some 2), .mv (.c (.string ⟨#[]⟩)), none⟩])
  (.seq (.ops [⟨(some 3), .allocT 69 [(.pointer none), (.slice none 0 0)], none⟩])
  (.seq (.seq (.ops [⟨(some 6), .mv (.t 0), none⟩, ⟨(some 7), .len false (.t 6), none⟩, ⟨(some 8), .mv (.c (.int .i64 0)), none⟩])
  (.block 0 (.loop (.seq (.ops [⟨(some 9), .bin .lss (.t 8) (.t 7), none⟩])
  (.seq (.cond (.t 9) .skip (.exit 0))
  (.seq (.block 1 (.seq (.ops [⟨(some 10), .iaS 2 (.t 6) (.t 8), none⟩, ⟨(some 11), .loadN 2 (.t 10), none⟩, ⟨(some 5), .alloc [(.int .i64 0), (.int .i64 0)], none⟩, ⟨none, .store 2 (.t 5) (.t 11), none⟩])
  (.dops [⟨⟨(some 12), .fadd 0 (.t 5), none⟩, 0, false, false⟩, ⟨⟨(some 13), .load1 (.t 12), none⟩, 1, false, false⟩, ⟨⟨(some 16), .fadd 1 (.t 5), none⟩, 4, false, false⟩, ⟨⟨(some 17), .load1 (.t 16), none⟩, 5, false, false⟩, ⟨⟨(some 14), .call 44 [(.t 13)], none⟩, 2, true, true⟩, ⟨⟨(some 15), .bin .add (.t 14) (.c (.string ⟨#[32]⟩)), none⟩, 3, false, false⟩, ⟨⟨(some 18), .call 44 [(.t 17)], none⟩, 6, true, false⟩, ⟨⟨(some 19), .bin .add (.t 15) (.t 18), none⟩, 7, false, false⟩, ⟨⟨(some 20), .bin .add (.t 19) (.c (.string ⟨#[10]⟩)), none⟩, 8, false, false⟩, ⟨⟨(some 21), .call 33 [(.t 3), (.t 20)], none⟩, 9, true, false⟩])))
  (.ops [⟨(some 22), .bin .add (.t 8) (.c (.int .i64 1)), none⟩, ⟨(some 8), .mv (.t 22), none⟩])))))))
  (.seq (.ops [⟨(some 23), .call 34 [(.t 3)], none⟩, ⟨(some 2), .mv (.t 23), none⟩])
  .ret))))
def r27 : List RV := [.t 2]
theorem fn27 : cFn Tryd.prog 27 = some (c27, r27, 24) := by kernel_rfl

/-- dynamo/dynamolaw23.Small -/
def c29 : MC :=
  (.seq (.ops [⟨(some 2), .mv (.c (.int .i64 0)), none⟩])
  (.seq (.seq (.ops [⟨(some 4), .mv (.t 0), none⟩, ⟨(some 5), .len false (.t 4), none⟩, ⟨(some 6), .bin .gtr (.t 5) (.c (.int .i64 60)), none⟩])
  (.cond (.t 6) (.seq (.ops [⟨(some 2), .mv (.c (.int .i64 0)), none⟩])
  .ret) .skip))
  (.seq (.seq (.ops [⟨(some 3), .mv (.c (.int .i64 0)), none⟩])
  (.block 0 (.loop (.seq (.seq (.ops [⟨(some 7), .mv (.t 3), none⟩, ⟨(some 8), .mv (.t 0), none⟩, ⟨(some 9), .len false (.t 8), none⟩, ⟨(some 10), .bin .lss (.t 7) (.t 9), none⟩])
  (.cond (.t 10) .skip (.exit 0)))
  (.seq (.block 1 (.seq (.ops [⟨(some 13), .mv (.t 0), none⟩, ⟨(some 14), .mv (.t 3), none⟩, ⟨(some 15), .iaS 4 (.t 13) (.t 14), none⟩, ⟨(some 16), .fadd 0 (.t 15), none⟩, ⟨(some 17), .load1 (.t 16), none⟩, ⟨(some 18), .len true (.t 17), none⟩, ⟨(some 19), .bin .gtr (.t 18) (.c (.int .i64 50)), none⟩])
  (.cond (.t 19) (.seq (.ops [⟨(some 2), .mv (.c (.int .i64 0)), none⟩])
  .ret) .skip)))
  (.ops [⟨(some 11), .mv (.t 3), none⟩, ⟨(some 12), .bin .add (.t 11) (.c (.int .i64 1)), none⟩, ⟨(some 3), .mv (.t 12), none⟩]))))))
  (.seq (.ops [⟨(some 2), .mv (.c (.int .i64 1)), none⟩])
  .ret))))
def r29 : List RV := [.t 2]
theorem fn29 : cFn Tryd.prog 29 = some (c29, r29, 20) := by kernel_rfl

/-- dynamo/grid.Open -/
def c30 : MC :=
  (.seq (.ops [⟨(some 2), .box (.t 0), none⟩, ⟨(some 4), .mv (.c (.bool false)), none⟩])
  (.seq (.ops [⟨(some 5), .loadN 3 (.t 2), none⟩, ⟨(some 6), .call 16 [(.t 5)], none⟩, ⟨(some 7), .mv (.t 6), none⟩, ⟨(some 8), .loadN 3 (.t 2), (some (7, true))⟩, ⟨(some 9), .mv (.t 1), (some (7, true))⟩, ⟨(some 10), .call 51 [(.t 8), (.t 9)], (some (7, true))⟩, ⟨(some 11), .pick (.t 7) (.t 10) (.c (.bool false)), none⟩, ⟨(some 4), .mv (.t 11), none⟩])
  .ret))
def r30 : List RV := [.t 4]
theorem fn30 : cFn Tryd.prog 30 = some (c30, r30, 12) := by kernel_rfl

/-- dynamo/tag.Tag -/
def c31 : MC :=
  (.seq (.ops [⟨(some 4), .mv (.c .nilIface), none⟩])
  (.seq (.seq (.ops [⟨(some 5), .mv (.t 1), none⟩, ⟨(some 6), .eqN .iface false (.t 5) (.c .nilIface), none⟩])
  (.cond (.t 6) (.seq (.ops [⟨(some 4), .mv (.c .nilIface), none⟩])
  .ret) .skip))
  (.seq (.ops [⟨(some 7), .mv (.t 0), none⟩, ⟨(some 8), .mv (.t 1), none⟩, ⟨(some 9), .bld [(.string ⟨#[]⟩), .nilIface] [(0, 1, (.t 7)), (1, 1, (.t 8))], none⟩, ⟨(some 10), .box (.t 9), none⟩, ⟨(some 11), .mki 101 (.t 10), none⟩, ⟨(some 4), .mv (.t 11), none⟩])
  .ret)))
def r31 : List RV := [.t 4]
theorem fn31 : cFn Tryd.prog 31 = some (c31, r31, 12) := by kernel_rfl

/-- slices.Chunk[[]byte,byte] -/
def c32 : MC :=
  (.seq (.ops [⟨(some 2), .box (.t 0), none⟩, ⟨(some 3), .box (.t 1), none⟩, ⟨(some 4), .mv (.c .nilFunc), none⟩])
  (.seq (.seq (.ops [⟨(some 5), .load1 (.t 3), none⟩, ⟨(some 6), .bin .lss (.t 5) (.c (.int .i64 1)), none⟩])
  (.cond (.t 6) (.ops [⟨(some 7), .mki 9 (.c (.string ⟨#[99, 97, 110, 110, 111, 116, 32, 98, 101, 32, 108, 101, 115, 115, 32, 116, 104, 97, 110, 32, 49]⟩)), none⟩, ⟨none, .bad, none⟩]) .skip))
  (.seq (.ops [⟨(some 8), .mkf (.func 52) [] [(.t 2), (.t 3)], none⟩, ⟨(some 4), .mv (.t 8), none⟩])
  .ret)))
def r32 : List RV := [.t 4]
theorem fn32 : cFn Tryd.prog 32 = some (c32, r32, 9) := by kernel_rfl

/-- errors.As -/
def c35 : MC :=
  (.seq (.ops [⟨(some 4), .mv (.c (.bool false)), none⟩])
  (.seq (.seq (.ops [⟨(some 8), .mv (.t 0), none⟩, ⟨(some 9), .eqN .iface false (.t 8) (.c .nilIface), none⟩])
  (.cond (.t 9) (.seq (.ops [⟨(some 4), .mv (.c (.bool false)), none⟩])
  .ret) .skip))
  (.seq (.seq (.ops [⟨(some 10), .mv (.t 1), none⟩, ⟨(some 11), .eqN .iface false (.t 10) (.c .nilIface), none⟩])
  (.cond (.t 11) (.ops [⟨(some 12), .mki 9 (.c (.string ⟨#[101, 114, 114, 111, 114, 115, 58, 32, 116, 97, 114, 103, 101, 116, 32, 99, 97, 110, 110, 111, 116, 32, 98, 101, 32, 110, 105, 108]⟩)), none⟩, ⟨none, .bad, none⟩]) .skip))
  (.seq (.ops [⟨(some 13), .mv (.t 1), none⟩, ⟨(some 14), .call 54 [(.t 13)], none⟩, ⟨(some 5), .alloc [(.pointer none), (.pointer none), (.int .u64 0)], none⟩, ⟨none, .store 3 (.t 5) (.t 14), none⟩])
  (.seq (.ops [⟨(some 15), .loadN 3 (.t 5), none⟩, ⟨(some 16), .call 55 [(.t 15)], none⟩, ⟨(some 6), .mv (.t 16), none⟩])
  (.seq (.seq (.ops [⟨(some 17), .mv (.t 6), none⟩, ⟨(some 18), .bad, none⟩, ⟨(some 19), .bin .neq (.t 18) (.c (.int .u8 22)), none⟩, ⟨(some 20), .mv (.t 19), none⟩, ⟨(some 21), .loadN 3 (.t 5), (some (20, false))⟩, ⟨(some 22), .call 56 [(.t 21)], (some (20, false))⟩, ⟨(some 23), .pick (.t 20) (.c (.bool true)) (.t 22), none⟩])
  (.cond (.t 23) (.ops [⟨(some 24), .mki 9 (.c (.string ⟨#[101, 114, 114, 111, 114, 115, 58, 32, 116, 97, 114, 103, 101, 116, 32, 109, 117, 115, 116, 32, 98, 101, 32, 97, 32, 110, 111, 110, 45, 110, 105, 108, 32, 112, 111, 105, 110, 116, 101, 114]⟩)), none⟩, ⟨none, .bad, none⟩]) .skip))
  (.seq (.ops [⟨(some 25), .mv (.t 6), none⟩, ⟨(some 26), .bad, none⟩, ⟨(some 7), .mv (.t 26), none⟩])
  (.seq (.seq (.ops [⟨(some 27), .mv (.t 7), none⟩, ⟨(some 28), .bad, none⟩, ⟨(some 29), .bin .neq (.t 28) (.c (.int .u8 20)), none⟩, ⟨(some 30), .mv (.t 29), none⟩, ⟨(some 31), .mv (.t 7), (some (30, true))⟩, ⟨(some 32), .bad, (some (30, true))⟩, ⟨(some 33), .bad, (some (30, true))⟩, ⟨(some 34), .not (.t 33), (some (30, true))⟩, ⟨(some 35), .pick (.t 30) (.t 34) (.c (.bool false)), none⟩])
  (.cond (.t 35) (.ops [⟨(some 36), .mki 9 (.c (.string ⟨#[101, 114, 114, 111, 114, 115, 58, 32, 42, 116, 97, 114, 103, 101, 116, 32, 109, 117, 115, 116, 32, 98, 101, 32, 105, 110, 116, 101, 114, 102, 97, 99, 101, 32, 111, 114, 32, 105, 109, 112, 108, 101, 109, 101, 110, 116, 32, 101, 114, 114, 111, 114]⟩)), none⟩, ⟨none, .bad, none⟩]) .skip))
  (.seq (.ops [⟨(some 37), .mv (.t 0), none⟩, ⟨(some 38), .mv (.t 1), none⟩, ⟨(some 39), .loadN 3 (.t 5), none⟩, ⟨(some 40), .mv (.t 7), none⟩, ⟨(some 41), .call 57 [(.t 37), (.t 38), (.t 39), (.t 40)], none⟩, ⟨(some 4), .mv (.t 41), none⟩])
  .ret)))))))))
def r35 : List RV := [.t 4]
theorem fn35 : cFn Tryd.prog 35 = some (c35, r35, 42) := by kernel_rfl

/-- strings.Lines -/
def c36 : MC :=
  (.seq (.ops [⟨(some 1), .box (.t 0), none⟩, ⟨(some 2), .mv (.c .nilFunc), none⟩])
  (.seq (.ops [⟨(some 3), .mkf (.func 58) [] [(.t 1)], none⟩, ⟨(some 2), .mv (.t 3), none⟩])
  .ret))
def r36 : List RV := [.t 2]
theorem fn36 : cFn Tryd.prog 36 = some (c36, r36, 4) := by kernel_rfl

/-- strings.CutSuffix -/
def c37 : MC :=
  (.seq (.ops [⟨(some 4), .mv (.c (.string ⟨#[]⟩)), none⟩, ⟨(some 5), .mv (.c (.bool false)), none⟩])
  (.seq (.ops [⟨(some 6), .mv (.t 0), none⟩, ⟨(some 7), .mv (.t 1), none⟩, ⟨(some 8), .call 60 [(.t 6), (.t 7)], none⟩, ⟨(some 9), .ext (.t 8) 0, none⟩, ⟨(some 10), .ext (.t 8) 1, none⟩, ⟨(some 4), .mv (.t 9), none⟩, ⟨(some 5), .mv (.t 10), none⟩])
  .ret))
def r37 : List RV := [.t 4, .t 5]
theorem fn37 : cFn Tryd.prog 37 = some (c37, r37, 11) := by kernel_rfl

/-- dynamo/grid.sized -/
def c38 : MC :=
  (.seq (.ops [⟨(some 1), .box (.t 0), none⟩, ⟨(some 2), .mv (.c (.bool false)), none⟩])
  (.seq (.ops [⟨(some 3), .mv (.f 61), none⟩])
  (.seq (.ops [⟨(some 4), .mv (.t 3), none⟩, ⟨(some 5), .fadd 0 (.t 1), none⟩, ⟨(some 6), .load1 (.t 5), none⟩, ⟨(some 7), .callv (.t 4) [(.t 6)], none⟩, ⟨(some 8), .mv (.t 7), none⟩, ⟨(some 9), .mv (.t 3), (some (8, true))⟩, ⟨(some 10), .fadd 1 (.t 1), (some (8, true))⟩, ⟨(some 11), .load1 (.t 10), (some (8, true))⟩, ⟨(some 12), .callv (.t 9) [(.t 11)], (some (8, true))⟩, ⟨(some 13), .pick (.t 8) (.t 12) (.c (.bool false)), none⟩, ⟨(some 14), .mv (.t 13), none⟩, ⟨(some 15), .fadd 2 (.t 1), (some (14, true))⟩, ⟨(some 16), .load1 (.t 15), (some (14, true))⟩, ⟨(some 17), .len true (.t 16), (some (14, true))⟩, ⟨(some 18), .fadd 0 (.t 1), (some (14, true))⟩, ⟨(some 19), .load1 (.t 18), (some (14, true))⟩, ⟨(some 20), .fadd 1 (.t 1), (some (14, true))⟩, ⟨(some 21), .load1 (.t 20), (some (14, true))⟩, ⟨(some 22), .bin .mul (.t 19) (.t 21), (some (14, true))⟩, ⟨(some 23), .bin .eql (.t 17) (.t 22), (some (14, true))⟩, ⟨(some 24), .pick (.t 14) (.t 23) (.c (.bool false)), none⟩, ⟨(some 25), .mv (.t 24), none⟩, ⟨(some 26), .fadd 2 (.t 1), (some (25, true))⟩, ⟨(some 27), .load1 (.t 26), (some (25, true))⟩, ⟨(some 28), .call 62 [(.t 27), (.c (.string ⟨#[35, 46, 67, 80]⟩))], (some (25, true))⟩, ⟨(some 29), .bin .eql (.t 28) (.c (.string ⟨#[]⟩)), (some (25, true))⟩, ⟨(some 30), .pick (.t 25) (.t 29) (.c (.bool false)), none⟩, ⟨(some 31), .mv (.t 30), none⟩, ⟨(some 32), .fadd 2 (.t 1), (some (31, true))⟩, ⟨(some 33), .load1 (.t 32), (some (31, true))⟩, ⟨(some 34), .call 63 [(.t 33), (.f 64)], (some (31, true))⟩, ⟨(some 35), .not (.t 34), (some (31, true))⟩, ⟨(some 36), .pick (.t 31) (.t 35) (.c (.bool false)), none⟩, ⟨(some 2), .mv (.t 36), none⟩])
  .ret)))
def r38 : List RV := [.t 2]
theorem fn38 : cFn Tryd.prog 38 = some (c38, r38, 37) := by kernel_rfl

/-- strings.Index -/
def c39 : MC :=
  (.seq (.ops [⟨(some 4), .mv (.c (.int .i64 0)), none⟩])
  (.seq (.ops [⟨(some 5), .mv (.t 0), none⟩, ⟨(some 6), .mv (.t 1), none⟩, ⟨(some 7), .call 66 [(.t 5), (.t 6)], none⟩, ⟨(some 4), .mv (.t 7), none⟩])
  .ret))
def r39 : List RV := [.t 4]
theorem fn39 : cFn Tryd.prog 39 = some (c39, r39, 8) := by kernel_rfl

/-- (dynamo/grid.Map).reached -/
def c40 : MC :=
  (.seq (.ops [⟨(some 2), .box (.t 0), none⟩, ⟨(some 4), .mv (.c (.int .i64 0)), none⟩])
  (.seq (.ops [⟨(some 10), .mkmap, none⟩, ⟨(some 11), .mv (.t 1), none⟩, ⟨none, .mupd .int (.t 10) (.t 11) (.c (.bool true)), none⟩, ⟨(some 12), .mv (.t 10), none⟩, ⟨(some 5), .mv (.t 12), none⟩])
  (.seq (.ops [⟨(some 13), .mv (.t 1), none⟩, ⟨(some 14), .bsl 1 1 [(.int .i64 0)] [(0, (.t 13))], none⟩, ⟨(some 6), .mv (.t 14), none⟩])
  (.seq (.block 0 (.loop (.seq (.seq (.ops [⟨(some 15), .mv (.t 6), none⟩, ⟨(some 16), .len false (.t 15), none⟩, ⟨(some 17), .bin .gtr (.t 16) (.c (.int .i64 0)), none⟩])
  (.cond (.t 17) .skip (.exit 0)))
  (.block 1 (.seq (.ops [⟨(some 18), .mv (.t 6), none⟩, ⟨(some 19), .iaS 1 (.t 18) (.c (.int .i64 0)), none⟩, ⟨(some 20), .load1 (.t 19), none⟩, ⟨(some 7), .mv (.t 20), none⟩])
  (.seq (.ops [⟨(some 21), .mv (.t 6), none⟩, ⟨(some 22), .slc 1 (.t 21) (some (.c (.int .i64 1))) none none, none⟩, ⟨(some 6), .mv (.t 22), none⟩])
  (.seq (.ops [⟨(some 23), .loadN 3 (.t 2), none⟩, ⟨(some 24), .mv (.t 7), none⟩, ⟨(some 25), .call 67 [(.t 23), (.t 24)], none⟩, ⟨(some 26), .len false (.t 25), none⟩, ⟨(some 27), .mv (.c (.int .i64 0)), none⟩])
  (.block 2 (.loop (.seq (.ops [⟨(some 28), .bin .lss (.t 27) (.t 26), none⟩])
  (.seq (.cond (.t 28) .skip (.exit 2))
  (.seq (.block 3 (.seq (.ops [⟨(some 29), .iaS 1 (.t 25) (.t 27), none⟩, ⟨(some 30), .load1 (.t 29), none⟩, ⟨(some 9), .mv (.t 30), none⟩])
  (.seq (.ops [⟨(some 31), .mv (.t 5), none⟩, ⟨(some 32), .mv (.t 9), none⟩, ⟨(some 33), .mlook .int false (.bool false) (.t 31) (.t 32), none⟩, ⟨(some 34), .not (.t 33), none⟩])
  (.cond (.t 34) (.seq (.ops [⟨(some 35), .mv (.t 5), none⟩, ⟨(some 36), .mv (.t 9), none⟩, ⟨none, .mupd .int (.t 35) (.t 36) (.c (.bool true)), none⟩])
  (.ops [⟨(some 37), .mv (.t 6), none⟩, ⟨(some 38), .mv (.t 9), none⟩, ⟨(some 39), .bsl 1 1 [(.int .i64 0)] [(0, (.t 38))], none⟩, ⟨(some 40), .app 1 8 (.t 37) (.t 39), none⟩, ⟨(some 6), .mv (.t 40), none⟩])) .skip))))
  (.ops [⟨(some 41), .bin .add (.t 27) (.c (.int .i64 1)), none⟩, ⟨(some 27), .mv (.t 41), none⟩])))))))))))))
  (.seq (.ops [⟨(some 42), .mv (.t 5), none⟩, ⟨(some 43), .mlen (.t 42), none⟩, ⟨(some 4), .mv (.t 43), none⟩])
  .ret)))))
def r40 : List RV := [.t 4]
theorem fn40 : cFn Tryd.prog 40 = some (c40, r40, 44) := by kernel_rfl

/-- strings.Count -/
def c41 : MC :=
  (.seq (.ops [⟨(some 4), .mv (.c (.int .i64 0)), none⟩])
  (.seq (.seq (.ops [⟨(some 7), .mv (.t 1), none⟩, ⟨(some 8), .len true (.t 7), none⟩, ⟨(some 9), .bin .eql (.t 8) (.c (.int .i64 0)), none⟩])
  (.cond (.t 9) (.seq (.ops [⟨(some 10), .mv (.t 0), none⟩, ⟨(some 11), .call 68 [(.t 10)], none⟩, ⟨(some 12), .bin .add (.t 11) (.c (.int .i64 1)), none⟩, ⟨(some 4), .mv (.t 12), none⟩])
  .ret) .skip))
  (.seq (.seq (.ops [⟨(some 13), .mv (.t 1), none⟩, ⟨(some 14), .len true (.t 13), none⟩, ⟨(some 15), .bin .eql (.t 14) (.c (.int .i64 1)), none⟩])
  (.cond (.t 15) (.seq (.ops [⟨(some 16), .mv (.t 0), none⟩, ⟨(some 17), .mv (.t 1), none⟩, ⟨(some 18), .idxS (.t 17) (.c (.int .i64 0)), none⟩, ⟨(some 19), .call 69 [(.t 16), (.t 18)], none⟩, ⟨(some 4), .mv (.t 19), none⟩])
  .ret) .skip))
  (.seq (.ops [⟨(some 5), .mv (.c (.int .i64 0)), none⟩])
  (.block 0 (.loop (.block 1 (.seq (.ops [⟨(some 20), .mv (.t 0), none⟩, ⟨(some 21), .mv (.t 1), none⟩, ⟨(some 22), .call 39 [(.t 20), (.t 21)], none⟩, ⟨(some 6), .mv (.t 22), none⟩])
  (.seq (.seq (.ops [⟨(some 23), .mv (.t 6), none⟩, ⟨(some 24), .bin .eql (.t 23) (.c (.int .i64 (-1))), none⟩])
  (.cond (.t 24) (.seq (.ops [⟨(some 25), .mv (.t 5), none⟩, ⟨(some 4), .mv (.t 25), none⟩])
  .ret) .skip))
  (.seq (.ops [⟨(some 26), .mv (.t 5), none⟩, ⟨(some 27), .bin .add (.t 26) (.c (.int .i64 1)), none⟩, ⟨(some 5), .mv (.t 27), none⟩])
  (.ops [⟨(some 28), .mv (.t 0), none⟩, ⟨(some 29), .mv (.t 6), none⟩, ⟨(some 30), .mv (.t 1), none⟩, ⟨(some 31), .len true (.t 30), none⟩, ⟨(some 32), .bin .add (.t 29) (.t 31), none⟩, ⟨(some 33), .slcS (.t 28) (some (.t 32)) none, none⟩, ⟨(some 0), .mv (.t 33), none⟩])))))))))))
def r41 : List RV := [.t 4]
theorem fn41 : cFn Tryd.prog 41 = some (c41, r41, 34) := by kernel_rfl

/-- dynamo/dynamoref14.Beside -/
def c42 : MC :=
  (.seq (.ops [⟨(some 6), .mv (.c (.bool false)), none⟩])
  (.seq (.seq (.dops [⟨⟨(some 7), .mv (.t 1), none⟩, 0, false, false⟩, ⟨⟨(some 8), .mv (.t 0), none⟩, 1, false, false⟩, ⟨⟨(some 9), .bin .quo (.t 7) (.t 8), none⟩, 2, false, false⟩, ⟨⟨(some 10), .mv (.t 2), none⟩, 3, false, false⟩, ⟨⟨(some 11), .mv (.t 0), none⟩, 4, false, false⟩, ⟨⟨(some 12), .bin .quo (.t 10) (.t 11), none⟩, 5, false, false⟩, ⟨⟨(some 13), .bin .eql (.t 9) (.t 12), none⟩, 6, false, false⟩])
  (.cond (.t 13) (.seq (.ops [⟨(some 14), .mv (.t 1), none⟩, ⟨(some 15), .mv (.t 2), none⟩, ⟨(some 16), .bin .add (.t 15) (.c (.int .i64 1)), none⟩, ⟨(some 17), .bin .eql (.t 14) (.t 16), none⟩, ⟨(some 18), .mv (.t 17), none⟩, ⟨(some 19), .mv (.t 2), (some (18, false))⟩, ⟨(some 20), .mv (.t 1), (some (18, false))⟩, ⟨(some 21), .bin .add (.t 20) (.c (.int .i64 1)), (some (18, false))⟩, ⟨(some 22), .bin .eql (.t 19) (.t 21), (some (18, false))⟩, ⟨(some 23), .pick (.t 18) (.c (.bool true)) (.t 22), none⟩, ⟨(some 6), .mv (.t 23), none⟩])
  .ret) .skip))
  (.seq (.ops [⟨(some 24), .mv (.t 1), none⟩, ⟨(some 25), .mv (.t 2), none⟩, ⟨(some 26), .mv (.t 0), none⟩, ⟨(some 27), .bin .add (.t 25) (.t 26), none⟩, ⟨(some 28), .bin .eql (.t 24) (.t 27), none⟩, ⟨(some 29), .mv (.t 28), none⟩, ⟨(some 30), .mv (.t 2), (some (29, false))⟩, ⟨(some 31), .mv (.t 1), (some (29, false))⟩, ⟨(some 32), .mv (.t 0), (some (29, false))⟩, ⟨(some 33), .bin .add (.t 31) (.t 32), (some (29, false))⟩, ⟨(some 34), .bin .eql (.t 30) (.t 33), (some (29, false))⟩, ⟨(some 35), .pick (.t 29) (.c (.bool true)) (.t 34), none⟩, ⟨(some 6), .mv (.t 35), none⟩])
  .ret)))
def r42 : List RV := [.t 6]
theorem fn42 : cFn Tryd.prog 42 = some (c42, r42, 36) := by kernel_rfl

/-- dynamo/text.needs -/
def c43 : MC :=
  (.seq (.ops [⟨(some 0), .mv (.c (.map none)), none⟩])
  (.seq (.ops [⟨(some 1), .mkmap, none⟩, ⟨none, .mupd .str (.t 1) (.c (.string ⟨#[114, 111, 98, 111, 116]⟩)) (.c (.string ⟨#[97, 98, 99]⟩)), none⟩, ⟨none, .mupd .str (.t 1) (.c (.string ⟨#[116, 97, 115, 107]⟩)) (.c (.string ⟨#[97, 98, 99]⟩)), none⟩, ⟨none, .mupd .str (.t 1) (.c (.string ⟨#[111, 102, 102]⟩)) (.c (.string ⟨#[98]⟩)), none⟩, ⟨none, .mupd .str (.t 1) (.c (.string ⟨#[111, 110]⟩)) (.c (.string ⟨#[98]⟩)), none⟩, ⟨none, .mupd .str (.t 1) (.c (.string ⟨#[116, 101, 108, 108]⟩)) (.c (.string ⟨#[97, 98]⟩)), none⟩, ⟨none, .mupd .str (.t 1) (.c (.string ⟨#[116, 105, 99, 107]⟩)) (.c (.string ⟨#[]⟩)), none⟩, ⟨(some 2), .mv (.t 1), none⟩, ⟨(some 0), .mv (.t 2), none⟩])
  .ret))
def r43 : List RV := [.t 0]
theorem fn43 : cFn Tryd.prog 43 = some (c43, r43, 3) := by kernel_rfl

/-- strconv.Itoa -/
def c44 : MC :=
  (.seq (.ops [⟨(some 2), .mv (.c (.string ⟨#[]⟩)), none⟩])
  (.seq (.ops [⟨(some 3), .mv (.t 0), none⟩, ⟨(some 4), .call 70 [(.t 3)], none⟩, ⟨(some 2), .mv (.t 4), none⟩])
  .ret))
def r44 : List RV := [.t 2]
theorem fn44 : cFn Tryd.prog 44 = some (c44, r44, 5) := by kernel_rfl

/-- dynamo/text.part -/
def c45 : MC :=
  (.seq (.ops [⟨(some 4), .mv (.c (.pointer none)), none⟩])
  (.seq (.seq (.ops [⟨(some 5), .mv (.t 1), none⟩])
  (.block 0 (.seq (.ops [⟨(some 7), .bin .eql (.t 5) (.c (.int .u8 97)), none⟩, ⟨(some 6), .mv (.t 7), none⟩])
  (.cond (.t 6) (.seq (.ops [⟨(some 8), .mv (.t 0), none⟩, ⟨(some 9), .nilck (.t 8), none⟩, ⟨(some 10), .fadd 1 (.t 9), none⟩, ⟨(some 4), .mv (.t 10), none⟩])
  .ret) (.seq (.ops [⟨(some 12), .bin .eql (.t 5) (.c (.int .u8 98)), none⟩, ⟨(some 11), .mv (.t 12), none⟩])
  (.cond (.t 11) (.seq (.ops [⟨(some 13), .mv (.t 0), none⟩, ⟨(some 14), .nilck (.t 13), none⟩, ⟨(some 15), .fadd 2 (.t 14), none⟩, ⟨(some 4), .mv (.t 15), none⟩])
  .ret) .skip))))))
  (.seq (.ops [⟨(some 16), .mv (.t 0), none⟩, ⟨(some 17), .nilck (.t 16), none⟩, ⟨(some 18), .fadd 3 (.t 17), none⟩, ⟨(some 4), .mv (.t 18), none⟩])
  .ret)))
def r45 : List RV := [.t 4]
theorem fn45 : cFn Tryd.prog 45 = some (c45, r45, 19) := by kernel_rfl

/-- dynamo/dynamoref23.Kind -/
def c46 : MC :=
  (.seq (.ops [⟨(some 2), .mv (.c (.int .i64 0)), none⟩])
  (.seq (.ops [⟨(some 5), .bsl 1 6 [(.string ⟨#[]⟩)] [(0, (.c (.string ⟨#[114, 111, 98, 111, 116]⟩))), (1, (.c (.string ⟨#[116, 97, 115, 107]⟩))), (2, (.c (.string ⟨#[111, 102, 102]⟩))), (3, (.c (.string ⟨#[111, 110]⟩))), (4, (.c (.string ⟨#[116, 101, 108, 108]⟩))), (5, (.c (.string ⟨#[116, 105, 99, 107]⟩)))], none⟩, ⟨(some 3), .mv (.t 5), none⟩])
  (.seq (.seq (.ops [⟨(some 4), .mv (.c (.int .i64 0)), none⟩])
  (.block 0 (.loop (.seq (.seq (.ops [⟨(some 6), .mv (.t 4), none⟩, ⟨(some 7), .mv (.t 3), none⟩, ⟨(some 8), .len false (.t 7), none⟩, ⟨(some 9), .bin .lss (.t 6) (.t 8), none⟩])
  (.cond (.t 9) .skip (.exit 0)))
  (.seq (.block 1 (.seq (.ops [⟨(some 12), .mv (.t 3), none⟩, ⟨(some 13), .mv (.t 4), none⟩, ⟨(some 14), .iaS 1 (.t 12) (.t 13), none⟩, ⟨(some 15), .load1 (.t 14), none⟩, ⟨(some 16), .mv (.t 0), none⟩, ⟨(some 17), .bin .eql (.t 15) (.t 16), none⟩])
  (.cond (.t 17) (.seq (.ops [⟨(some 18), .mv (.t 4), none⟩, ⟨(some 19), .bin .add (.t 18) (.c (.int .i64 1)), none⟩, ⟨(some 2), .mv (.t 19), none⟩])
  .ret) .skip)))
  (.ops [⟨(some 10), .mv (.t 4), none⟩, ⟨(some 11), .bin .add (.t 10) (.c (.int .i64 1)), none⟩, ⟨(some 4), .mv (.t 11), none⟩]))))))
  (.seq (.ops [⟨(some 2), .mv (.c (.int .i64 0)), none⟩])
  .ret))))
def r46 : List RV := [.t 2]
theorem fn46 : cFn Tryd.prog 46 = some (c46, r46, 20) := by kernel_rfl

/-- dynamo/dynamoref25.Needs -/
def c47 : MC :=
  (.seq (.ops [⟨(some 2), .mv (.c (.string ⟨#[]⟩)), none⟩])
  (.seq (.ops [⟨(some 4), .bsl 1 7 [(.string ⟨#[]⟩)] [(0, (.c (.string ⟨#[]⟩))), (1, (.c (.string ⟨#[97, 98, 99]⟩))), (2, (.c (.string ⟨#[97, 98, 99]⟩))), (3, (.c (.string ⟨#[98]⟩))), (4, (.c (.string ⟨#[98]⟩))), (5, (.c (.string ⟨#[97, 98]⟩))), (6, (.c (.string ⟨#[]⟩)))], none⟩, ⟨(some 3), .mv (.t 4), none⟩])
  (.seq (.ops [⟨(some 5), .mv (.t 3), none⟩, ⟨(some 6), .mv (.t 0), none⟩, ⟨(some 7), .call 46 [(.t 6)], none⟩, ⟨(some 8), .iaS 1 (.t 5) (.t 7), none⟩, ⟨(some 9), .load1 (.t 8), none⟩, ⟨(some 2), .mv (.t 9), none⟩])
  .ret)))
def r47 : List RV := [.t 2]
theorem fn47 : cFn Tryd.prog 47 = some (c47, r47, 10) := by kernel_rfl

/-- strings.Split -/
def c48 : MC :=
  (.seq (.ops [⟨(some 4), .mv (.c (.slice none 0 0)), none⟩])
  (.seq (.ops [⟨(some 5), .mv (.t 0), none⟩, ⟨(some 6), .mv (.t 1), none⟩, ⟨(some 7), .call 71 [(.t 5), (.t 6), (.c (.int .i64 0)), (.c (.int .i64 (-1)))], none⟩, ⟨(some 4), .mv (.t 7), none⟩])
  .ret))
def r48 : List RV := [.t 4]
theorem fn48 : cFn Tryd.prog 48 = some (c48, r48, 8) := by kernel_rfl

/-- dynamo/text.form -/
def c49 : MC :=
  (.seq (.ops [⟨(some 0), .mv (.c .nilIface), none⟩])
  (.seq (.ops [⟨(some 1), .mki 66 (.c (.int .i64 2)), none⟩, ⟨(some 2), .call 31 [(.c (.string ⟨#[116, 101, 120, 116]⟩)), (.t 1)], none⟩, ⟨(some 0), .mv (.t 2), none⟩])
  .ret))
def r49 : List RV := [.t 0]
theorem fn49 : cFn Tryd.prog 49 = some (c49, r49, 3) := by kernel_rfl

/-- dynamo/text.number -/
def c50 : MC :=
  (.seq (.ops [⟨(some 2), .mv (.c (.int .i64 0)), none⟩, ⟨(some 3), .mv (.c (.bool false)), none⟩])
  (.seq (.ops [⟨(some 7), .mv (.t 0), none⟩, ⟨(some 8), .call 72 [(.t 7)], none⟩, ⟨(some 6), .mv (.t 8), none⟩, ⟨(some 9), .ext (.t 6) 0, none⟩, ⟨(some 10), .ext (.t 6) 1, none⟩, ⟨(some 4), .mv (.t 9), none⟩, ⟨(some 5), .mv (.t 10), none⟩])
  (.seq (.ops [⟨(some 11), .mv (.t 4), none⟩, ⟨(some 12), .mv (.t 5), none⟩, ⟨(some 13), .eqN .iface false (.t 12) (.c .nilIface), none⟩, ⟨(some 14), .mv (.t 13), none⟩, ⟨(some 15), .mv (.t 4), (some (14, true))⟩, ⟨(some 16), .bin .geq (.t 15) (.c (.int .i64 0)), (some (14, true))⟩, ⟨(some 17), .pick (.t 14) (.t 16) (.c (.bool false)), none⟩, ⟨(some 18), .mv (.t 17), none⟩, ⟨(some 19), .mv (.t 4), (some (18, true))⟩, ⟨(some 20), .bin .leq (.t 19) (.c (.int .i64 999)), (some (18, true))⟩, ⟨(some 21), .pick (.t 18) (.t 20) (.c (.bool false)), none⟩, ⟨(some 22), .mv (.t 21), none⟩, ⟨(some 23), .mv (.t 4), (some (22, true))⟩, ⟨(some 24), .call 44 [(.t 23)], (some (22, true))⟩, ⟨(some 25), .mv (.t 0), (some (22, true))⟩, ⟨(some 26), .bin .eql (.t 24) (.t 25), (some (22, true))⟩, ⟨(some 27), .pick (.t 22) (.t 26) (.c (.bool false)), none⟩, ⟨(some 2), .mv (.t 11), none⟩, ⟨(some 3), .mv (.t 27), none⟩])
  .ret)))
def r50 : List RV := [.t 2, .t 3]
theorem fn50 : cFn Tryd.prog 50 = some (c50, r50, 28) := by kernel_rfl

/-- (dynamo/grid.Map).open -/
def c51 : MC :=
  (.seq (.ops [⟨(some 2), .box (.t 0), none⟩, ⟨(some 4), .mv (.c (.bool false)), none⟩])
  (.seq (.ops [⟨(some 5), .mv (.t 1), none⟩, ⟨(some 6), .bin .geq (.t 5) (.c (.int .i64 0)), none⟩, ⟨(some 7), .mv (.t 6), none⟩, ⟨(some 8), .mv (.t 1), (some (7, true))⟩, ⟨(some 9), .fadd 2 (.t 2), (some (7, true))⟩, ⟨(some 10), .load1 (.t 9), (some (7, true))⟩, ⟨(some 11), .len true (.t 10), (some (7, true))⟩, ⟨(some 12), .bin .lss (.t 8) (.t 11), (some (7, true))⟩, ⟨(some 13), .pick (.t 7) (.t 12) (.c (.bool false)), none⟩, ⟨(some 14), .mv (.t 13), none⟩, ⟨(some 15), .fadd 2 (.t 2), (some (14, true))⟩, ⟨(some 16), .load1 (.t 15), (some (14, true))⟩, ⟨(some 17), .mv (.t 1), (some (14, true))⟩, ⟨(some 18), .idxS (.t 16) (.t 17), (some (14, true))⟩, ⟨(some 19), .bin .neq (.t 18) (.c (.int .u8 35)), (some (14, true))⟩, ⟨(some 20), .pick (.t 14) (.t 19) (.c (.bool false)), none⟩, ⟨(some 4), .mv (.t 20), none⟩])
  .ret))
def r51 : List RV := [.t 4]
theorem fn51 : cFn Tryd.prog 51 = some (c51, r51, 21) := by kernel_rfl

/-- slices.Chunk[[]byte,byte]$1 -/
def c52 : MC :=
  (.seq (.ops [⟨(some 4), .mv (.c (.int .i64 0)), none⟩])
  (.block 0 (.loop (.seq (.seq (.ops [⟨(some 6), .mv (.t 4), none⟩, ⟨(some 7), .load1 (.t 1), none⟩, ⟨(some 8), .len false (.t 7), none⟩, ⟨(some 9), .bin .lss (.t 6) (.t 8), none⟩])
  (.cond (.t 9) .skip (.exit 0)))
  (.seq (.block 1 (.seq (.dops [⟨⟨(some 13), .load1 (.t 2), none⟩, 0, false, false⟩, ⟨⟨(some 14), .load1 (.t 1), none⟩, 1, false, false⟩, ⟨⟨(some 15), .mv (.t 4), none⟩, 2, false, false⟩, ⟨⟨(some 16), .slc 1 (.t 14) (some (.t 15)) none none, none⟩, 3, false, false⟩, ⟨⟨(some 17), .len false (.t 16), none⟩, 4, false, false⟩, ⟨⟨(some 18), .min2 (.t 13) (.t 17), none⟩, 5, false, false⟩, ⟨⟨(some 5), .mv (.t 18), none⟩, 6, false, false⟩])
  (.seq (.ops [⟨(some 19), .mv (.t 0), none⟩, ⟨(some 20), .load1 (.t 1), none⟩, ⟨(some 21), .mv (.t 4), none⟩, ⟨(some 22), .mv (.t 4), none⟩, ⟨(some 23), .mv (.t 5), none⟩, ⟨(some 24), .bin .add (.t 22) (.t 23), none⟩, ⟨(some 25), .mv (.t 4), none⟩, ⟨(some 26), .mv (.t 5), none⟩, ⟨(some 27), .bin .add (.t 25) (.t 26), none⟩, ⟨(some 28), .slc 1 (.t 20) (some (.t 21)) (some (.t 24)) (some (.t 27)), none⟩, ⟨(some 29), .callv (.t 19) [(.t 28)], none⟩, ⟨(some 30), .not (.t 29), none⟩])
  (.cond (.t 30) .ret .skip))))
  (.ops [⟨(some 10), .mv (.t 4), none⟩, ⟨(some 11), .load1 (.t 2), none⟩, ⟨(some 12), .bin .add (.t 10) (.t 11), none⟩, ⟨(some 4), .mv (.t 12), none⟩]))))))
def r52 : List RV := []
theorem fn52 : cFn Tryd.prog 52 = some (c52, r52, 31) := by kernel_rfl

/-- strings.Lines$1 -/
def c58 : MC :=
  (.block 0 (.loop (.seq (.seq (.ops [⟨(some 5), .load1 (.t 1), none⟩, ⟨(some 6), .len true (.t 5), none⟩, ⟨(some 7), .bin .gtr (.t 6) (.c (.int .i64 0)), none⟩])
  (.cond (.t 7) .skip (.exit 0)))
  (.block 1 (.seq (.ops [⟨(some 3), .mv (.c (.string ⟨#[]⟩)), none⟩])
  (.seq (.seq (.ops [⟨(some 8), .load1 (.t 1), none⟩, ⟨(some 9), .call 59 [(.t 8), (.c (.int .u8 10))], none⟩, ⟨(some 4), .mv (.t 9), none⟩])
  (.seq (.ops [⟨(some 10), .mv (.t 4), none⟩, ⟨(some 11), .bin .geq (.t 10) (.c (.int .i64 0)), none⟩])
  (.cond (.t 11) (.dops [⟨⟨(some 12), .load1 (.t 1), none⟩, 0, false, false⟩, ⟨⟨(some 13), .mv (.t 4), none⟩, 1, false, false⟩, ⟨⟨(some 14), .bin .add (.t 13) (.c (.int .i64 1)), none⟩, 2, false, false⟩, ⟨⟨(some 15), .slcS (.t 12) none (some (.t 14)), none⟩, 3, false, false⟩, ⟨⟨(some 16), .load1 (.t 1), none⟩, 4, false, false⟩, ⟨⟨(some 17), .mv (.t 4), none⟩, 5, false, false⟩, ⟨⟨(some 18), .bin .add (.t 17) (.c (.int .i64 1)), none⟩, 6, false, false⟩, ⟨⟨(some 19), .slcS (.t 16) (some (.t 18)) none, none⟩, 7, false, false⟩, ⟨⟨(some 3), .mv (.t 15), none⟩, 8, false, false⟩, ⟨⟨none, .store 1 (.t 1) (.t 19), none⟩, 9, true, false⟩]) (.ops [⟨(some 20), .load1 (.t 1), none⟩, ⟨(some 3), .mv (.t 20), none⟩, ⟨none, .store 1 (.t 1) (.c (.string ⟨#[]⟩)), none⟩]))))
  (.seq (.ops [⟨(some 21), .mv (.t 0), none⟩, ⟨(some 22), .mv (.t 3), none⟩, ⟨(some 23), .callv (.t 21) [(.t 22)], none⟩, ⟨(some 24), .not (.t 23), none⟩])
  (.cond (.t 24) .ret .skip))))))))
def r58 : List RV := []
theorem fn58 : cFn Tryd.prog 58 = some (c58, r58, 25) := by kernel_rfl

/-- strings.IndexByte -/
def c59 : MC :=
  (.seq (.ops [⟨(some 4), .mv (.c (.int .i64 0)), none⟩])
  (.seq (.ops [⟨(some 5), .mv (.t 0), none⟩, ⟨(some 6), .mv (.t 1), none⟩, ⟨(some 7), .call 77 [(.t 5), (.t 6)], none⟩, ⟨(some 4), .mv (.t 7), none⟩])
  .ret))
def r59 : List RV := [.t 4]
theorem fn59 : cFn Tryd.prog 59 = some (c59, r59, 8) := by kernel_rfl

/-- internal/stringslite.CutSuffix -/
def c60 : MC :=
  (.seq (.ops [⟨(some 4), .mv (.c (.string ⟨#[]⟩)), none⟩, ⟨(some 5), .mv (.c (.bool false)), none⟩])
  (.seq (.seq (.ops [⟨(some 6), .mv (.t 0), none⟩, ⟨(some 7), .mv (.t 1), none⟩, ⟨(some 8), .call 78 [(.t 6), (.t 7)], none⟩, ⟨(some 9), .not (.t 8), none⟩])
  (.cond (.t 9) (.seq (.ops [⟨(some 10), .mv (.t 0), none⟩, ⟨(some 4), .mv (.t 10), none⟩, ⟨(some 5), .mv (.c (.bool false)), none⟩])
  .ret) .skip))
  (.seq (.ops [⟨(some 11), .mv (.t 0), none⟩, ⟨(some 12), .mv (.t 0), none⟩, ⟨(some 13), .len true (.t 12), none⟩, ⟨(some 14), .mv (.t 1), none⟩, ⟨(some 15), .len true (.t 14), none⟩, ⟨(some 16), .bin .sub (.t 13) (.t 15), none⟩, ⟨(some 17), .slcS (.t 11) none (some (.t 16)), none⟩, ⟨(some 4), .mv (.t 17), none⟩, ⟨(some 5), .mv (.c (.bool true)), none⟩])
  .ret)))
def r60 : List RV := [.t 4, .t 5]
theorem fn60 : cFn Tryd.prog 60 = some (c60, r60, 18) := by kernel_rfl

/-- dynamo/grid.sized$1 -/
def c61 : MC :=
  (.seq (.ops [⟨(some 2), .mv (.c (.bool false)), none⟩])
  (.seq (.ops [⟨(some 3), .mv (.t 0), none⟩, ⟨(some 4), .bin .geq (.t 3) (.c (.int .i64 1)), none⟩, ⟨(some 5), .mv (.t 4), none⟩, ⟨(some 6), .mv (.t 0), (some (5, true))⟩, ⟨(some 7), .bin .leq (.t 6) (.c (.int .i64 8)), (some (5, true))⟩, ⟨(some 8), .pick (.t 5) (.t 7) (.c (.bool false)), none⟩, ⟨(some 2), .mv (.t 8), none⟩])
  .ret))
def r61 : List RV := [.t 2]
theorem fn61 : cFn Tryd.prog 61 = some (c61, r61, 9) := by kernel_rfl

/-- strings.Trim -/
def c62 : MC :=
  (.seq (.ops [⟨(some 4), .mv (.c (.string ⟨#[]⟩)), none⟩])
  (.seq (.seq (.ops [⟨(some 7), .mv (.t 0), none⟩, ⟨(some 8), .bin .eql (.t 7) (.c (.string ⟨#[]⟩)), none⟩, ⟨(some 9), .mv (.t 8), none⟩, ⟨(some 10), .mv (.t 1), (some (9, false))⟩, ⟨(some 11), .bin .eql (.t 10) (.c (.string ⟨#[]⟩)), (some (9, false))⟩, ⟨(some 12), .pick (.t 9) (.c (.bool true)) (.t 11), none⟩])
  (.cond (.t 12) (.seq (.ops [⟨(some 13), .mv (.t 0), none⟩, ⟨(some 4), .mv (.t 13), none⟩])
  .ret) .skip))
  (.seq (.seq (.ops [⟨(some 14), .mv (.t 1), none⟩, ⟨(some 15), .len true (.t 14), none⟩, ⟨(some 16), .bin .eql (.t 15) (.c (.int .i64 1)), none⟩, ⟨(some 17), .mv (.t 16), none⟩, ⟨(some 18), .mv (.t 1), (some (17, true))⟩, ⟨(some 19), .idxS (.t 18) (.c (.int .i64 0)), (some (17, true))⟩, ⟨(some 20), .bin .lss (.t 19) (.c (.int .u8 128)), (some (17, true))⟩, ⟨(some 21), .pick (.t 17) (.t 20) (.c (.bool false)), none⟩])
  (.cond (.t 21) (.seq (.dops [⟨⟨(some 22), .mv (.t 0), none⟩, 0, false, false⟩, ⟨⟨(some 23), .mv (.t 1), none⟩, 1, false, false⟩, ⟨⟨(some 24), .idxS (.t 23) (.c (.int .i64 0)), none⟩, 2, false, false⟩, ⟨⟨(some 26), .mv (.t 1), none⟩, 4, false, false⟩, ⟨⟨(some 27), .idxS (.t 26) (.c (.int .i64 0)), none⟩, 5, false, false⟩, ⟨⟨(some 25), .call 80 [(.t 22), (.t 24)], none⟩, 3, true, false⟩, ⟨⟨(some 28), .call 79 [(.t 25), (.t 27)], none⟩, 6, true, false⟩, ⟨⟨(some 4), .mv (.t 28), none⟩, 7, false, false⟩])
  .ret) .skip))
  (.seq (.seq (.ops [⟨(some 30), .mv (.t 1), none⟩, ⟨(some 31), .call 81 [(.t 30)], none⟩, ⟨(some 29), .mv (.t 31), none⟩, ⟨(some 32), .ext (.t 29) 0, none⟩, ⟨(some 33), .ext (.t 29) 1, none⟩, ⟨(some 5), .alloc (List.replicate 256 (.bool false)), none⟩, ⟨none, .store 256 (.t 5) (.t 32), none⟩, ⟨(some 6), .mv (.t 33), none⟩])
  (.seq (.ops [⟨(some 34), .mv (.t 6), none⟩])
  (.cond (.t 34) (.seq (.ops [⟨(some 35), .mv (.t 0), none⟩, ⟨(some 36), .call 83 [(.t 35), (.t 5)], none⟩, ⟨(some 37), .call 82 [(.t 36), (.t 5)], none⟩, ⟨(some 4), .mv (.t 37), none⟩])
  .ret) .skip)))
  (.seq (.ops [⟨(some 38), .mv (.t 0), none⟩, ⟨(some 39), .mv (.t 1), none⟩, ⟨(some 40), .call 85 [(.t 38), (.t 39)], none⟩, ⟨(some 41), .mv (.t 1), none⟩, ⟨(some 42), .call 84 [(.t 40), (.t 41)], none⟩, ⟨(some 4), .mv (.t 42), none⟩])
  .ret)))))
def r62 : List RV := [.t 4]
theorem fn62 : cFn Tryd.prog 62 = some (c62, r62, 43) := by kernel_rfl

/-- strings.ContainsFunc -/
def c63 : MC :=
  (.seq (.ops [⟨(some 4), .mv (.c (.bool false)), none⟩])
  (.seq (.ops [⟨(some 5), .mv (.t 0), none⟩, ⟨(some 6), .mv (.t 1), none⟩, ⟨(some 7), .call 86 [(.t 5), (.t 6)], none⟩, ⟨(some 8), .bin .geq (.t 7) (.c (.int .i64 0)), none⟩, ⟨(some 4), .mv (.t 8), none⟩])
  .ret))
def r63 : List RV := [.t 4]
theorem fn63 : cFn Tryd.prog 63 = some (c63, r63, 9) := by kernel_rfl

/-- dynamo/grid.sized$2 -/
def c64 : MC :=
  (.seq (.ops [⟨(some 2), .mv (.c (.bool false)), none⟩])
  (.seq (.ops [⟨(some 3), .mv (.t 0), none⟩, ⟨(some 4), .call 65 [(.c (.string ⟨#[35, 46, 67, 80]⟩)), (.t 3)], none⟩, ⟨(some 5), .not (.t 4), none⟩, ⟨(some 2), .mv (.t 5), none⟩])
  .ret))
def r64 : List RV := [.t 2]
theorem fn64 : cFn Tryd.prog 64 = some (c64, r64, 6) := by kernel_rfl

/-- strings.ContainsRune -/
def c65 : MC :=
  (.seq (.ops [⟨(some 4), .mv (.c (.bool false)), none⟩])
  (.seq (.ops [⟨(some 5), .mv (.t 0), none⟩, ⟨(some 6), .mv (.t 1), none⟩, ⟨(some 7), .call 87 [(.t 5), (.t 6)], none⟩, ⟨(some 8), .bin .geq (.t 7) (.c (.int .i64 0)), none⟩, ⟨(some 4), .mv (.t 8), none⟩])
  .ret))
def r65 : List RV := [.t 4]
theorem fn65 : cFn Tryd.prog 65 = some (c65, r65, 9) := by kernel_rfl

/-- (dynamo/grid.Map).near -/
def c67 : MC :=
  (.seq (.ops [⟨(some 2), .box (.t 0), none⟩, ⟨(some 4), .mv (.c (.slice none 0 0)), none⟩])
  (.seq (.ops [⟨(some 5), .alloc [(.slice none 0 0)], none⟩])
  (.seq (.ops [⟨(some 8), .mkf (.func 91) [] [(.t 2), (.t 5)], none⟩, ⟨(some 6), .mv (.t 8), none⟩])
  (.seq (.ops [⟨(some 9), .mv (.t 1), none⟩, ⟨(some 10), .fadd 0 (.t 2), none⟩, ⟨(some 11), .load1 (.t 10), none⟩, ⟨(some 12), .bin .rem (.t 9) (.t 11), none⟩, ⟨(some 7), .mv (.t 12), none⟩])
  (.seq (.ops [⟨(some 13), .mv (.t 6), none⟩, ⟨(some 14), .mv (.t 1), none⟩, ⟨(some 15), .fadd 0 (.t 2), none⟩, ⟨(some 16), .load1 (.t 15), none⟩, ⟨(some 17), .bin .sub (.t 14) (.t 16), none⟩, ⟨(some 18), .callv (.t 13) [(.t 17), (.c (.bool true))], none⟩])
  (.seq (.ops [⟨(some 19), .mv (.t 6), none⟩, ⟨(some 20), .mv (.t 1), none⟩, ⟨(some 21), .bin .sub (.t 20) (.c (.int .i64 1)), none⟩, ⟨(some 22), .mv (.t 7), none⟩, ⟨(some 23), .bin .gtr (.t 22) (.c (.int .i64 0)), none⟩, ⟨(some 24), .callv (.t 19) [(.t 21), (.t 23)], none⟩])
  (.seq (.ops [⟨(some 25), .mv (.t 6), none⟩, ⟨(some 26), .mv (.t 1), none⟩, ⟨(some 27), .bin .add (.t 26) (.c (.int .i64 1)), none⟩, ⟨(some 28), .mv (.t 7), none⟩, ⟨(some 29), .fadd 0 (.t 2), none⟩, ⟨(some 30), .load1 (.t 29), none⟩, ⟨(some 31), .bin .sub (.t 30) (.c (.int .i64 1)), none⟩, ⟨(some 32), .bin .lss (.t 28) (.t 31), none⟩, ⟨(some 33), .callv (.t 25) [(.t 27), (.t 32)], none⟩])
  (.seq (.ops [⟨(some 34), .mv (.t 6), none⟩, ⟨(some 35), .mv (.t 1), none⟩, ⟨(some 36), .fadd 0 (.t 2), none⟩, ⟨(some 37), .load1 (.t 36), none⟩, ⟨(some 38), .bin .add (.t 35) (.t 37), none⟩, ⟨(some 39), .callv (.t 34) [(.t 38), (.c (.bool true))], none⟩])
  (.seq (.ops [⟨(some 40), .load1 (.t 5), none⟩, ⟨(some 4), .mv (.t 40), none⟩])
  .ret)))))))))
def r67 : List RV := [.t 4]
theorem fn67 : cFn Tryd.prog 67 = some (c67, r67, 41) := by kernel_rfl

/-- internal/strconv.Itoa -/
def c70 : MC :=
  (.seq (.ops [⟨(some 2), .mv (.c (.string ⟨#[]⟩)), none⟩])
  (.seq (.ops [⟨(some 3), .mv (.t 0), none⟩, ⟨(some 4), .call 92 [(.t 3), (.c (.int .i64 10))], none⟩, ⟨(some 2), .mv (.t 4), none⟩])
  .ret))
def r70 : List RV := [.t 2]
theorem fn70 : cFn Tryd.prog 70 = some (c70, r70, 5) := by kernel_rfl

/-- strings.genSplit -/
def c71 : MC :=
  (.seq (.ops [⟨(some 8), .mv (.c (.slice none 0 0)), none⟩])
  (.seq (.seq (.ops [⟨(some 12), .mv (.t 3), none⟩, ⟨(some 13), .bin .eql (.t 12) (.c (.int .i64 0)), none⟩])
  (.cond (.t 13) (.seq (.ops [⟨(some 8), .mv (.c (.slice none 0 0)), none⟩])
  .ret) .skip))
  (.seq (.seq (.ops [⟨(some 14), .mv (.t 1), none⟩, ⟨(some 15), .bin .eql (.t 14) (.c (.string ⟨#[]⟩)), none⟩])
  (.cond (.t 15) (.seq (.ops [⟨(some 16), .mv (.t 0), none⟩, ⟨(some 17), .mv (.t 3), none⟩, ⟨(some 18), .call 93 [(.t 16), (.t 17)], none⟩, ⟨(some 8), .mv (.t 18), none⟩])
  .ret) .skip))
  (.seq (.seq (.ops [⟨(some 19), .mv (.t 3), none⟩, ⟨(some 20), .bin .lss (.t 19) (.c (.int .i64 0)), none⟩])
  (.cond (.t 20) (.ops [⟨(some 21), .mv (.t 0), none⟩, ⟨(some 22), .mv (.t 1), none⟩, ⟨(some 23), .call 41 [(.t 21), (.t 22)], none⟩, ⟨(some 24), .bin .add (.t 23) (.c (.int .i64 1)), none⟩, ⟨(some 3), .mv (.t 24), none⟩]) .skip))
  (.seq (.ops [⟨(some 25), .mv (.t 3), none⟩, ⟨(some 26), .mv (.t 0), none⟩, ⟨(some 27), .len true (.t 26), none⟩, ⟨(some 28), .bin .add (.t 27) (.c (.int .i64 1)), none⟩, ⟨(some 29), .min2 (.t 25) (.t 28), none⟩, ⟨(some 3), .mv (.t 29), none⟩])
  (.seq (.ops [⟨(some 30), .mv (.t 3), none⟩, ⟨(some 31), .mks 1 16 [(.string ⟨#[]⟩)] (.t 30) (.t 30), none⟩, ⟨(some 9), .mv (.t 31), none⟩])
  (.seq (.ops [⟨(some 32), .mv (.t 3), none⟩, ⟨(some 33), .bin .sub (.t 32) (.c (.int .i64 1)), none⟩, ⟨(some 3), .mv (.t 33), none⟩])
  (.seq (.ops [⟨(some 10), .mv (.c (.int .i64 0)), none⟩])
  (.seq (.block 0 (.loop (.seq (.seq (.ops [⟨(some 34), .mv (.t 10), none⟩, ⟨(some 35), .mv (.t 3), none⟩, ⟨(some 36), .bin .lss (.t 34) (.t 35), none⟩])
  (.cond (.t 36) .skip (.exit 0)))
  (.block 1 (.seq (.ops [⟨(some 37), .mv (.t 0), none⟩, ⟨(some 38), .mv (.t 1), none⟩, ⟨(some 39), .call 39 [(.t 37), (.t 38)], none⟩, ⟨(some 11), .mv (.t 39), none⟩])
  (.seq (.seq (.ops [⟨(some 40), .mv (.t 11), none⟩, ⟨(some 41), .bin .lss (.t 40) (.c (.int .i64 0)), none⟩])
  (.cond (.t 41) (.exit 0) .skip))
  (.seq (.ops [⟨(some 42), .mv (.t 9), none⟩, ⟨(some 43), .mv (.t 10), none⟩, ⟨(some 44), .mv (.t 0), none⟩, ⟨(some 45), .mv (.t 11), none⟩, ⟨(some 46), .mv (.t 2), none⟩, ⟨(some 47), .bin .add (.t 45) (.t 46), none⟩, ⟨(some 48), .slcS (.t 44) none (some (.t 47)), none⟩, ⟨(some 49), .iaS 1 (.t 42) (.t 43), none⟩, ⟨none, .store 1 (.t 49) (.t 48), none⟩])
  (.seq (.ops [⟨(some 50), .mv (.t 0), none⟩, ⟨(some 51), .mv (.t 11), none⟩, ⟨(some 52), .mv (.t 1), none⟩, ⟨(some 53), .len true (.t 52), none⟩, ⟨(some 54), .bin .add (.t 51) (.t 53), none⟩, ⟨(some 55), .slcS (.t 50) (some (.t 54)) none, none⟩, ⟨(some 0), .mv (.t 55), none⟩])
  (.ops [⟨(some 56), .mv (.t 10), none⟩, ⟨(some 57), .bin .add (.t 56) (.c (.int .i64 1)), none⟩, ⟨(some 10), .mv (.t 57), none⟩])))))))))
  (.seq (.ops [⟨(some 58), .mv (.t 9), none⟩, ⟨(some 59), .mv (.t 10), none⟩, ⟨(some 60), .mv (.t 0), none⟩, ⟨(some 61), .iaS 1 (.t 58) (.t 59), none⟩, ⟨none, .store 1 (.t 61) (.t 60), none⟩])
  (.seq (.ops [⟨(some 62), .mv (.t 9), none⟩, ⟨(some 63), .mv (.t 10), none⟩, ⟨(some 64), .bin .add (.t 63) (.c (.int .i64 1)), none⟩, ⟨(some 65), .slc 1 (.t 62) none (some (.t 64)) none, none⟩, ⟨(some 8), .mv (.t 65), none⟩])
  .ret)))))))))))
def r71 : List RV := [.t 8]
theorem fn71 : cFn Tryd.prog 71 = some (c71, r71, 66) := by kernel_rfl

/-- strconv.Atoi -/
def c72 : MC :=
  (.seq (.ops [⟨(some 2), .mv (.c (.int .i64 0)), none⟩, ⟨(some 3), .mv (.c .nilIface), none⟩])
  (.seq (.ops [⟨(some 7), .mv (.t 0), none⟩, ⟨(some 8), .call 94 [(.t 7)], none⟩, ⟨(some 6), .mv (.t 8), none⟩, ⟨(some 9), .ext (.t 6) 0, none⟩, ⟨(some 10), .ext (.t 6) 1, none⟩, ⟨(some 4), .mv (.t 9), none⟩, ⟨(some 5), .mv (.t 10), none⟩])
  (.seq (.seq (.ops [⟨(some 11), .mv (.t 5), none⟩, ⟨(some 12), .eqN .iface true (.t 11) (.c .nilIface), none⟩])
  (.cond (.t 12) (.seq (.ops [⟨(some 13), .mv (.t 4), none⟩, ⟨(some 14), .mv (.t 0), none⟩, ⟨(some 15), .mv (.t 5), none⟩, ⟨(some 16), .call 95 [(.c (.string ⟨#[65, 116, 111, 105]⟩)), (.t 14), (.c (.int .i64 0)), (.c (.int .i64 0)), (.t 15)], none⟩, ⟨(some 2), .mv (.t 13), none⟩, ⟨(some 3), .mv (.t 16), none⟩])
  .ret) .skip))
  (.seq (.ops [⟨(some 17), .mv (.t 4), none⟩, ⟨(some 2), .mv (.t 17), none⟩, ⟨(some 3), .mv (.c .nilIface), none⟩])
  .ret))))
def r72 : List RV := [.t 2, .t 3]
theorem fn72 : cFn Tryd.prog 72 = some (c72, r72, 18) := by kernel_rfl

/-- internal/stringslite.IndexByte -/
def c77 : MC :=
  (.seq (.ops [⟨(some 4), .mv (.c (.int .i64 0)), none⟩])
  (.seq (.ops [⟨(some 5), .mv (.t 0), none⟩, ⟨(some 6), .mv (.t 1), none⟩, ⟨(some 7), .call 96 [(.t 5), (.t 6)], none⟩, ⟨(some 4), .mv (.t 7), none⟩])
  .ret))
def r77 : List RV := [.t 4]
theorem fn77 : cFn Tryd.prog 77 = some (c77, r77, 8) := by kernel_rfl

/-- internal/stringslite.HasSuffix -/
def c78 : MC :=
  (.seq (.ops [⟨(some 4), .mv (.c (.bool false)), none⟩])
  (.seq (.ops [⟨(some 5), .mv (.t 0), none⟩, ⟨(some 6), .len true (.t 5), none⟩, ⟨(some 7), .mv (.t 1), none⟩, ⟨(some 8), .len true (.t 7), none⟩, ⟨(some 9), .bin .geq (.t 6) (.t 8), none⟩, ⟨(some 10), .mv (.t 9), none⟩, ⟨(some 11), .mv (.t 0), (some (10, true))⟩, ⟨(some 12), .mv (.t 0), (some (10, true))⟩, ⟨(some 13), .len true (.t 12), (some (10, true))⟩, ⟨(some 14), .mv (.t 1), (some (10, true))⟩, ⟨(some 15), .len true (.t 14), (some (10, true))⟩, ⟨(some 16), .bin .sub (.t 13) (.t 15), (some (10, true))⟩, ⟨(some 17), .slcS (.t 11) (some (.t 16)) none, (some (10, true))⟩, ⟨(some 18), .mv (.t 1), (some (10, true))⟩, ⟨(some 19), .bin .eql (.t 17) (.t 18), (some (10, true))⟩, ⟨(some 20), .pick (.t 10) (.t 19) (.c (.bool false)), none⟩, ⟨(some 4), .mv (.t 20), none⟩])
  .ret))
def r78 : List RV := [.t 4]
theorem fn78 : cFn Tryd.prog 78 = some (c78, r78, 21) := by kernel_rfl

/-- strings.trimLeftByte -/
def c79 : MC :=
  (.seq (.ops [⟨(some 4), .mv (.c (.string ⟨#[]⟩)), none⟩])
  (.seq (.block 0 (.loop (.seq (.seq (.ops [⟨(some 5), .mv (.t 0), none⟩, ⟨(some 6), .len true (.t 5), none⟩, ⟨(some 7), .bin .gtr (.t 6) (.c (.int .i64 0)), none⟩, ⟨(some 8), .mv (.t 7), none⟩, ⟨(some 9), .mv (.t 0), (some (8, true))⟩, ⟨(some 10), .idxS (.t 9) (.c (.int .i64 0)), (some (8, true))⟩, ⟨(some 11), .mv (.t 1), (some (8, true))⟩, ⟨(some 12), .bin .eql (.t 10) (.t 11), (some (8, true))⟩, ⟨(some 13), .pick (.t 8) (.t 12) (.c (.bool false)), none⟩])
  (.cond (.t 13) .skip (.exit 0)))
  (.block 1 (.ops [⟨(some 14), .mv (.t 0), none⟩, ⟨(some 15), .slcS (.t 14) (some (.c (.int .i64 1))) none, none⟩, ⟨(some 0), .mv (.t 15), none⟩])))))
  (.seq (.ops [⟨(some 16), .mv (.t 0), none⟩, ⟨(some 4), .mv (.t 16), none⟩])
  .ret)))
def r79 : List RV := [.t 4]
theorem fn79 : cFn Tryd.prog 79 = some (c79, r79, 17) := by kernel_rfl

/-- strings.trimRightByte -/
def c80 : MC :=
  (.seq (.ops [⟨(some 4), .mv (.c (.string ⟨#[]⟩)), none⟩])
  (.seq (.block 0 (.loop (.seq (.seq (.ops [⟨(some 5), .mv (.t 0), none⟩, ⟨(some 6), .len true (.t 5), none⟩, ⟨(some 7), .bin .gtr (.t 6) (.c (.int .i64 0)), none⟩, ⟨(some 8), .mv (.t 7), none⟩, ⟨(some 9), .mv (.t 0), (some (8, true))⟩, ⟨(some 10), .mv (.t 0), (some (8, true))⟩, ⟨(some 11), .len true (.t 10), (some (8, true))⟩, ⟨(some 12), .bin .sub (.t 11) (.c (.int .i64 1)), (some (8, true))⟩, ⟨(some 13), .idxS (.t 9) (.t 12), (some (8, true))⟩, ⟨(some 14), .mv (.t 1), (some (8, true))⟩, ⟨(some 15), .bin .eql (.t 13) (.t 14), (some (8, true))⟩, ⟨(some 16), .pick (.t 8) (.t 15) (.c (.bool false)), none⟩])
  (.cond (.t 16) .skip (.exit 0)))
  (.block 1 (.ops [⟨(some 17), .mv (.t 0), none⟩, ⟨(some 18), .mv (.t 0), none⟩, ⟨(some 19), .len true (.t 18), none⟩, ⟨(some 20), .bin .sub (.t 19) (.c (.int .i64 1)), none⟩, ⟨(some 21), .slcS (.t 17) none (some (.t 20)), none⟩, ⟨(some 0), .mv (.t 21), none⟩])))))
  (.seq (.ops [⟨(some 22), .mv (.t 0), none⟩, ⟨(some 4), .mv (.t 22), none⟩])
  .ret)))
def r80 : List RV := [.t 4]
theorem fn80 : cFn Tryd.prog 80 = some (c80, r80, 23) := by kernel_rfl

/-- strings.makeASCIISet -/
def c81 : MC :=
  (.seq (.ops [⟨(some 2), .alloc (List.replicate 256 (.bool false)), none⟩, ⟨(some 3), .mv (.c (.bool false)), none⟩])
  (.seq (.seq (.ops [⟨(some 4), .mv (.c (.int .i64 0)), none⟩])
  (.block 0 (.loop (.seq (.seq (.ops [⟨(some 6), .mv (.t 4), none⟩, ⟨(some 7), .mv (.t 0), none⟩, ⟨(some 8), .len true (.t 7), none⟩, ⟨(some 9), .bin .lss (.t 6) (.t 8), none⟩])
  (.cond (.t 9) .skip (.exit 0)))
  (.seq (.block 1 (.seq (.ops [⟨(some 12), .mv (.t 0), none⟩, ⟨(some 13), .mv (.t 4), none⟩, ⟨(some 14), .idxS (.t 12) (.t 13), none⟩, ⟨(some 5), .mv (.t 14), none⟩])
  (.seq (.seq (.ops [⟨(some 15), .mv (.t 5), none⟩, ⟨(some 16), .bin .geq (.t 15) (.c (.int .u8 128)), none⟩])
  (.cond (.t 16) (.seq (.ops [⟨(some 17), .loadN 256 (.t 2), none⟩, ⟨none, .store 256 (.t 2) (.t 17), none⟩, ⟨(some 3), .mv (.c (.bool false)), none⟩])
  .ret) .skip))
  (.ops [⟨(some 18), .mv (.t 5), none⟩, ⟨(some 19), .iaA 256 1 (.t 2) (.t 18), none⟩, ⟨none, .store 1 (.t 19) (.c (.bool true)), none⟩]))))
  (.ops [⟨(some 10), .mv (.t 4), none⟩, ⟨(some 11), .bin .add (.t 10) (.c (.int .i64 1)), none⟩, ⟨(some 4), .mv (.t 11), none⟩]))))))
  (.seq (.ops [⟨(some 20), .loadN 256 (.t 2), none⟩, ⟨none, .store 256 (.t 2) (.t 20), none⟩, ⟨(some 3), .mv (.c (.bool true)), none⟩])
  .ret)))
def r81 : List RV := [.cell 2 256 true, .t 3]
theorem fn81 : cFn Tryd.prog 81 = some (c81, r81, 21) := by kernel_rfl

/-- strings.trimLeftASCII -/
def c82 : MC :=
  (.seq (.ops [⟨(some 4), .mv (.c (.string ⟨#[]⟩)), none⟩])
  (.seq (.block 0 (.loop (.seq (.seq (.ops [⟨(some 5), .mv (.t 0), none⟩, ⟨(some 6), .len true (.t 5), none⟩, ⟨(some 7), .bin .gtr (.t 6) (.c (.int .i64 0)), none⟩])
  (.cond (.t 7) .skip (.exit 0)))
  (.block 1 (.seq (.seq (.ops [⟨(some 8), .mv (.t 1), none⟩, ⟨(some 9), .mv (.t 0), none⟩, ⟨(some 10), .idxS (.t 9) (.c (.int .i64 0)), none⟩, ⟨(some 11), .call 97 [(.t 8), (.t 10)], none⟩, ⟨(some 12), .not (.t 11), none⟩])
  (.cond (.t 12) (.exit 0) .skip))
  (.ops [⟨(some 13), .mv (.t 0), none⟩, ⟨(some 14), .slcS (.t 13) (some (.c (.int .i64 1))) none, none⟩, ⟨(some 0), .mv (.t 14), none⟩]))))))
  (.seq (.ops [⟨(some 15), .mv (.t 0), none⟩, ⟨(some 4), .mv (.t 15), none⟩])
  .ret)))
def r82 : List RV := [.t 4]
theorem fn82 : cFn Tryd.prog 82 = some (c82, r82, 16) := by kernel_rfl

/-- strings.trimRightASCII -/
def c83 : MC :=
  (.seq (.ops [⟨(some 4), .mv (.c (.string ⟨#[]⟩)), none⟩])
  (.seq (.block 0 (.loop (.seq (.seq (.ops [⟨(some 5), .mv (.t 0), none⟩, ⟨(some 6), .len true (.t 5), none⟩, ⟨(some 7), .bin .gtr (.t 6) (.c (.int .i64 0)), none⟩])
  (.cond (.t 7) .skip (.exit 0)))
  (.block 1 (.seq (.seq (.ops [⟨(some 8), .mv (.t 1), none⟩, ⟨(some 9), .mv (.t 0), none⟩, ⟨(some 10), .mv (.t 0), none⟩, ⟨(some 11), .len true (.t 10), none⟩, ⟨(some 12), .bin .sub (.t 11) (.c (.int .i64 1)), none⟩, ⟨(some 13), .idxS (.t 9) (.t 12), none⟩, ⟨(some 14), .call 97 [(.t 8), (.t 13)], none⟩, ⟨(some 15), .not (.t 14), none⟩])
  (.cond (.t 15) (.exit 0) .skip))
  (.ops [⟨(some 16), .mv (.t 0), none⟩, ⟨(some 17), .mv (.t 0), none⟩, ⟨(some 18), .len true (.t 17), none⟩, ⟨(some 19), .bin .sub (.t 18) (.c (.int .i64 1)), none⟩, ⟨(some 20), .slcS (.t 16) none (some (.t 19)), none⟩, ⟨(some 0), .mv (.t 20), none⟩]))))))
  (.seq (.ops [⟨(some 21), .mv (.t 0), none⟩, ⟨(some 4), .mv (.t 21), none⟩])
  .ret)))
def r83 : List RV := [.t 4]
theorem fn83 : cFn Tryd.prog 83 = some (c83, r83, 22) := by kernel_rfl

/-- strings.trimLeftUnicode -/
def c84 : MC :=
  (.seq (.ops [⟨(some 4), .mv (.c (.string ⟨#[]⟩)), none⟩])
  (.seq (.block 0 (.loop (.seq (.seq (.ops [⟨(some 7), .mv (.t 0), none⟩, ⟨(some 8), .len true (.t 7), none⟩, ⟨(some 9), .bin .gtr (.t 8) (.c (.int .i64 0)), none⟩])
  (.cond (.t 9) .skip (.exit 0)))
  (.block 1 (.seq (.ops [⟨(some 11), .mv (.t 0), none⟩, ⟨(some 12), .call 98 [(.t 11)], none⟩, ⟨(some 10), .mv (.t 12), none⟩, ⟨(some 13), .ext (.t 10) 0, none⟩, ⟨(some 14), .ext (.t 10) 1, none⟩, ⟨(some 5), .mv (.t 13), none⟩, ⟨(some 6), .mv (.t 14), none⟩])
  (.seq (.seq (.ops [⟨(some 15), .mv (.t 1), none⟩, ⟨(some 16), .mv (.t 5), none⟩, ⟨(some 17), .call 65 [(.t 15), (.t 16)], none⟩, ⟨(some 18), .not (.t 17), none⟩])
  (.cond (.t 18) (.exit 0) .skip))
  (.ops [⟨(some 19), .mv (.t 0), none⟩, ⟨(some 20), .mv (.t 6), none⟩, ⟨(some 21), .slcS (.t 19) (some (.t 20)) none, none⟩, ⟨(some 0), .mv (.t 21), none⟩])))))))
  (.seq (.ops [⟨(some 22), .mv (.t 0), none⟩, ⟨(some 4), .mv (.t 22), none⟩])
  .ret)))
def r84 : List RV := [.t 4]
theorem fn84 : cFn Tryd.prog 84 = some (c84, r84, 23) := by kernel_rfl

/-- strings.trimRightUnicode -/
def c85 : MC :=
  (.seq (.ops [⟨(some 4), .mv (.c (.string ⟨#[]⟩)), none⟩])
  (.seq (.block 0 (.loop (.seq (.seq (.ops [⟨(some 7), .mv (.t 0), none⟩, ⟨(some 8), .len true (.t 7), none⟩, ⟨(some 9), .bin .gtr (.t 8) (.c (.int .i64 0)), none⟩])
  (.cond (.t 9) .skip (.exit 0)))
  (.block 1 (.seq (.ops [⟨(some 10), .mv (.t 0), none⟩, ⟨(some 11), .mv (.t 0), none⟩, ⟨(some 12), .len true (.t 11), none⟩, ⟨(some 13), .bin .sub (.t 12) (.c (.int .i64 1)), none⟩, ⟨(some 14), .idxS (.t 10) (.t 13), none⟩, ⟨(some 15), .conv .i32 (.t 14), none⟩, ⟨(some 5), .mv (.t 15), none⟩, ⟨(some 6), .mv (.c (.int .i64 1)), none⟩])
  (.seq (.seq (.ops [⟨(some 16), .mv (.t 5), none⟩, ⟨(some 17), .bin .geq (.t 16) (.c (.int .i32 128)), none⟩])
  (.cond (.t 17) (.ops [⟨(some 19), .mv (.t 0), none⟩, ⟨(some 20), .call 99 [(.t 19)], none⟩, ⟨(some 18), .mv (.t 20), none⟩, ⟨(some 21), .ext (.t 18) 0, none⟩, ⟨(some 22), .ext (.t 18) 1, none⟩, ⟨(some 5), .mv (.t 21), none⟩, ⟨(some 6), .mv (.t 22), none⟩]) .skip))
  (.seq (.seq (.ops [⟨(some 23), .mv (.t 1), none⟩, ⟨(some 24), .mv (.t 5), none⟩, ⟨(some 25), .call 65 [(.t 23), (.t 24)], none⟩, ⟨(some 26), .not (.t 25), none⟩])
  (.cond (.t 26) (.exit 0) .skip))
  (.ops [⟨(some 27), .mv (.t 0), none⟩, ⟨(some 28), .mv (.t 0), none⟩, ⟨(some 29), .len true (.t 28), none⟩, ⟨(some 30), .mv (.t 6), none⟩, ⟨(some 31), .bin .sub (.t 29) (.t 30), none⟩, ⟨(some 32), .slcS (.t 27) none (some (.t 31)), none⟩, ⟨(some 0), .mv (.t 32), none⟩]))))))))
  (.seq (.ops [⟨(some 33), .mv (.t 0), none⟩, ⟨(some 4), .mv (.t 33), none⟩])
  .ret)))
def r85 : List RV := [.t 4]
theorem fn85 : cFn Tryd.prog 85 = some (c85, r85, 34) := by kernel_rfl

/-- strings.IndexFunc -/
def c86 : MC :=
  (.seq (.ops [⟨(some 4), .mv (.c (.int .i64 0)), none⟩])
  (.seq (.ops [⟨(some 5), .mv (.t 0), none⟩, ⟨(some 6), .mv (.t 1), none⟩, ⟨(some 7), .call 100 [(.t 5), (.t 6), (.c (.bool true))], none⟩, ⟨(some 4), .mv (.t 7), none⟩])
  .ret))
def r86 : List RV := [.t 4]
theorem fn86 : cFn Tryd.prog 86 = some (c86, r86, 8) := by kernel_rfl

/-- internal/bytealg.Cutover -/
def c89 : MC :=
  (.seq (.ops [⟨(some 2), .mv (.c (.int .i64 0)), none⟩])
  (.seq (.ops [⟨(some 3), .mv (.t 0), none⟩, ⟨(some 4), .bin .add (.t 3) (.c (.int .i64 16)), none⟩, ⟨(some 5), .bin .quo (.t 4) (.c (.int .i64 8)), none⟩, ⟨(some 2), .mv (.t 5), none⟩])
  .ret))
def r89 : List RV := [.t 2]
theorem fn89 : cFn Tryd.prog 89 = some (c89, r89, 6) := by kernel_rfl

/-- (dynamo/grid.Map).near$1 -/
def c91 : MC :=
  (.seq (.ops [⟨(some 6), .mv (.t 1), none⟩, ⟨(some 7), .mv (.t 6), none⟩, ⟨(some 8), .loadN 3 (.t 2), (some (7, true))⟩, ⟨(some 9), .mv (.t 0), (some (7, true))⟩, ⟨(some 10), .call 51 [(.t 8), (.t 9)], (some (7, true))⟩, ⟨(some 11), .pick (.t 7) (.t 10) (.c (.bool false)), none⟩])
  (.cond (.t 11) (.ops [⟨(some 12), .load1 (.t 3), none⟩, ⟨(some 13), .mv (.t 0), none⟩, ⟨(some 14), .bsl 1 1 [(.int .i64 0)] [(0, (.t 13))], none⟩, ⟨(some 15), .app 1 8 (.t 12) (.t 14), none⟩, ⟨none, .store 1 (.t 3) (.t 15), none⟩]) .skip))
def r91 : List RV := []
theorem fn91 : cFn Tryd.prog 91 = some (c91, r91, 16) := by kernel_rfl

/-- internal/strconv.FormatInt -/
def c92 : MC :=
  (.seq (.ops [⟨(some 4), .mv (.c (.string ⟨#[]⟩)), none⟩])
  (.seq (.seq (.ops [⟨(some 10), .mv (.t 1), none⟩, ⟨(some 11), .bin .eql (.t 10) (.c (.int .i64 10)), none⟩])
  (.cond (.t 11) (.seq (.seq (.ops [⟨(some 12), .mv (.t 0), none⟩, ⟨(some 13), .bin .leq (.c (.int .i64 0)) (.t 12), none⟩, ⟨(some 14), .mv (.t 13), none⟩, ⟨(some 15), .mv (.t 0), (some (14, true))⟩, ⟨(some 16), .bin .lss (.t 15) (.c (.int .i64 100)), (some (14, true))⟩, ⟨(some 17), .pick (.t 14) (.t 16) (.c (.bool false)), none⟩])
  (.cond (.t 17) (.seq (.ops [⟨(some 18), .mv (.t 0), none⟩, ⟨(some 19), .call 103 [(.t 18)], none⟩, ⟨(some 4), .mv (.t 19), none⟩])
  .ret) .skip))
  (.seq (.ops [⟨(some 5), .alloc (List.replicate 24 (.int .u8 0)), none⟩])
  (.seq (.ops [⟨(some 20), .mv (.t 0), none⟩, ⟨(some 21), .conv .u64 (.t 20), none⟩, ⟨(some 6), .mv (.t 21), none⟩])
  (.seq (.seq (.ops [⟨(some 22), .mv (.t 0), none⟩, ⟨(some 23), .bin .lss (.t 22) (.c (.int .i64 0)), none⟩])
  (.cond (.t 23) (.ops [⟨(some 24), .mv (.t 6), none⟩, ⟨(some 25), .neg (.t 24), none⟩, ⟨(some 6), .mv (.t 25), none⟩]) .skip))
  (.seq (.ops [⟨(some 26), .mv (.t 6), none⟩, ⟨(some 27), .call 104 [(.t 26)], none⟩, ⟨(some 7), .mv (.t 27), none⟩])
  (.seq (.ops [⟨(some 28), .mv (.t 7), none⟩, ⟨(some 29), .bin .add (.c (.int .i64 1)) (.t 28), none⟩, ⟨(some 30), .slcA 24 1 (.t 5) (some (.c (.int .i64 1))) (some (.t 29)), none⟩, ⟨(some 31), .mv (.t 6), none⟩, ⟨(some 32), .call 105 [(.t 30), (.t 31)], none⟩])
  (.seq (.seq (.ops [⟨(some 33), .mv (.t 0), none⟩, ⟨(some 34), .bin .lss (.t 33) (.c (.int .i64 0)), none⟩])
  (.cond (.t 34) (.seq (.ops [⟨(some 35), .iaA 24 1 (.t 5) (.c (.int .i64 0)), none⟩, ⟨none, .store 1 (.t 35) (.c (.int .u8 45)), none⟩])
  (.seq (.ops [⟨(some 36), .mv (.t 7), none⟩, ⟨(some 37), .bin .add (.c (.int .i64 1)) (.t 36), none⟩, ⟨(some 38), .slcA 24 1 (.t 5) none (some (.t 37)), none⟩, ⟨(some 39), .b2s (.t 38), none⟩, ⟨(some 4), .mv (.t 39), none⟩])
  .ret)) .skip))
  (.seq (.ops [⟨(some 40), .mv (.t 7), none⟩, ⟨(some 41), .bin .add (.c (.int .i64 1)) (.t 40), none⟩, ⟨(some 42), .slcA 24 1 (.t 5) (some (.c (.int .i64 1))) (some (.t 41)), none⟩, ⟨(some 43), .b2s (.t 42), none⟩, ⟨(some 4), .mv (.t 43), none⟩])
  .ret)))))))) .skip))
  (.seq (.ops [⟨(some 45), .mv (.t 0), none⟩, ⟨(some 46), .conv .u64 (.t 45), none⟩, ⟨(some 47), .mv (.t 1), none⟩, ⟨(some 48), .mv (.t 0), none⟩, ⟨(some 49), .bin .lss (.t 48) (.c (.int .i64 0)), none⟩, ⟨(some 50), .call 106 [(.c (.slice none 0 0)), (.t 46), (.t 47), (.t 49), (.c (.bool false))], none⟩, ⟨(some 44), .mv (.t 50), none⟩, ⟨(some 51), .ext (.t 44) 0, none⟩, ⟨(some 52), .ext (.t 44) 1, none⟩, ⟨(some 8), .mv (.t 51), none⟩, ⟨(some 9), .mv (.t 52), none⟩])
  (.seq (.ops [⟨(some 53), .mv (.t 9), none⟩, ⟨(some 4), .mv (.t 53), none⟩])
  .ret))))
def r92 : List RV := [.t 4]
theorem fn92 : cFn Tryd.prog 92 = some (c92, r92, 54) := by kernel_rfl

/-- strings.explode -/
def c93 : MC :=
  (.seq (.ops [⟨(some 4), .mv (.c (.slice none 0 0)), none⟩])
  (.seq (.ops [⟨(some 10), .mv (.t 0), none⟩, ⟨(some 11), .call 68 [(.t 10)], none⟩, ⟨(some 5), .mv (.t 11), none⟩])
  (.seq (.seq (.ops [⟨(some 12), .mv (.t 1), none⟩, ⟨(some 13), .bin .lss (.t 12) (.c (.int .i64 0)), none⟩, ⟨(some 14), .mv (.t 13), none⟩, ⟨(some 15), .mv (.t 1), (some (14, false))⟩, ⟨(some 16), .mv (.t 5), (some (14, false))⟩, ⟨(some 17), .bin .gtr (.t 15) (.t 16), (some (14, false))⟩, ⟨(some 18), .pick (.t 14) (.c (.bool true)) (.t 17), none⟩])
  (.cond (.t 18) (.ops [⟨(some 19), .mv (.t 5), none⟩, ⟨(some 1), .mv (.t 19), none⟩]) .skip))
  (.seq (.ops [⟨(some 20), .mv (.t 1), none⟩, ⟨(some 21), .mks 1 16 [(.string ⟨#[]⟩)] (.t 20) (.t 20), none⟩, ⟨(some 6), .mv (.t 21), none⟩])
  (.seq (.seq (.ops [⟨(some 7), .mv (.c (.int .i64 0)), none⟩])
  (.block 0 (.loop (.seq (.seq (.ops [⟨(some 22), .mv (.t 7), none⟩, ⟨(some 23), .mv (.t 1), none⟩, ⟨(some 24), .bin .sub (.t 23) (.c (.int .i64 1)), none⟩, ⟨(some 25), .bin .lss (.t 22) (.t 24), none⟩])
  (.cond (.t 25) .skip (.exit 0)))
  (.seq (.block 1 (.seq (.ops [⟨(some 29), .mv (.t 0), none⟩, ⟨(some 30), .call 98 [(.t 29)], none⟩, ⟨(some 28), .mv (.t 30), none⟩, ⟨(some 31), .ext (.t 28) 0, none⟩, ⟨(some 32), .ext (.t 28) 1, none⟩, ⟨(some 8), .mv (.t 31), none⟩, ⟨(some 9), .mv (.t 32), none⟩])
  (.seq (.ops [⟨(some 33), .mv (.t 6), none⟩, ⟨(some 34), .mv (.t 7), none⟩, ⟨(some 35), .mv (.t 0), none⟩, ⟨(some 36), .mv (.t 9), none⟩, ⟨(some 37), .slcS (.t 35) none (some (.t 36)), none⟩, ⟨(some 38), .iaS 1 (.t 33) (.t 34), none⟩, ⟨none, .store 1 (.t 38) (.t 37), none⟩])
  (.ops [⟨(some 39), .mv (.t 0), none⟩, ⟨(some 40), .mv (.t 9), none⟩, ⟨(some 41), .slcS (.t 39) (some (.t 40)) none, none⟩, ⟨(some 0), .mv (.t 41), none⟩]))))
  (.ops [⟨(some 26), .mv (.t 7), none⟩, ⟨(some 27), .bin .add (.t 26) (.c (.int .i64 1)), none⟩, ⟨(some 7), .mv (.t 27), none⟩]))))))
  (.seq (.seq (.ops [⟨(some 42), .mv (.t 1), none⟩, ⟨(some 43), .bin .gtr (.t 42) (.c (.int .i64 0)), none⟩])
  (.cond (.t 43) (.ops [⟨(some 44), .mv (.t 6), none⟩, ⟨(some 45), .mv (.t 1), none⟩, ⟨(some 46), .bin .sub (.t 45) (.c (.int .i64 1)), none⟩, ⟨(some 47), .mv (.t 0), none⟩, ⟨(some 48), .iaS 1 (.t 44) (.t 46), none⟩, ⟨none, .store 1 (.t 48) (.t 47), none⟩]) .skip))
  (.seq (.ops [⟨(some 49), .mv (.t 6), none⟩, ⟨(some 4), .mv (.t 49), none⟩])
  .ret)))))))
def r93 : List RV := [.t 4]
theorem fn93 : cFn Tryd.prog 93 = some (c93, r93, 50) := by kernel_rfl

/-- internal/strconv.Atoi -/
def c94 : MC :=
  (.seq (.ops [⟨(some 2), .mv (.c (.int .i64 0)), none⟩, ⟨(some 3), .mv (.c .nilIface), none⟩])
  (.seq (.ops [⟨(some 11), .mv (.t 0), none⟩, ⟨(some 12), .len true (.t 11), none⟩, ⟨(some 4), .mv (.t 12), none⟩])
  (.seq (.seq (.ops [⟨(some 13), .mv (.c (.bool false)), none⟩, ⟨(some 14), .mv (.t 4), (some (13, true))⟩, ⟨(some 15), .bin .lss (.c (.int .i64 0)) (.t 14), (some (13, true))⟩, ⟨(some 16), .mv (.t 15), (some (13, true))⟩, ⟨(some 17), .mv (.t 4), (some (16, true))⟩, ⟨(some 18), .bin .lss (.t 17) (.c (.int .i64 10)), (some (16, true))⟩, ⟨(some 19), .pick (.t 16) (.t 18) (.c (.bool false)), (some (13, true))⟩, ⟨(some 20), .pick (.t 13) (.t 19) (.c (.bool false)), none⟩, ⟨(some 21), .mv (.t 20), none⟩, ⟨(some 22), .mv (.c (.bool true)), (some (21, false))⟩, ⟨(some 23), .mv (.t 4), (some (22, true))⟩, ⟨(some 24), .bin .lss (.c (.int .i64 0)) (.t 23), (some (22, true))⟩, ⟨(some 25), .mv (.t 24), (some (22, true))⟩, ⟨(some 26), .mv (.t 4), (some (25, true))⟩, ⟨(some 27), .bin .lss (.t 26) (.c (.int .i64 19)), (some (25, true))⟩, ⟨(some 28), .pick (.t 25) (.t 27) (.c (.bool false)), (some (22, true))⟩, ⟨(some 29), .pick (.t 22) (.t 28) (.c (.bool false)), (some (21, false))⟩, ⟨(some 30), .pick (.t 21) (.c (.bool true)) (.t 29), none⟩])
  (.cond (.t 30) (.seq (.ops [⟨(some 31), .mv (.t 0), none⟩, ⟨(some 5), .mv (.t 31), none⟩])
  (.seq (.seq (.ops [⟨(some 32), .mv (.t 0), none⟩, ⟨(some 33), .idxS (.t 32) (.c (.int .i64 0)), none⟩, ⟨(some 34), .bin .eql (.t 33) (.c (.int .u8 45)), none⟩, ⟨(some 35), .mv (.t 34), none⟩, ⟨(some 36), .mv (.t 0), (some (35, false))⟩, ⟨(some 37), .idxS (.t 36) (.c (.int .i64 0)), (some (35, false))⟩, ⟨(some 38), .bin .eql (.t 37) (.c (.int .u8 43)), (some (35, false))⟩, ⟨(some 39), .pick (.t 35) (.c (.bool true)) (.t 38), none⟩])
  (.cond (.t 39) (.seq (.ops [⟨(some 40), .mv (.t 0), none⟩, ⟨(some 41), .slcS (.t 40) (some (.c (.int .i64 1))) none, none⟩, ⟨(some 0), .mv (.t 41), none⟩])
  (.seq (.ops [⟨(some 42), .mv (.t 0), none⟩, ⟨(some 43), .len true (.t 42), none⟩, ⟨(some 44), .bin .lss (.t 43) (.c (.int .i64 1)), none⟩])
  (.cond (.t 44) (.seq (.ops [⟨(some 45), .mki 169 (.c (.int .i64 2)), none⟩, ⟨(some 2), .mv (.c (.int .i64 0)), none⟩, ⟨(some 3), .mv (.t 45), none⟩])
  .ret) .skip))) .skip))
  (.seq (.ops [⟨(some 6), .mv (.c (.int .i64 0)), none⟩])
  (.seq (.seq (.ops [⟨(some 46), .mv (.t 0), none⟩, ⟨(some 47), .s2b (.t 46), none⟩, ⟨(some 48), .len false (.t 47), none⟩, ⟨(some 49), .mv (.c (.int .i64 0)), none⟩])
  (.block 0 (.loop (.seq (.ops [⟨(some 50), .bin .lss (.t 49) (.t 48), none⟩])
  (.seq (.cond (.t 50) .skip (.exit 0))
  (.seq (.block 1 (.seq (.ops [⟨(some 51), .iaS 1 (.t 47) (.t 49), none⟩, ⟨(some 52), .load1 (.t 51), none⟩, ⟨(some 8), .mv (.t 52), none⟩])
  (.seq (.ops [⟨(some 53), .mv (.t 8), none⟩, ⟨(some 54), .bin .sub (.t 53) (.c (.int .u8 48)), none⟩, ⟨(some 8), .mv (.t 54), none⟩])
  (.seq (.seq (.ops [⟨(some 55), .mv (.t 8), none⟩, ⟨(some 56), .bin .gtr (.t 55) (.c (.int .u8 9)), none⟩])
  (.cond (.t 56) (.seq (.ops [⟨(some 57), .mki 169 (.c (.int .i64 2)), none⟩, ⟨(some 2), .mv (.c (.int .i64 0)), none⟩, ⟨(some 3), .mv (.t 57), none⟩])
  .ret) .skip))
  (.ops [⟨(some 58), .mv (.t 6), none⟩, ⟨(some 59), .bin .mul (.t 58) (.c (.int .i64 10)), none⟩, ⟨(some 60), .mv (.t 8), none⟩, ⟨(some 61), .conv .i64 (.t 60), none⟩, ⟨(some 62), .bin .add (.t 59) (.t 61), none⟩, ⟨(some 6), .mv (.t 62), none⟩])))))
  (.ops [⟨(some 63), .bin .add (.t 49) (.c (.int .i64 1)), none⟩, ⟨(some 49), .mv (.t 63), none⟩])))))))
  (.seq (.seq (.ops [⟨(some 64), .mv (.t 5), none⟩, ⟨(some 65), .idxS (.t 64) (.c (.int .i64 0)), none⟩, ⟨(some 66), .bin .eql (.t 65) (.c (.int .u8 45)), none⟩])
  (.cond (.t 66) (.ops [⟨(some 67), .mv (.t 6), none⟩, ⟨(some 68), .neg (.t 67), none⟩, ⟨(some 6), .mv (.t 68), none⟩]) .skip))
  (.seq (.ops [⟨(some 69), .mv (.t 6), none⟩, ⟨(some 2), .mv (.t 69), none⟩, ⟨(some 3), .mv (.c .nilIface), none⟩])
  .ret)))))) .skip))
  (.seq (.ops [⟨(some 71), .mv (.t 0), none⟩, ⟨(some 72), .call 107 [(.t 71), (.c (.int .i64 10)), (.c (.int .i64 0))], none⟩, ⟨(some 70), .mv (.t 72), none⟩, ⟨(some 73), .ext (.t 70) 0, none⟩, ⟨(some 74), .ext (.t 70) 1, none⟩, ⟨(some 9), .mv (.t 73), none⟩, ⟨(some 10), .mv (.t 74), none⟩])
  (.seq (.ops [⟨(some 75), .mv (.t 9), none⟩, ⟨(some 76), .mv (.t 10), none⟩, ⟨(some 2), .mv (.t 75), none⟩, ⟨(some 3), .mv (.t 76), none⟩])
  .ret)))))
def r94 : List RV := [.t 2, .t 3]
theorem fn94 : cFn Tryd.prog 94 = some (c94, r94, 77) := by kernel_rfl

/-- strconv.toError -/
def c95 : MC :=
  (.seq (.ops [⟨(some 10), .mv (.c .nilIface), none⟩])
  (.seq (.seq (.ops [⟨(some 11), .mv (.t 4), none⟩])
  (.block 0 (.seq (.ops [⟨(some 13), .mki 169 (.c (.int .i64 2)), none⟩, ⟨(some 14), .bad, none⟩, ⟨(some 12), .mv (.t 14), none⟩])
  (.cond (.t 12) (.seq (.ops [⟨(some 15), .mv (.t 0), none⟩, ⟨(some 16), .mv (.t 1), none⟩, ⟨(some 17), .call 108 [(.t 15), (.t 16)], none⟩, ⟨(some 18), .mki 172 (.t 17), none⟩, ⟨(some 10), .mv (.t 18), none⟩])
  .ret) (.seq (.ops [⟨(some 20), .mki 169 (.c (.int .i64 1)), none⟩, ⟨(some 21), .bad, none⟩, ⟨(some 19), .mv (.t 21), none⟩])
  (.cond (.t 19) (.seq (.ops [⟨(some 22), .mv (.t 0), none⟩, ⟨(some 23), .mv (.t 1), none⟩, ⟨(some 24), .call 109 [(.t 22), (.t 23)], none⟩, ⟨(some 25), .mki 172 (.t 24), none⟩, ⟨(some 10), .mv (.t 25), none⟩])
  .ret) (.seq (.ops [⟨(some 27), .mki 169 (.c (.int .i64 3)), none⟩, ⟨(some 28), .bad, none⟩, ⟨(some 26), .mv (.t 28), none⟩])
  (.cond (.t 26) (.seq (.ops [⟨(some 29), .mv (.t 0), none⟩, ⟨(some 30), .mv (.t 1), none⟩, ⟨(some 31), .mv (.t 2), none⟩, ⟨(some 32), .call 110 [(.t 29), (.t 30), (.t 31)], none⟩, ⟨(some 33), .mki 172 (.t 32), none⟩, ⟨(some 10), .mv (.t 33), none⟩])
  .ret) (.seq (.ops [⟨(some 35), .mki 169 (.c (.int .i64 4)), none⟩, ⟨(some 36), .bad, none⟩, ⟨(some 34), .mv (.t 36), none⟩])
  (.cond (.t 34) (.seq (.ops [⟨(some 37), .mv (.t 0), none⟩, ⟨(some 38), .mv (.t 1), none⟩, ⟨(some 39), .mv (.t 3), none⟩, ⟨(some 40), .call 111 [(.t 37), (.t 38), (.t 39)], none⟩, ⟨(some 41), .mki 172 (.t 40), none⟩, ⟨(some 10), .mv (.t 41), none⟩])
  .ret) .skip))))))))))
  (.seq (.ops [⟨(some 42), .mv (.t 4), none⟩, ⟨(some 10), .mv (.t 42), none⟩])
  .ret)))
def r95 : List RV := [.t 10]
theorem fn95 : cFn Tryd.prog 95 = some (c95, r95, 43) := by kernel_rfl

/-- (*strings.asciiSet).contains -/
def c97 : MC :=
  (.seq (.ops [⟨(some 4), .mv (.c (.bool false)), none⟩])
  (.seq (.ops [⟨(some 5), .mv (.t 0), none⟩, ⟨(some 6), .mv (.t 1), none⟩, ⟨(some 7), .nilck (.t 5), none⟩, ⟨(some 8), .iaA 256 1 (.t 7) (.t 6), none⟩, ⟨(some 9), .load1 (.t 8), none⟩, ⟨(some 4), .mv (.t 9), none⟩])
  .ret))
def r97 : List RV := [.t 4]
theorem fn97 : cFn Tryd.prog 97 = some (c97, r97, 10) := by kernel_rfl

/-- unicode/utf8.DecodeRuneInString -/
def c98 : MC :=
  (.seq (.ops [⟨(some 2), .mv (.c (.int .i32 0)), none⟩, ⟨(some 3), .mv (.c (.int .i64 0)), none⟩])
  (.seq (.seq (.ops [⟨(some 4), .mv (.t 0), none⟩, ⟨(some 5), .bin .neq (.t 4) (.c (.string ⟨#[]⟩)), none⟩, ⟨(some 6), .mv (.t 5), none⟩, ⟨(some 7), .mv (.t 0), (some (6, true))⟩, ⟨(some 8), .idxS (.t 7) (.c (.int .i64 0)), (some (6, true))⟩, ⟨(some 9), .bin .lss (.t 8) (.c (.int .u8 128)), (some (6, true))⟩, ⟨(some 10), .pick (.t 6) (.t 9) (.c (.bool false)), none⟩])
  (.cond (.t 10) (.seq (.ops [⟨(some 11), .mv (.t 0), none⟩, ⟨(some 12), .idxS (.t 11) (.c (.int .i64 0)), none⟩, ⟨(some 13), .conv .i32 (.t 12), none⟩, ⟨(some 2), .mv (.t 13), none⟩, ⟨(some 3), .mv (.c (.int .i64 1)), none⟩])
  .ret) (.ops [⟨(some 15), .mv (.t 0), none⟩, ⟨(some 16), .call 112 [(.t 15)], none⟩, ⟨(some 14), .mv (.t 16), none⟩, ⟨(some 17), .ext (.t 14) 0, none⟩, ⟨(some 18), .ext (.t 14) 1, none⟩, ⟨(some 2), .mv (.t 17), none⟩, ⟨(some 3), .mv (.t 18), none⟩])))
  .ret))
def r98 : List RV := [.t 2, .t 3]
theorem fn98 : cFn Tryd.prog 98 = some (c98, r98, 19) := by kernel_rfl

/-- unicode/utf8.DecodeLastRuneInString -/
def c99 : MC :=
  (.seq (.ops [⟨(some 2), .mv (.c (.int .i32 0)), none⟩, ⟨(some 3), .mv (.c (.int .i64 0)), none⟩])
  (.seq (.ops [⟨(some 7), .mv (.t 0), none⟩, ⟨(some 8), .len true (.t 7), none⟩, ⟨(some 4), .mv (.t 8), none⟩])
  (.seq (.seq (.ops [⟨(some 9), .mv (.t 4), none⟩, ⟨(some 10), .bin .eql (.t 9) (.c (.int .i64 0)), none⟩])
  (.cond (.t 10) (.seq (.ops [⟨(some 2), .mv (.c (.int .i32 65533)), none⟩, ⟨(some 3), .mv (.c (.int .i64 0)), none⟩])
  .ret) .skip))
  (.seq (.ops [⟨(some 11), .mv (.t 4), none⟩, ⟨(some 12), .bin .sub (.t 11) (.c (.int .i64 1)), none⟩, ⟨(some 5), .mv (.t 12), none⟩])
  (.seq (.ops [⟨(some 13), .mv (.t 0), none⟩, ⟨(some 14), .mv (.t 5), none⟩, ⟨(some 15), .idxS (.t 13) (.t 14), none⟩, ⟨(some 16), .conv .i32 (.t 15), none⟩, ⟨(some 2), .mv (.t 16), none⟩])
  (.seq (.seq (.ops [⟨(some 17), .mv (.t 2), none⟩, ⟨(some 18), .bin .lss (.t 17) (.c (.int .i32 128)), none⟩])
  (.cond (.t 18) (.seq (.ops [⟨(some 19), .mv (.t 2), none⟩, ⟨(some 2), .mv (.t 19), none⟩, ⟨(some 3), .mv (.c (.int .i64 1)), none⟩])
  .ret) .skip))
  (.seq (.ops [⟨(some 20), .mv (.t 4), none⟩, ⟨(some 21), .bin .sub (.t 20) (.c (.int .i64 4)), none⟩, ⟨(some 22), .max2 (.t 21) (.c (.int .i64 0)), none⟩, ⟨(some 6), .mv (.t 22), none⟩])
  (.seq (.seq (.ops [⟨(some 23), .mv (.t 5), none⟩, ⟨(some 24), .bin .sub (.t 23) (.c (.int .i64 1)), none⟩, ⟨(some 5), .mv (.t 24), none⟩])
  (.block 0 (.loop (.seq (.seq (.ops [⟨(some 25), .mv (.t 5), none⟩, ⟨(some 26), .mv (.t 6), none⟩, ⟨(some 27), .bin .geq (.t 25) (.t 26), none⟩])
  (.cond (.t 27) .skip (.exit 0)))
  (.seq (.block 1 (.seq (.ops [⟨(some 30), .mv (.t 0), none⟩, ⟨(some 31), .mv (.t 5), none⟩, ⟨(some 32), .idxS (.t 30) (.t 31), none⟩, ⟨(some 33), .call 113 [(.t 32)], none⟩])
  (.cond (.t 33) (.exit 0) .skip)))
  (.ops [⟨(some 28), .mv (.t 5), none⟩, ⟨(some 29), .bin .sub (.t 28) (.c (.int .i64 1)), none⟩, ⟨(some 5), .mv (.t 29), none⟩]))))))
  (.seq (.seq (.ops [⟨(some 34), .mv (.t 5), none⟩, ⟨(some 35), .bin .lss (.t 34) (.c (.int .i64 0)), none⟩])
  (.cond (.t 35) (.ops [⟨(some 5), .mv (.c (.int .i64 0)), none⟩]) .skip))
  (.seq (.ops [⟨(some 37), .mv (.t 0), none⟩, ⟨(some 38), .mv (.t 5), none⟩, ⟨(some 39), .mv (.t 4), none⟩, ⟨(some 40), .slcS (.t 37) (some (.t 38)) (some (.t 39)), none⟩, ⟨(some 41), .call 98 [(.t 40)], none⟩, ⟨(some 36), .mv (.t 41), none⟩, ⟨(some 42), .ext (.t 36) 0, none⟩, ⟨(some 43), .ext (.t 36) 1, none⟩, ⟨(some 2), .mv (.t 42), none⟩, ⟨(some 3), .mv (.t 43), none⟩])
  (.seq (.seq (.ops [⟨(some 44), .mv (.t 5), none⟩, ⟨(some 45), .mv (.t 3), none⟩, ⟨(some 46), .bin .add (.t 44) (.t 45), none⟩, ⟨(some 47), .mv (.t 4), none⟩, ⟨(some 48), .bin .neq (.t 46) (.t 47), none⟩])
  (.cond (.t 48) (.seq (.ops [⟨(some 2), .mv (.c (.int .i32 65533)), none⟩, ⟨(some 3), .mv (.c (.int .i64 1)), none⟩])
  .ret) .skip))
  (.seq (.ops [⟨(some 49), .mv (.t 2), none⟩, ⟨(some 50), .mv (.t 3), none⟩, ⟨(some 2), .mv (.t 49), none⟩, ⟨(some 3), .mv (.t 50), none⟩])
  .ret))))))))))))
def r99 : List RV := [.t 2, .t 3]
theorem fn99 : cFn Tryd.prog 99 = some (c99, r99, 51) := by kernel_rfl

/-- strings.indexFunc -/
def c100 : MC :=
  (.seq (.ops [⟨(some 6), .mv (.c (.int .i64 0)), none⟩])
  (.seq (.seq (.ops [⟨(some 9), .mv (.t 0), none⟩, ⟨(some 10), .bad, none⟩])
  (.block 0 (.loop (.seq (.ops [⟨(some 11), .bad, none⟩, ⟨(some 12), .ext (.t 11) 0, none⟩])
  (.seq (.cond (.t 12) .skip (.exit 0))
  (.block 1 (.seq (.ops [⟨(some 13), .ext (.t 11) 1, none⟩, ⟨(some 14), .ext (.t 11) 2, none⟩, ⟨(some 7), .mv (.t 13), none⟩, ⟨(some 8), .mv (.t 14), none⟩])
  (.seq (.ops [⟨(some 15), .mv (.t 1), none⟩, ⟨(some 16), .mv (.t 8), none⟩, ⟨(some 17), .callv (.t 15) [(.t 16)], none⟩, ⟨(some 18), .mv (.t 2), none⟩, ⟨(some 19), .eqB false (.t 17) (.t 18), none⟩])
  (.cond (.t 19) (.seq (.ops [⟨(some 20), .mv (.t 7), none⟩, ⟨(some 6), .mv (.t 20), none⟩])
  .ret) .skip)))))))))
  (.seq (.ops [⟨(some 6), .mv (.c (.int .i64 (-1))), none⟩])
  .ret)))
def r100 : List RV := [.t 6]
theorem fn100 : cFn Tryd.prog 100 = some (c100, r100, 21) := by kernel_rfl

/-- unicode/utf8.ValidRune -/
def c101 : MC :=
  (.seq (.ops [⟨(some 2), .mv (.c (.bool false)), none⟩])
  (.seq (.block 0 (.seq (.ops [⟨(some 4), .mv (.t 0), none⟩, ⟨(some 5), .bin .leq (.c (.int .i32 0)) (.t 4), none⟩, ⟨(some 6), .mv (.t 5), none⟩, ⟨(some 7), .mv (.t 0), (some (6, true))⟩, ⟨(some 8), .bin .lss (.t 7) (.c (.int .i32 55296)), (some (6, true))⟩, ⟨(some 9), .pick (.t 6) (.t 8) (.c (.bool false)), none⟩, ⟨(some 3), .mv (.t 9), none⟩])
  (.cond (.t 3) (.seq (.ops [⟨(some 2), .mv (.c (.bool true)), none⟩])
  .ret) (.seq (.ops [⟨(some 11), .mv (.t 0), none⟩, ⟨(some 12), .bin .lss (.c (.int .i32 57343)) (.t 11), none⟩, ⟨(some 13), .mv (.t 12), none⟩, ⟨(some 14), .mv (.t 0), (some (13, true))⟩, ⟨(some 15), .bin .leq (.t 14) (.c (.int .i32 1114111)), (some (13, true))⟩, ⟨(some 16), .pick (.t 13) (.t 15) (.c (.bool false)), none⟩, ⟨(some 10), .mv (.t 16), none⟩])
  (.cond (.t 10) (.seq (.ops [⟨(some 2), .mv (.c (.bool true)), none⟩])
  .ret) .skip)))))
  (.seq (.ops [⟨(some 2), .mv (.c (.bool false)), none⟩])
  .ret)))
def r101 : List RV := [.t 2]
theorem fn101 : cFn Tryd.prog 101 = some (c101, r101, 17) := by kernel_rfl

/-- internal/strconv.small -/
def c103 : MC :=
  (.seq (.ops [⟨(some 2), .mv (.c (.string ⟨#[]⟩)), none⟩])
  (.seq (.seq (.ops [⟨(some 3), .mv (.t 0), none⟩, ⟨(some 4), .bin .lss (.t 3) (.c (.int .i64 10)), none⟩])
  (.cond (.t 4) (.seq (.ops [⟨(some 5), .mv (.t 0), none⟩, ⟨(some 6), .mv (.t 0), none⟩, ⟨(some 7), .bin .add (.t 6) (.c (.int .i64 1)), none⟩, ⟨(some 8), .slcS (.c (.string ⟨#[48, 49, 50, 51, 52, 53, 54, 55, 56, 57, 97, 98, 99, 100, 101, 102, 103, 104, 105, 106, 107, 108, 109, 110, 111, 112, 113, 114, 115, 116, 117, 118, 119, 120, 121, 122]⟩)) (some (.t 5)) (some (.t 7)), none⟩, ⟨(some 2), .mv (.t 8), none⟩])
  .ret) .skip))
  (.seq (.ops [⟨(some 9), .mv (.t 0), none⟩, ⟨(some 10), .bin .mul (.t 9) (.c (.int .i64 2)), none⟩, ⟨(some 11), .mv (.t 0), none⟩, ⟨(some 12), .bin .mul (.t 11) (.c (.int .i64 2)), none⟩, ⟨(some 13), .bin .add (.t 12) (.c (.int .i64 2)), none⟩, ⟨(some 14), .slcS (.c (.string ⟨#[48, 48, 48, 49, 48, 50, 48, 51, 48, 52, 48, 53, 48, 54, 48, 55, 48, 56, 48, 57, 49, 48, 49, 49, 49, 50, 49, 51, 49, 52, 49, 53, 49, 54, 49, 55, 49, 56, 49, 57, 50, 48, 50, 49, 50, 50, 50, 51, 50, 52, 50, 53, 50, 54, 50, 55, 50, 56, 50, 57, 51, 48, 51, 49, 51, 50, 51, 51, 51, 52, 51, 53, 51, 54, 51, 55, 51, 56, 51, 57, 52, 48, 52, 49, 52, 50, 52, 51, 52, 52, 52, 53, 52, 54, 52, 55, 52, 56, 52, 57, 53, 48, 53, 49, 53, 50, 53, 51, 53, 52, 53, 53, 53, 54, 53, 55, 53, 56, 53, 57, 54, 48, 54, 49, 54, 50, 54, 51, 54, 52, 54, 53, 54, 54, 54, 55, 54, 56, 54, 57, 55, 48, 55, 49, 55, 50, 55, 51, 55, 52, 55, 53, 55, 54, 55, 55, 55, 56, 55, 57, 56, 48, 56, 49, 56, 50, 56, 51, 56, 52, 56, 53, 56, 54, 56, 55, 56, 56, 56, 57, 57, 48, 57, 49, 57, 50, 57, 51, 57, 52, 57, 53, 57, 54, 57, 55, 57, 56, 57, 57]⟩)) (some (.t 10)) (some (.t 13)), none⟩, ⟨(some 2), .mv (.t 14), none⟩])
  .ret)))
def r103 : List RV := [.t 2]
theorem fn103 : cFn Tryd.prog 103 = some (c103, r103, 15) := by kernel_rfl

/-- internal/strconv.numDigits -/
def c104 : MC :=
  (.seq (.ops [⟨(some 2), .mv (.c (.int .i64 0)), none⟩])
  (.seq (.ops [⟨(some 4), .mv (.t 0), none⟩, ⟨(some 5), .call 115 [(.t 4)], none⟩, ⟨(some 6), .call 114 [(.t 5)], none⟩, ⟨(some 3), .mv (.t 6), none⟩])
  (.seq (.ops [⟨(some 7), .mv (.t 3), none⟩, ⟨(some 8), .mv (.t 0), none⟩, ⟨(some 9), .mv (.t 3), none⟩, ⟨(some 10), .bad, none⟩, ⟨(some 11), .load1 (.t 10), none⟩, ⟨(some 12), .bin .geq (.t 8) (.t 11), none⟩, ⟨(some 13), .call 116 [(.t 12)], none⟩, ⟨(some 14), .bin .add (.t 7) (.t 13), none⟩, ⟨(some 2), .mv (.t 14), none⟩])
  .ret)))
def r104 : List RV := [.t 2]
theorem fn104 : cFn Tryd.prog 104 = some (c104, r104, 15) := by kernel_rfl

/-- internal/strconv.formatBase10 -/
def c105 : MC :=
  (.seq (.ops [⟨(some 17), .mv (.t 0), none⟩, ⟨(some 18), .len false (.t 17), none⟩, ⟨(some 4), .mv (.t 18), none⟩])
  (.seq (.block 0 (.loop (.seq (.seq (.ops [⟨(some 19), .mv (.t 4), none⟩, ⟨(some 20), .bin .geq (.t 19) (.c (.int .i64 8)), none⟩])
  (.cond (.t 20) .skip (.exit 0)))
  (.block 1 (.seq (.ops [⟨(some 21), .mv (.t 1), none⟩, ⟨(some 22), .bin .rem (.t 21) (.c (.int .u64 100000000)), none⟩, ⟨(some 23), .conv .u32 (.t 22), none⟩, ⟨(some 5), .mv (.t 23), none⟩])
  (.seq (.ops [⟨(some 24), .mv (.t 1), none⟩, ⟨(some 25), .bin .quo (.t 24) (.c (.int .u64 100000000)), none⟩, ⟨(some 1), .mv (.t 25), none⟩])
  (.seq (.ops [⟨(some 26), .mv (.t 5), none⟩, ⟨(some 27), .bin .quo (.t 26) (.c (.int .u32 10000)), none⟩, ⟨(some 28), .mv (.t 5), none⟩, ⟨(some 29), .bin .rem (.t 28) (.c (.int .u32 10000)), none⟩, ⟨(some 6), .mv (.t 27), none⟩, ⟨(some 7), .mv (.t 29), none⟩])
  (.seq (.ops [⟨(some 30), .mv (.t 7), none⟩, ⟨(some 31), .bin .quo (.t 30) (.c (.int .u32 100)), none⟩, ⟨(some 32), .bin .mul (.t 31) (.c (.int .u32 2)), none⟩, ⟨(some 33), .mv (.t 7), none⟩, ⟨(some 34), .bin .rem (.t 33) (.c (.int .u32 100)), none⟩, ⟨(some 35), .bin .mul (.t 34) (.c (.int .u32 2)), none⟩, ⟨(some 8), .mv (.t 32), none⟩, ⟨(some 9), .mv (.t 35), none⟩])
  (.seq (.ops [⟨(some 36), .mv (.t 6), none⟩, ⟨(some 37), .bin .quo (.t 36) (.c (.int .u32 100)), none⟩, ⟨(some 38), .bin .mul (.t 37) (.c (.int .u32 2)), none⟩, ⟨(some 39), .mv (.t 6), none⟩, ⟨(some 40), .bin .rem (.t 39) (.c (.int .u32 100)), none⟩, ⟨(some 41), .bin .mul (.t 40) (.c (.int .u32 2)), none⟩, ⟨(some 10), .mv (.t 38), none⟩, ⟨(some 11), .mv (.t 41), none⟩])
  (.seq (.dops [⟨⟨(some 42), .mv (.t 0), none⟩, 0, false, false⟩, ⟨⟨(some 43), .mv (.t 4), none⟩, 1, false, false⟩, ⟨⟨(some 44), .bin .sub (.t 43) (.c (.int .i64 1)), none⟩, 2, false, false⟩, ⟨⟨(some 45), .mv (.t 0), none⟩, 3, false, false⟩, ⟨⟨(some 46), .mv (.t 4), none⟩, 4, false, false⟩, ⟨⟨(some 47), .bin .sub (.t 46) (.c (.int .i64 2)), none⟩, 5, false, false⟩, ⟨⟨(some 48), .mv (.t 9), none⟩, 6, false, false⟩, ⟨⟨(some 49), .bin .add (.t 48) (.c (.int .u32 1)), none⟩, 7, false, false⟩, ⟨⟨(some 50), .idxS (.c (.string ⟨#[48, 48, 48, 49, 48, 50, 48, 51, 48, 52, 48, 53, 48, 54, 48, 55, 48, 56, 48, 57, 49, 48, 49, 49, 49, 50, 49, 51, 49, 52, 49, 53, 49, 54, 49, 55, 49, 56, 49, 57, 50, 48, 50, 49, 50, 50, 50, 51, 50, 52, 50, 53, 50, 54, 50, 55, 50, 56, 50, 57, 51, 48, 51, 49, 51, 50, 51, 51, 51, 52, 51, 53, 51, 54, 51, 55, 51, 56, 51, 57, 52, 48, 52, 49, 52, 50, 52, 51, 52, 52, 52, 53, 52, 54, 52, 55, 52, 56, 52, 57, 53, 48, 53, 49, 53, 50, 53, 51, 53, 52, 53, 53, 53, 54, 53, 55, 53, 56, 53, 57, 54, 48, 54, 49, 54, 50, 54, 51, 54, 52, 54, 53, 54, 54, 54, 55, 54, 56, 54, 57, 55, 48, 55, 49, 55, 50, 55, 51, 55, 52, 55, 53, 55, 54, 55, 55, 55, 56, 55, 57, 56, 48, 56, 49, 56, 50, 56, 51, 56, 52, 56, 53, 56, 54, 56, 55, 56, 56, 56, 57, 57, 48, 57, 49, 57, 50, 57, 51, 57, 52, 57, 53, 57, 54, 57, 55, 57, 56, 57, 57]⟩)) (.t 49), none⟩, 8, false, false⟩, ⟨⟨(some 51), .mv (.t 9), none⟩, 9, false, false⟩, ⟨⟨(some 52), .idxS (.c (.string ⟨#[48, 48, 48, 49, 48, 50, 48, 51, 48, 52, 48, 53, 48, 54, 48, 55, 48, 56, 48, 57, 49, 48, 49, 49, 49, 50, 49, 51, 49, 52, 49, 53, 49, 54, 49, 55, 49, 56, 49, 57, 50, 48, 50, 49, 50, 50, 50, 51, 50, 52, 50, 53, 50, 54, 50, 55, 50, 56, 50, 57, 51, 48, 51, 49, 51, 50, 51, 51, 51, 52, 51, 53, 51, 54, 51, 55, 51, 56, 51, 57, 52, 48, 52, 49, 52, 50, 52, 51, 52, 52, 52, 53, 52, 54, 52, 55, 52, 56, 52, 57, 53, 48, 53, 49, 53, 50, 53, 51, 53, 52, 53, 53, 53, 54, 53, 55, 53, 56, 53, 57, 54, 48, 54, 49, 54, 50, 54, 51, 54, 52, 54, 53, 54, 54, 54, 55, 54, 56, 54, 57, 55, 48, 55, 49, 55, 50, 55, 51, 55, 52, 55, 53, 55, 54, 55, 55, 55, 56, 55, 57, 56, 48, 56, 49, 56, 50, 56, 51, 56, 52, 56, 53, 56, 54, 56, 55, 56, 56, 56, 57, 57, 48, 57, 49, 57, 50, 57, 51, 57, 52, 57, 53, 57, 54, 57, 55, 57, 56, 57, 57]⟩)) (.t 51), none⟩, 10, false, false⟩, ⟨⟨(some 53), .iaS 1 (.t 42) (.t 44), none⟩, 11, false, false⟩, ⟨⟨none, .store 1 (.t 53) (.t 50), none⟩, 12, true, false⟩, ⟨⟨(some 54), .iaS 1 (.t 45) (.t 47), none⟩, 13, false, false⟩, ⟨⟨none, .store 1 (.t 54) (.t 52), none⟩, 14, true, false⟩])
  (.seq (.dops [⟨⟨(some 55), .mv (.t 0), none⟩, 0, false, false⟩, ⟨⟨(some 56), .mv (.t 4), none⟩, 1, false, false⟩, ⟨⟨(some 57), .bin .sub (.t 56) (.c (.int .i64 3)), none⟩, 2, false, false⟩, ⟨⟨(some 58), .mv (.t 0), none⟩, 3, false, false⟩, ⟨⟨(some 59), .mv (.t 4), none⟩, 4, false, false⟩, ⟨⟨(some 60), .bin .sub (.t 59) (.c (.int .i64 4)), none⟩, 5, false, false⟩, ⟨⟨(some 61), .mv (.t 8), none⟩, 6, false, false⟩, ⟨⟨(some 62), .bin .add (.t 61) (.c (.int .u32 1)), none⟩, 7, false, false⟩, ⟨⟨(some 63), .idxS (.c (.string ⟨#[48, 48, 48, 49, 48, 50, 48, 51, 48, 52, 48, 53, 48, 54, 48, 55, 48, 56, 48, 57, 49, 48, 49, 49, 49, 50, 49, 51, 49, 52, 49, 53, 49, 54, 49, 55, 49, 56, 49, 57, 50, 48, 50, 49, 50, 50, 50, 51, 50, 52, 50, 53, 50, 54, 50, 55, 50, 56, 50, 57, 51, 48, 51, 49, 51, 50, 51, 51, 51, 52, 51, 53, 51, 54, 51, 55, 51, 56, 51, 57, 52, 48, 52, 49, 52, 50, 52, 51, 52, 52, 52, 53, 52, 54, 52, 55, 52, 56, 52, 57, 53, 48, 53, 49, 53, 50, 53, 51, 53, 52, 53, 53, 53, 54, 53, 55, 53, 56, 53, 57, 54, 48, 54, 49, 54, 50, 54, 51, 54, 52, 54, 53, 54, 54, 54, 55, 54, 56, 54, 57, 55, 48, 55, 49, 55, 50, 55, 51, 55, 52, 55, 53, 55, 54, 55, 55, 55, 56, 55, 57, 56, 48, 56, 49, 56, 50, 56, 51, 56, 52, 56, 53, 56, 54, 56, 55, 56, 56, 56, 57, 57, 48, 57, 49, 57, 50, 57, 51, 57, 52, 57, 53, 57, 54, 57, 55, 57, 56, 57, 57]⟩)) (.t 62), none⟩, 8, false, false⟩, ⟨⟨(some 64), .mv (.t 8), none⟩, 9, false, false⟩, ⟨⟨(some 65), .idxS (.c (.string ⟨#[48, 48, 48, 49, 48, 50, 48, 51, 48, 52, 48, 53, 48, 54, 48, 55, 48, 56, 48, 57, 49, 48, 49, 49, 49, 50, 49, 51, 49, 52, 49, 53, 49, 54, 49, 55, 49, 56, 49, 57, 50, 48, 50, 49, 50, 50, 50, 51, 50, 52, 50, 53, 50, 54, 50, 55, 50, 56, 50, 57, 51, 48, 51, 49, 51, 50, 51, 51, 51, 52, 51, 53, 51, 54, 51, 55, 51, 56, 51, 57, 52, 48, 52, 49, 52, 50, 52, 51, 52, 52, 52, 53, 52, 54, 52, 55, 52, 56, 52, 57, 53, 48, 53, 49, 53, 50, 53, 51, 53, 52, 53, 53, 53, 54, 53, 55, 53, 56, 53, 57, 54, 48, 54, 49, 54, 50, 54, 51, 54, 52, 54, 53, 54, 54, 54, 55, 54, 56, 54, 57, 55, 48, 55, 49, 55, 50, 55, 51, 55, 52, 55, 53, 55, 54, 55, 55, 55, 56, 55, 57, 56, 48, 56, 49, 56, 50, 56, 51, 56, 52, 56, 53, 56, 54, 56, 55, 56, 56, 56, 57, 57, 48, 57, 49, 57, 50, 57, 51, 57, 52, 57, 53, 57, 54, 57, 55, 57, 56, 57, 57]⟩)) (.t 64), none⟩, 10, false, false⟩, ⟨⟨(some 66), .iaS 1 (.t 55) (.t 57), none⟩, 11, false, false⟩, ⟨⟨none, .store 1 (.t 66) (.t 63), none⟩, 12, true, false⟩, ⟨⟨(some 67), .iaS 1 (.t 58) (.t 60), none⟩, 13, false, false⟩, ⟨⟨none, .store 1 (.t 67) (.t 65), none⟩, 14, true, false⟩])
  (.seq (.dops [⟨⟨(some 68), .mv (.t 0), none⟩, 0, false, false⟩, ⟨⟨(some 69), .mv (.t 4), none⟩, 1, false, false⟩, ⟨⟨(some 70), .bin .sub (.t 69) (.c (.int .i64 5)), none⟩, 2, false, false⟩, ⟨⟨(some 71), .mv (.t 0), none⟩, 3, false, false⟩, ⟨⟨(some 72), .mv (.t 4), none⟩, 4, false, false⟩, ⟨⟨(some 73), .bin .sub (.t 72) (.c (.int .i64 6)), none⟩, 5, false, false⟩, ⟨⟨(some 74), .mv (.t 11), none⟩, 6, false, false⟩, ⟨⟨(some 75), .bin .add (.t 74) (.c (.int .u32 1)), none⟩, 7, false, false⟩, ⟨⟨(some 76), .idxS (.c (.string ⟨#[48, 48, 48, 49, 48, 50, 48, 51, 48, 52, 48, 53, 48, 54, 48, 55, 48, 56, 48, 57, 49, 48, 49, 49, 49, 50, 49, 51, 49, 52, 49, 53, 49, 54, 49, 55, 49, 56, 49, 57, 50, 48, 50, 49, 50, 50, 50, 51, 50, 52, 50, 53, 50, 54, 50, 55, 50, 56, 50, 57, 51, 48, 51, 49, 51, 50, 51, 51, 51, 52, 51, 53, 51, 54, 51, 55, 51, 56, 51, 57, 52, 48, 52, 49, 52, 50, 52, 51, 52, 52, 52, 53, 52, 54, 52, 55, 52, 56, 52, 57, 53, 48, 53, 49, 53, 50, 53, 51, 53, 52, 53, 53, 53, 54, 53, 55, 53, 56, 53, 57, 54, 48, 54, 49, 54, 50, 54, 51, 54, 52, 54, 53, 54, 54, 54, 55, 54, 56, 54, 57, 55, 48, 55, 49, 55, 50, 55, 51, 55, 52, 55, 53, 55, 54, 55, 55, 55, 56, 55, 57, 56, 48, 56, 49, 56, 50, 56, 51, 56, 52, 56, 53, 56, 54, 56, 55, 56, 56, 56, 57, 57, 48, 57, 49, 57, 50, 57, 51, 57, 52, 57, 53, 57, 54, 57, 55, 57, 56, 57, 57]⟩)) (.t 75), none⟩, 8, false, false⟩, ⟨⟨(some 77), .mv (.t 11), none⟩, 9, false, false⟩, ⟨⟨(some 78), .idxS (.c (.string ⟨#[48, 48, 48, 49, 48, 50, 48, 51, 48, 52, 48, 53, 48, 54, 48, 55, 48, 56, 48, 57, 49, 48, 49, 49, 49, 50, 49, 51, 49, 52, 49, 53, 49, 54, 49, 55, 49, 56, 49, 57, 50, 48, 50, 49, 50, 50, 50, 51, 50, 52, 50, 53, 50, 54, 50, 55, 50, 56, 50, 57, 51, 48, 51, 49, 51, 50, 51, 51, 51, 52, 51, 53, 51, 54, 51, 55, 51, 56, 51, 57, 52, 48, 52, 49, 52, 50, 52, 51, 52, 52, 52, 53, 52, 54, 52, 55, 52, 56, 52, 57, 53, 48, 53, 49, 53, 50, 53, 51, 53, 52, 53, 53, 53, 54, 53, 55, 53, 56, 53, 57, 54, 48, 54, 49, 54, 50, 54, 51, 54, 52, 54, 53, 54, 54, 54, 55, 54, 56, 54, 57, 55, 48, 55, 49, 55, 50, 55, 51, 55, 52, 55, 53, 55, 54, 55, 55, 55, 56, 55, 57, 56, 48, 56, 49, 56, 50, 56, 51, 56, 52, 56, 53, 56, 54, 56, 55, 56, 56, 56, 57, 57, 48, 57, 49, 57, 50, 57, 51, 57, 52, 57, 53, 57, 54, 57, 55, 57, 56, 57, 57]⟩)) (.t 77), none⟩, 10, false, false⟩, ⟨⟨(some 79), .iaS 1 (.t 68) (.t 70), none⟩, 11, false, false⟩, ⟨⟨none, .store 1 (.t 79) (.t 76), none⟩, 12, true, false⟩, ⟨⟨(some 80), .iaS 1 (.t 71) (.t 73), none⟩, 13, false, false⟩, ⟨⟨none, .store 1 (.t 80) (.t 78), none⟩, 14, true, false⟩])
  (.seq (.dops [⟨⟨(some 81), .mv (.t 0), none⟩, 0, false, false⟩, ⟨⟨(some 82), .mv (.t 4), none⟩, 1, false, false⟩, ⟨⟨(some 83), .bin .sub (.t 82) (.c (.int .i64 7)), none⟩, 2, false, false⟩, ⟨⟨(some 84), .mv (.t 0), none⟩, 3, false, false⟩, ⟨⟨(some 85), .mv (.t 4), none⟩, 4, false, false⟩, ⟨⟨(some 86), .bin .sub (.t 85) (.c (.int .i64 8)), none⟩, 5, false, false⟩, ⟨⟨(some 87), .mv (.t 10), none⟩, 6, false, false⟩, ⟨⟨(some 88), .bin .add (.t 87) (.c (.int .u32 1)), none⟩, 7, false, false⟩, ⟨⟨(some 89), .idxS (.c (.string ⟨#[48, 48, 48, 49, 48, 50, 48, 51, 48, 52, 48, 53, 48, 54, 48, 55, 48, 56, 48, 57, 49, 48, 49, 49, 49, 50, 49, 51, 49, 52, 49, 53, 49, 54, 49, 55, 49, 56, 49, 57, 50, 48, 50, 49, 50, 50, 50, 51, 50, 52, 50, 53, 50, 54, 50, 55, 50, 56, 50, 57, 51, 48, 51, 49, 51, 50, 51, 51, 51, 52, 51, 53, 51, 54, 51, 55, 51, 56, 51, 57, 52, 48, 52, 49, 52, 50, 52, 51, 52, 52, 52, 53, 52, 54, 52, 55, 52, 56, 52, 57, 53, 48, 53, 49, 53, 50, 53, 51, 53, 52, 53, 53, 53, 54, 53, 55, 53, 56, 53, 57, 54, 48, 54, 49, 54, 50, 54, 51, 54, 52, 54, 53, 54, 54, 54, 55, 54, 56, 54, 57, 55, 48, 55, 49, 55, 50, 55, 51, 55, 52, 55, 53, 55, 54, 55, 55, 55, 56, 55, 57, 56, 48, 56, 49, 56, 50, 56, 51, 56, 52, 56, 53, 56, 54, 56, 55, 56, 56, 56, 57, 57, 48, 57, 49, 57, 50, 57, 51, 57, 52, 57, 53, 57, 54, 57, 55, 57, 56, 57, 57]⟩)) (.t 88), none⟩, 8, false, false⟩, ⟨⟨(some 90), .mv (.t 10), none⟩, 9, false, false⟩, ⟨⟨(some 91), .idxS (.c (.string ⟨#[48, 48, 48, 49, 48, 50, 48, 51, 48, 52, 48, 53, 48, 54, 48, 55, 48, 56, 48, 57, 49, 48, 49, 49, 49, 50, 49, 51, 49, 52, 49, 53, 49, 54, 49, 55, 49, 56, 49, 57, 50, 48, 50, 49, 50, 50, 50, 51, 50, 52, 50, 53, 50, 54, 50, 55, 50, 56, 50, 57, 51, 48, 51, 49, 51, 50, 51, 51, 51, 52, 51, 53, 51, 54, 51, 55, 51, 56, 51, 57, 52, 48, 52, 49, 52, 50, 52, 51, 52, 52, 52, 53, 52, 54, 52, 55, 52, 56, 52, 57, 53, 48, 53, 49, 53, 50, 53, 51, 53, 52, 53, 53, 53, 54, 53, 55, 53, 56, 53, 57, 54, 48, 54, 49, 54, 50, 54, 51, 54, 52, 54, 53, 54, 54, 54, 55, 54, 56, 54, 57, 55, 48, 55, 49, 55, 50, 55, 51, 55, 52, 55, 53, 55, 54, 55, 55, 55, 56, 55, 57, 56, 48, 56, 49, 56, 50, 56, 51, 56, 52, 56, 53, 56, 54, 56, 55, 56, 56, 56, 57, 57, 48, 57, 49, 57, 50, 57, 51, 57, 52, 57, 53, 57, 54, 57, 55, 57, 56, 57, 57]⟩)) (.t 90), none⟩, 10, false, false⟩, ⟨⟨(some 92), .iaS 1 (.t 81) (.t 83), none⟩, 11, false, false⟩, ⟨⟨none, .store 1 (.t 92) (.t 89), none⟩, 12, true, false⟩, ⟨⟨(some 93), .iaS 1 (.t 84) (.t 86), none⟩, 13, false, false⟩, ⟨⟨none, .store 1 (.t 93) (.t 91), none⟩, 14, true, false⟩])
  (.ops [⟨(some 94), .mv (.t 4), none⟩, ⟨(some 95), .bin .sub (.t 94) (.c (.int .i64 8)), none⟩, ⟨(some 4), .mv (.t 95), none⟩]))))))))))))))
  (.seq (.ops [⟨(some 96), .mv (.t 1), none⟩, ⟨(some 97), .conv .u32 (.t 96), none⟩, ⟨(some 12), .mv (.t 97), none⟩])
  (.seq (.seq (.ops [⟨(some 98), .mv (.t 4), none⟩, ⟨(some 99), .bin .geq (.t 98) (.c (.int .i64 4)), none⟩])
  (.cond (.t 99) (.seq (.ops [⟨(some 100), .mv (.t 12), none⟩, ⟨(some 101), .bin .rem (.t 100) (.c (.int .u32 10000)), none⟩, ⟨(some 13), .mv (.t 101), none⟩])
  (.seq (.ops [⟨(some 102), .mv (.t 12), none⟩, ⟨(some 103), .bin .quo (.t 102) (.c (.int .u32 10000)), none⟩, ⟨(some 12), .mv (.t 103), none⟩])
  (.seq (.ops [⟨(some 104), .mv (.t 13), none⟩, ⟨(some 105), .bin .quo (.t 104) (.c (.int .u32 100)), none⟩, ⟨(some 106), .bin .mul (.t 105) (.c (.int .u32 2)), none⟩, ⟨(some 107), .mv (.t 13), none⟩, ⟨(some 108), .bin .rem (.t 107) (.c (.int .u32 100)), none⟩, ⟨(some 109), .bin .mul (.t 108) (.c (.int .u32 2)), none⟩, ⟨(some 14), .mv (.t 106), none⟩, ⟨(some 15), .mv (.t 109), none⟩])
  (.seq (.dops [⟨⟨(some 110), .mv (.t 0), none⟩, 0, false, false⟩, ⟨⟨(some 111), .mv (.t 4), none⟩, 1, false, false⟩, ⟨⟨(some 112), .bin .sub (.t 111) (.c (.int .i64 1)), none⟩, 2, false, false⟩, ⟨⟨(some 113), .mv (.t 0), none⟩, 3, false, false⟩, ⟨⟨(some 114), .mv (.t 4), none⟩, 4, false, false⟩, ⟨⟨(some 115), .bin .sub (.t 114) (.c (.int .i64 2)), none⟩, 5, false, false⟩, ⟨⟨(some 116), .mv (.t 15), none⟩, 6, false, false⟩, ⟨⟨(some 117), .bin .add (.t 116) (.c (.int .u32 1)), none⟩, 7, false, false⟩, ⟨⟨(some 118), .idxS (.c (.string ⟨#[48, 48, 48, 49, 48, 50, 48, 51, 48, 52, 48, 53, 48, 54, 48, 55, 48, 56, 48, 57, 49, 48, 49, 49, 49, 50, 49, 51, 49, 52, 49, 53, 49, 54, 49, 55, 49, 56, 49, 57, 50, 48, 50, 49, 50, 50, 50, 51, 50, 52, 50, 53, 50, 54, 50, 55, 50, 56, 50, 57, 51, 48, 51, 49, 51, 50, 51, 51, 51, 52, 51, 53, 51, 54, 51, 55, 51, 56, 51, 57, 52, 48, 52, 49, 52, 50, 52, 51, 52, 52, 52, 53, 52, 54, 52, 55, 52, 56, 52, 57, 53, 48, 53, 49, 53, 50, 53, 51, 53, 52, 53, 53, 53, 54, 53, 55, 53, 56, 53, 57, 54, 48, 54, 49, 54, 50, 54, 51, 54, 52, 54, 53, 54, 54, 54, 55, 54, 56, 54, 57, 55, 48, 55, 49, 55, 50, 55, 51, 55, 52, 55, 53, 55, 54, 55, 55, 55, 56, 55, 57, 56, 48, 56, 49, 56, 50, 56, 51, 56, 52, 56, 53, 56, 54, 56, 55, 56, 56, 56, 57, 57, 48, 57, 49, 57, 50, 57, 51, 57, 52, 57, 53, 57, 54, 57, 55, 57, 56, 57, 57]⟩)) (.t 117), none⟩, 8, false, false⟩, ⟨⟨(some 119), .mv (.t 15), none⟩, 9, false, false⟩, ⟨⟨(some 120), .idxS (.c (.string ⟨#[48, 48, 48, 49, 48, 50, 48, 51, 48, 52, 48, 53, 48, 54, 48, 55, 48, 56, 48, 57, 49, 48, 49, 49, 49, 50, 49, 51, 49, 52, 49, 53, 49, 54, 49, 55, 49, 56, 49, 57, 50, 48, 50, 49, 50, 50, 50, 51, 50, 52, 50, 53, 50, 54, 50, 55, 50, 56, 50, 57, 51, 48, 51, 49, 51, 50, 51, 51, 51, 52, 51, 53, 51, 54, 51, 55, 51, 56, 51, 57, 52, 48, 52, 49, 52, 50, 52, 51, 52, 52, 52, 53, 52, 54, 52, 55, 52, 56, 52, 57, 53, 48, 53, 49, 53, 50, 53, 51, 53, 52, 53, 53, 53, 54, 53, 55, 53, 56, 53, 57, 54, 48, 54, 49, 54, 50, 54, 51, 54, 52, 54, 53, 54, 54, 54, 55, 54, 56, 54, 57, 55, 48, 55, 49, 55, 50, 55, 51, 55, 52, 55, 53, 55, 54, 55, 55, 55, 56, 55, 57, 56, 48, 56, 49, 56, 50, 56, 51, 56, 52, 56, 53, 56, 54, 56, 55, 56, 56, 56, 57, 57, 48, 57, 49, 57, 50, 57, 51, 57, 52, 57, 53, 57, 54, 57, 55, 57, 56, 57, 57]⟩)) (.t 119), none⟩, 10, false, false⟩, ⟨⟨(some 121), .iaS 1 (.t 110) (.t 112), none⟩, 11, false, false⟩, ⟨⟨none, .store 1 (.t 121) (.t 118), none⟩, 12, true, false⟩, ⟨⟨(some 122), .iaS 1 (.t 113) (.t 115), none⟩, 13, false, false⟩, ⟨⟨none, .store 1 (.t 122) (.t 120), none⟩, 14, true, false⟩])
  (.seq (.dops [⟨⟨(some 123), .mv (.t 0), none⟩, 0, false, false⟩, ⟨⟨(some 124), .mv (.t 4), none⟩, 1, false, false⟩, ⟨⟨(some 125), .bin .sub (.t 124) (.c (.int .i64 3)), none⟩, 2, false, false⟩, ⟨⟨(some 126), .mv (.t 0), none⟩, 3, false, false⟩, ⟨⟨(some 127), .mv (.t 4), none⟩, 4, false, false⟩, ⟨⟨(some 128), .bin .sub (.t 127) (.c (.int .i64 4)), none⟩, 5, false, false⟩, ⟨⟨(some 129), .mv (.t 14), none⟩, 6, false, false⟩, ⟨⟨(some 130), .bin .add (.t 129) (.c (.int .u32 1)), none⟩, 7, false, false⟩, ⟨⟨(some 131), .idxS (.c (.string ⟨#[48, 48, 48, 49, 48, 50, 48, 51, 48, 52, 48, 53, 48, 54, 48, 55, 48, 56, 48, 57, 49, 48, 49, 49, 49, 50, 49, 51, 49, 52, 49, 53, 49, 54, 49, 55, 49, 56, 49, 57, 50, 48, 50, 49, 50, 50, 50, 51, 50, 52, 50, 53, 50, 54, 50, 55, 50, 56, 50, 57, 51, 48, 51, 49, 51, 50, 51, 51, 51, 52, 51, 53, 51, 54, 51, 55, 51, 56, 51, 57, 52, 48, 52, 49, 52, 50, 52, 51, 52, 52, 52, 53, 52, 54, 52, 55, 52, 56, 52, 57, 53, 48, 53, 49, 53, 50, 53, 51, 53, 52, 53, 53, 53, 54, 53, 55, 53, 56, 53, 57, 54, 48, 54, 49, 54, 50, 54, 51, 54, 52, 54, 53, 54, 54, 54, 55, 54, 56, 54, 57, 55, 48, 55, 49, 55, 50, 55, 51, 55, 52, 55, 53, 55, 54, 55, 55, 55, 56, 55, 57, 56, 48, 56, 49, 56, 50, 56, 51, 56, 52, 56, 53, 56, 54, 56, 55, 56, 56, 56, 57, 57, 48, 57, 49, 57, 50, 57, 51, 57, 52, 57, 53, 57, 54, 57, 55, 57, 56, 57, 57]⟩)) (.t 130), none⟩, 8, false, false⟩, ⟨⟨(some 132), .mv (.t 14), none⟩, 9, false, false⟩, ⟨⟨(some 133), .idxS (.c (.string ⟨#[48, 48, 48, 49, 48, 50, 48, 51, 48, 52, 48, 53, 48, 54, 48, 55, 48, 56, 48, 57, 49, 48, 49, 49, 49, 50, 49, 51, 49, 52, 49, 53, 49, 54, 49, 55, 49, 56, 49, 57, 50, 48, 50, 49, 50, 50, 50, 51, 50, 52, 50, 53, 50, 54, 50, 55, 50, 56, 50, 57, 51, 48, 51, 49, 51, 50, 51, 51, 51, 52, 51, 53, 51, 54, 51, 55, 51, 56, 51, 57, 52, 48, 52, 49, 52, 50, 52, 51, 52, 52, 52, 53, 52, 54, 52, 55, 52, 56, 52, 57, 53, 48, 53, 49, 53, 50, 53, 51, 53, 52, 53, 53, 53, 54, 53, 55, 53, 56, 53, 57, 54, 48, 54, 49, 54, 50, 54, 51, 54, 52, 54, 53, 54, 54, 54, 55, 54, 56, 54, 57, 55, 48, 55, 49, 55, 50, 55, 51, 55, 52, 55, 53, 55, 54, 55, 55, 55, 56, 55, 57, 56, 48, 56, 49, 56, 50, 56, 51, 56, 52, 56, 53, 56, 54, 56, 55, 56, 56, 56, 57, 57, 48, 57, 49, 57, 50, 57, 51, 57, 52, 57, 53, 57, 54, 57, 55, 57, 56, 57, 57]⟩)) (.t 132), none⟩, 10, false, false⟩, ⟨⟨(some 134), .iaS 1 (.t 123) (.t 125), none⟩, 11, false, false⟩, ⟨⟨none, .store 1 (.t 134) (.t 131), none⟩, 12, true, false⟩, ⟨⟨(some 135), .iaS 1 (.t 126) (.t 128), none⟩, 13, false, false⟩, ⟨⟨none, .store 1 (.t 135) (.t 133), none⟩, 14, true, false⟩])
  (.ops [⟨(some 136), .mv (.t 4), none⟩, ⟨(some 137), .bin .sub (.t 136) (.c (.int .i64 4)), none⟩, ⟨(some 4), .mv (.t 137), none⟩])))))) .skip))
  (.seq (.seq (.ops [⟨(some 138), .mv (.t 4), none⟩, ⟨(some 139), .bin .geq (.t 138) (.c (.int .i64 2)), none⟩])
  (.cond (.t 139) (.seq (.ops [⟨(some 140), .mv (.t 12), none⟩, ⟨(some 141), .bin .rem (.t 140) (.c (.int .u32 100)), none⟩, ⟨(some 142), .bin .mul (.t 141) (.c (.int .u32 2)), none⟩, ⟨(some 16), .mv (.t 142), none⟩])
  (.seq (.ops [⟨(some 143), .mv (.t 12), none⟩, ⟨(some 144), .bin .quo (.t 143) (.c (.int .u32 100)), none⟩, ⟨(some 12), .mv (.t 144), none⟩])
  (.seq (.dops [⟨⟨(some 145), .mv (.t 0), none⟩, 0, false, false⟩, ⟨⟨(some 146), .mv (.t 4), none⟩, 1, false, false⟩, ⟨⟨(some 147), .bin .sub (.t 146) (.c (.int .i64 1)), none⟩, 2, false, false⟩, ⟨⟨(some 148), .mv (.t 0), none⟩, 3, false, false⟩, ⟨⟨(some 149), .mv (.t 4), none⟩, 4, false, false⟩, ⟨⟨(some 150), .bin .sub (.t 149) (.c (.int .i64 2)), none⟩, 5, false, false⟩, ⟨⟨(some 151), .mv (.t 16), none⟩, 6, false, false⟩, ⟨⟨(some 152), .bin .add (.t 151) (.c (.int .u32 1)), none⟩, 7, false, false⟩, ⟨⟨(some 153), .idxS (.c (.string ⟨#[48, 48, 48, 49, 48, 50, 48, 51, 48, 52, 48, 53, 48, 54, 48, 55, 48, 56, 48, 57, 49, 48, 49, 49, 49, 50, 49, 51, 49, 52, 49, 53, 49, 54, 49, 55, 49, 56, 49, 57, 50, 48, 50, 49, 50, 50, 50, 51, 50, 52, 50, 53, 50, 54, 50, 55, 50, 56, 50, 57, 51, 48, 51, 49, 51, 50, 51, 51, 51, 52, 51, 53, 51, 54, 51, 55, 51, 56, 51, 57, 52, 48, 52, 49, 52, 50, 52, 51, 52, 52, 52, 53, 52, 54, 52, 55, 52, 56, 52, 57, 53, 48, 53, 49, 53, 50, 53, 51, 53, 52, 53, 53, 53, 54, 53, 55, 53, 56, 53, 57, 54, 48, 54, 49, 54, 50, 54, 51, 54, 52, 54, 53, 54, 54, 54, 55, 54, 56, 54, 57, 55, 48, 55, 49, 55, 50, 55, 51, 55, 52, 55, 53, 55, 54, 55, 55, 55, 56, 55, 57, 56, 48, 56, 49, 56, 50, 56, 51, 56, 52, 56, 53, 56, 54, 56, 55, 56, 56, 56, 57, 57, 48, 57, 49, 57, 50, 57, 51, 57, 52, 57, 53, 57, 54, 57, 55, 57, 56, 57, 57]⟩)) (.t 152), none⟩, 8, false, false⟩, ⟨⟨(some 154), .mv (.t 16), none⟩, 9, false, false⟩, ⟨⟨(some 155), .idxS (.c (.string ⟨#[48, 48, 48, 49, 48, 50, 48, 51, 48, 52, 48, 53, 48, 54, 48, 55, 48, 56, 48, 57, 49, 48, 49, 49, 49, 50, 49, 51, 49, 52, 49, 53, 49, 54, 49, 55, 49, 56, 49, 57, 50, 48, 50, 49, 50, 50, 50, 51, 50, 52, 50, 53, 50, 54, 50, 55, 50, 56, 50, 57, 51, 48, 51, 49, 51, 50, 51, 51, 51, 52, 51, 53, 51, 54, 51, 55, 51, 56, 51, 57, 52, 48, 52, 49, 52, 50, 52, 51, 52, 52, 52, 53, 52, 54, 52, 55, 52, 56, 52, 57, 53, 48, 53, 49, 53, 50, 53, 51, 53, 52, 53, 53, 53, 54, 53, 55, 53, 56, 53, 57, 54, 48, 54, 49, 54, 50, 54, 51, 54, 52, 54, 53, 54, 54, 54, 55, 54, 56, 54, 57, 55, 48, 55, 49, 55, 50, 55, 51, 55, 52, 55, 53, 55, 54, 55, 55, 55, 56, 55, 57, 56, 48, 56, 49, 56, 50, 56, 51, 56, 52, 56, 53, 56, 54, 56, 55, 56, 56, 56, 57, 57, 48, 57, 49, 57, 50, 57, 51, 57, 52, 57, 53, 57, 54, 57, 55, 57, 56, 57, 57]⟩)) (.t 154), none⟩, 10, false, false⟩, ⟨⟨(some 156), .iaS 1 (.t 145) (.t 147), none⟩, 11, false, false⟩, ⟨⟨none, .store 1 (.t 156) (.t 153), none⟩, 12, true, false⟩, ⟨⟨(some 157), .iaS 1 (.t 148) (.t 150), none⟩, 13, false, false⟩, ⟨⟨none, .store 1 (.t 157) (.t 155), none⟩, 14, true, false⟩])
  (.ops [⟨(some 158), .mv (.t 4), none⟩, ⟨(some 159), .bin .sub (.t 158) (.c (.int .i64 2)), none⟩, ⟨(some 4), .mv (.t 159), none⟩])))) .skip))
  (.seq (.ops [⟨(some 160), .mv (.t 4), none⟩, ⟨(some 161), .bin .gtr (.t 160) (.c (.int .i64 0)), none⟩])
  (.cond (.t 161) (.ops [⟨(some 162), .mv (.t 0), none⟩, ⟨(some 163), .mv (.t 12), none⟩, ⟨(some 164), .bin .add (.c (.int .u32 48)) (.t 163), none⟩, ⟨(some 165), .conv .u8 (.t 164), none⟩, ⟨(some 166), .iaS 1 (.t 162) (.c (.int .i64 0)), none⟩, ⟨none, .store 1 (.t 166) (.t 165), none⟩]) .skip)))))))
def r105 : List RV := []
theorem fn105 : cFn Tryd.prog 105 = some (c105, r105, 167) := by kernel_rfl

/-- internal/strconv.formatBits -/
def c106 : MC :=
  (.seq (.ops [⟨(some 10), .mv (.c (.slice none 0 0)), none⟩, ⟨(some 11), .mv (.c (.string ⟨#[]⟩)), none⟩])
  (.seq (.seq (.ops [⟨(some 19), .mv (.t 2), none⟩, ⟨(some 20), .bin .lss (.t 19) (.c (.int .i64 2)), none⟩, ⟨(some 21), .mv (.t 20), none⟩, ⟨(some 22), .mv (.t 2), (some (21, false))⟩, ⟨(some 23), .bin .eql (.t 22) (.c (.int .i64 10)), (some (21, false))⟩, ⟨(some 24), .pick (.t 21) (.c (.bool true)) (.t 23), none⟩, ⟨(some 25), .mv (.t 24), none⟩, ⟨(some 26), .mv (.t 2), (some (25, false))⟩, ⟨(some 27), .bin .gtr (.t 26) (.c (.int .i64 36)), (some (25, false))⟩, ⟨(some 28), .pick (.t 25) (.c (.bool true)) (.t 27), none⟩])
  (.cond (.t 28) (.ops [⟨(some 29), .mki 9 (.c (.string ⟨#[115, 116, 114, 99, 111, 110, 118, 58, 32, 105, 108, 108, 101, 103, 97, 108, 32, 65, 112, 112, 101, 110, 100, 73, 110, 116, 47, 70, 111, 114, 109, 97, 116, 73, 110, 116, 32, 98, 97, 115, 101]⟩)), none⟩, ⟨none, .bad, none⟩]) .skip))
  (.seq (.ops [⟨(some 12), .alloc (List.replicate 65 (.int .u8 0)), none⟩])
  (.seq (.ops [⟨(some 13), .mv (.c (.int .i64 65)), none⟩])
  (.seq (.seq (.ops [⟨(some 30), .mv (.t 3), none⟩])
  (.cond (.t 30) (.ops [⟨(some 31), .mv (.t 1), none⟩, ⟨(some 32), .neg (.t 31), none⟩, ⟨(some 1), .mv (.t 32), none⟩]) .skip))
  (.seq (.seq (.ops [⟨(some 33), .mv (.t 2), none⟩, ⟨(some 34), .call 117 [(.t 33)], none⟩])
  (.cond (.t 34) (.seq (.ops [⟨(some 35), .mv (.t 2), none⟩, ⟨(some 36), .conv .u64 (.t 35), none⟩, ⟨(some 37), .call 118 [(.t 36)], none⟩, ⟨(some 38), .conv .u64 (.t 37), none⟩, ⟨(some 14), .mv (.t 38), none⟩])
  (.seq (.ops [⟨(some 39), .mv (.t 2), none⟩, ⟨(some 40), .conv .u64 (.t 39), none⟩, ⟨(some 15), .mv (.t 40), none⟩])
  (.seq (.ops [⟨(some 41), .mv (.t 2), none⟩, ⟨(some 42), .conv .u64 (.t 41), none⟩, ⟨(some 43), .bin .sub (.t 42) (.c (.int .u64 1)), none⟩, ⟨(some 16), .mv (.t 43), none⟩])
  (.seq (.block 0 (.loop (.seq (.seq (.ops [⟨(some 44), .mv (.t 1), none⟩, ⟨(some 45), .mv (.t 15), none⟩, ⟨(some 46), .bin .geq (.t 44) (.t 45), none⟩])
  (.cond (.t 46) .skip (.exit 0)))
  (.block 1 (.seq (.ops [⟨(some 47), .mv (.t 13), none⟩, ⟨(some 48), .bin .sub (.t 47) (.c (.int .i64 1)), none⟩, ⟨(some 13), .mv (.t 48), none⟩])
  (.seq (.ops [⟨(some 49), .mv (.t 13), none⟩, ⟨(some 50), .mv (.t 1), none⟩, ⟨(some 51), .mv (.t 16), none⟩, ⟨(some 52), .bin .and (.t 50) (.t 51), none⟩, ⟨(some 53), .idxS (.c (.string ⟨#[48, 49, 50, 51, 52, 53, 54, 55, 56, 57, 97, 98, 99, 100, 101, 102, 103, 104, 105, 106, 107, 108, 109, 110, 111, 112, 113, 114, 115, 116, 117, 118, 119, 120, 121, 122]⟩)) (.t 52), none⟩, ⟨(some 54), .iaA 65 1 (.t 12) (.t 49), none⟩, ⟨none, .store 1 (.t 54) (.t 53), none⟩])
  (.ops [⟨(some 55), .mv (.t 1), none⟩, ⟨(some 56), .mv (.t 14), none⟩, ⟨(some 57), .bin .shr (.t 55) (.t 56), none⟩, ⟨(some 1), .mv (.t 57), none⟩])))))))
  (.seq (.ops [⟨(some 58), .mv (.t 13), none⟩, ⟨(some 59), .bin .sub (.t 58) (.c (.int .i64 1)), none⟩, ⟨(some 13), .mv (.t 59), none⟩])
  (.ops [⟨(some 60), .mv (.t 13), none⟩, ⟨(some 61), .mv (.t 1), none⟩, ⟨(some 62), .idxS (.c (.string ⟨#[48, 49, 50, 51, 52, 53, 54, 55, 56, 57, 97, 98, 99, 100, 101, 102, 103, 104, 105, 106, 107, 108, 109, 110, 111, 112, 113, 114, 115, 116, 117, 118, 119, 120, 121, 122]⟩)) (.t 61), none⟩, ⟨(some 63), .iaA 65 1 (.t 12) (.t 60), none⟩, ⟨none, .store 1 (.t 63) (.t 62), none⟩])))))) (.seq (.ops [⟨(some 64), .mv (.t 2), none⟩, ⟨(some 65), .conv .u64 (.t 64), none⟩, ⟨(some 17), .mv (.t 65), none⟩])
  (.seq (.block 2 (.loop (.seq (.seq (.ops [⟨(some 66), .mv (.t 1), none⟩, ⟨(some 67), .mv (.t 17), none⟩, ⟨(some 68), .bin .geq (.t 66) (.t 67), none⟩])
  (.cond (.t 68) .skip (.exit 2)))
  (.block 3 (.seq (.ops [⟨(some 69), .mv (.t 13), none⟩, ⟨(some 70), .bin .sub (.t 69) (.c (.int .i64 1)), none⟩, ⟨(some 13), .mv (.t 70), none⟩])
  (.seq (.ops [⟨(some 71), .mv (.t 1), none⟩, ⟨(some 72), .mv (.t 17), none⟩, ⟨(some 73), .bin .quo (.t 71) (.t 72), none⟩, ⟨(some 18), .mv (.t 73), none⟩])
  (.seq (.ops [⟨(some 74), .mv (.t 13), none⟩, ⟨(some 75), .mv (.t 1), none⟩, ⟨(some 76), .mv (.t 18), none⟩, ⟨(some 77), .mv (.t 17), none⟩, ⟨(some 78), .bin .mul (.t 76) (.t 77), none⟩, ⟨(some 79), .bin .sub (.t 75) (.t 78), none⟩, ⟨(some 80), .idxS (.c (.string ⟨#[48, 49, 50, 51, 52, 53, 54, 55, 56, 57, 97, 98, 99, 100, 101, 102, 103, 104, 105, 106, 107, 108, 109, 110, 111, 112, 113, 114, 115, 116, 117, 118, 119, 120, 121, 122]⟩)) (.t 79), none⟩, ⟨(some 81), .iaA 65 1 (.t 12) (.t 74), none⟩, ⟨none, .store 1 (.t 81) (.t 80), none⟩])
  (.ops [⟨(some 82), .mv (.t 18), none⟩, ⟨(some 1), .mv (.t 82), none⟩]))))))))
  (.seq (.ops [⟨(some 83), .mv (.t 13), none⟩, ⟨(some 84), .bin .sub (.t 83) (.c (.int .i64 1)), none⟩, ⟨(some 13), .mv (.t 84), none⟩])
  (.ops [⟨(some 85), .mv (.t 13), none⟩, ⟨(some 86), .mv (.t 1), none⟩, ⟨(some 87), .idxS (.c (.string ⟨#[48, 49, 50, 51, 52, 53, 54, 55, 56, 57, 97, 98, 99, 100, 101, 102, 103, 104, 105, 106, 107, 108, 109, 110, 111, 112, 113, 114, 115, 116, 117, 118, 119, 120, 121, 122]⟩)) (.t 86), none⟩, ⟨(some 88), .iaA 65 1 (.t 12) (.t 85), none⟩, ⟨none, .store 1 (.t 88) (.t 87), none⟩]))))))
  (.seq (.seq (.ops [⟨(some 89), .mv (.t 3), none⟩])
  (.cond (.t 89) (.seq (.ops [⟨(some 90), .mv (.t 13), none⟩, ⟨(some 91), .bin .sub (.t 90) (.c (.int .i64 1)), none⟩, ⟨(some 13), .mv (.t 91), none⟩])
  (.ops [⟨(some 92), .mv (.t 13), none⟩, ⟨(some 93), .iaA 65 1 (.t 12) (.t 92), none⟩, ⟨none, .store 1 (.t 93) (.c (.int .u8 45)), none⟩])) .skip))
  (.seq (.seq (.ops [⟨(some 94), .mv (.t 4), none⟩])
  (.cond (.t 94) (.seq (.ops [⟨(some 95), .mv (.t 0), none⟩, ⟨(some 96), .mv (.t 13), none⟩, ⟨(some 97), .slcA 65 1 (.t 12) (some (.t 96)) none, none⟩, ⟨(some 98), .app 1 1 (.t 95) (.t 97), none⟩, ⟨(some 10), .mv (.t 98), none⟩])
  .ret) .skip))
  (.seq (.ops [⟨(some 99), .mv (.t 13), none⟩, ⟨(some 100), .slcA 65 1 (.t 12) (some (.t 99)) none, none⟩, ⟨(some 101), .b2s (.t 100), none⟩, ⟨(some 11), .mv (.t 101), none⟩])
  .ret)))))))))
def r106 : List RV := [.t 10, .t 11]
theorem fn106 : cFn Tryd.prog 106 = some (c106, r106, 102) := by kernel_rfl

/-- internal/strconv.ParseInt -/
def c107 : MC :=
  (.seq (.ops [⟨(some 6), .mv (.c (.int .i64 0)), none⟩, ⟨(some 7), .mv (.c .nilIface), none⟩])
  (.seq (.seq (.ops [⟨(some 12), .mv (.t 0), none⟩, ⟨(some 13), .bin .eql (.t 12) (.c (.string ⟨#[]⟩)), none⟩])
  (.cond (.t 13) (.seq (.ops [⟨(some 14), .mki 169 (.c (.int .i64 2)), none⟩, ⟨(some 6), .mv (.c (.int .i64 0)), none⟩, ⟨(some 7), .mv (.t 14), none⟩])
  .ret) .skip))
  (.seq (.ops [⟨(some 8), .mv (.c (.bool false)), none⟩])
  (.seq (.seq (.ops [⟨(some 15), .mv (.t 0), none⟩, ⟨(some 16), .idxS (.t 15) (.c (.int .i64 0)), none⟩])
  (.block 0 (.seq (.ops [⟨(some 18), .bin .eql (.t 16) (.c (.int .u8 43)), none⟩, ⟨(some 17), .mv (.t 18), none⟩])
  (.cond (.t 17) (.ops [⟨(some 19), .mv (.t 0), none⟩, ⟨(some 20), .slcS (.t 19) (some (.c (.int .i64 1))) none, none⟩, ⟨(some 0), .mv (.t 20), none⟩]) (.seq (.ops [⟨(some 22), .bin .eql (.t 16) (.c (.int .u8 45)), none⟩, ⟨(some 21), .mv (.t 22), none⟩])
  (.cond (.t 21) (.seq (.ops [⟨(some 23), .mv (.t 0), none⟩, ⟨(some 24), .slcS (.t 23) (some (.c (.int .i64 1))) none, none⟩, ⟨(some 0), .mv (.t 24), none⟩])
  (.ops [⟨(some 8), .mv (.c (.bool true)), none⟩])) .skip))))))
  (.seq (.ops [⟨(some 9), .mv (.c (.int .u64 0)), none⟩])
  (.seq (.ops [⟨(some 26), .mv (.t 0), none⟩, ⟨(some 27), .mv (.t 1), none⟩, ⟨(some 28), .mv (.t 2), none⟩, ⟨(some 29), .call 119 [(.t 26), (.t 27), (.t 28)], none⟩, ⟨(some 25), .mv (.t 29), none⟩, ⟨(some 30), .ext (.t 25) 0, none⟩, ⟨(some 31), .ext (.t 25) 1, none⟩, ⟨(some 9), .mv (.t 30), none⟩, ⟨(some 7), .mv (.t 31), none⟩])
  (.seq (.seq (.ops [⟨(some 32), .mv (.t 7), none⟩, ⟨(some 33), .eqN .iface true (.t 32) (.c .nilIface), none⟩, ⟨(some 34), .mv (.t 33), none⟩, ⟨(some 35), .mv (.t 7), (some (34, true))⟩, ⟨(some 36), .mki 169 (.c (.int .i64 1)), (some (34, true))⟩, ⟨(some 37), .bad, (some (34, true))⟩, ⟨(some 38), .pick (.t 34) (.t 37) (.c (.bool false)), none⟩])
  (.cond (.t 38) (.seq (.ops [⟨(some 39), .mv (.t 7), none⟩, ⟨(some 6), .mv (.c (.int .i64 0)), none⟩, ⟨(some 7), .mv (.t 39), none⟩])
  .ret) .skip))
  (.seq (.seq (.ops [⟨(some 40), .mv (.t 2), none⟩, ⟨(some 41), .bin .eql (.t 40) (.c (.int .i64 0)), none⟩])
  (.cond (.t 41) (.ops [⟨(some 2), .mv (.c (.int .i64 64)), none⟩]) .skip))
  (.seq (.ops [⟨(some 42), .mv (.t 2), none⟩, ⟨(some 43), .bin .sub (.t 42) (.c (.int .i64 1)), none⟩, ⟨(some 44), .conv .u64 (.t 43), none⟩, ⟨(some 45), .bin .shl (.c (.int .u64 1)) (.t 44), none⟩, ⟨(some 10), .mv (.t 45), none⟩])
  (.seq (.seq (.ops [⟨(some 46), .mv (.t 8), none⟩, ⟨(some 47), .not (.t 46), none⟩, ⟨(some 48), .mv (.t 47), none⟩, ⟨(some 49), .mv (.t 9), (some (48, true))⟩, ⟨(some 50), .mv (.t 10), (some (48, true))⟩, ⟨(some 51), .bin .geq (.t 49) (.t 50), (some (48, true))⟩, ⟨(some 52), .pick (.t 48) (.t 51) (.c (.bool false)), none⟩])
  (.cond (.t 52) (.seq (.ops [⟨(some 53), .mv (.t 10), none⟩, ⟨(some 54), .bin .sub (.t 53) (.c (.int .u64 1)), none⟩, ⟨(some 55), .conv .i64 (.t 54), none⟩, ⟨(some 56), .mki 169 (.c (.int .i64 1)), none⟩, ⟨(some 6), .mv (.t 55), none⟩, ⟨(some 7), .mv (.t 56), none⟩])
  .ret) .skip))
  (.seq (.seq (.ops [⟨(some 57), .mv (.t 8), none⟩, ⟨(some 58), .mv (.t 57), none⟩, ⟨(some 59), .mv (.t 9), (some (58, true))⟩, ⟨(some 60), .mv (.t 10), (some (58, true))⟩, ⟨(some 61), .bin .gtr (.t 59) (.t 60), (some (58, true))⟩, ⟨(some 62), .pick (.t 58) (.t 61) (.c (.bool false)), none⟩])
  (.cond (.t 62) (.seq (.ops [⟨(some 63), .mv (.t 10), none⟩, ⟨(some 64), .conv .i64 (.t 63), none⟩, ⟨(some 65), .neg (.t 64), none⟩, ⟨(some 66), .mki 169 (.c (.int .i64 1)), none⟩, ⟨(some 6), .mv (.t 65), none⟩, ⟨(some 7), .mv (.t 66), none⟩])
  .ret) .skip))
  (.seq (.ops [⟨(some 67), .mv (.t 9), none⟩, ⟨(some 68), .conv .i64 (.t 67), none⟩, ⟨(some 11), .mv (.t 68), none⟩])
  (.seq (.seq (.ops [⟨(some 69), .mv (.t 8), none⟩])
  (.cond (.t 69) (.ops [⟨(some 70), .mv (.t 11), none⟩, ⟨(some 71), .neg (.t 70), none⟩, ⟨(some 11), .mv (.t 71), none⟩]) .skip))
  (.seq (.ops [⟨(some 72), .mv (.t 11), none⟩, ⟨(some 6), .mv (.t 72), none⟩, ⟨(some 7), .mv (.c .nilIface), none⟩])
  .ret))))))))))))))
def r107 : List RV := [.t 6, .t 7]
theorem fn107 : cFn Tryd.prog 107 = some (c107, r107, 73) := by kernel_rfl

/-- strconv.baseError -/
def c110 : MC :=
  (.seq (.ops [⟨(some 6), .mv (.c (.pointer none)), none⟩])
  (.seq (.ops [⟨(some 7), .mv (.t 0), none⟩, ⟨(some 8), .mv (.t 1), none⟩, ⟨(some 9), .call 120 [(.t 8)], none⟩, ⟨(some 10), .mv (.t 2), none⟩, ⟨(some 11), .call 44 [(.t 10)], none⟩, ⟨(some 12), .bin .add (.c (.string ⟨#[105, 110, 118, 97, 108, 105, 100, 32, 98, 97, 115, 101, 32]⟩)) (.t 11), none⟩, ⟨(some 13), .call 121 [(.t 12)], none⟩, ⟨(some 14), .bld [(.string ⟨#[]⟩), (.string ⟨#[]⟩), .nilIface] [(0, 1, (.t 7)), (1, 1, (.t 9)), (2, 1, (.t 13))], none⟩, ⟨(some 15), .box (.t 14), none⟩, ⟨(some 6), .mv (.t 15), none⟩])
  .ret))
def r110 : List RV := [.t 6]
theorem fn110 : cFn Tryd.prog 110 = some (c110, r110, 16) := by kernel_rfl

/-- strconv.bitSizeError -/
def c111 : MC :=
  (.seq (.ops [⟨(some 6), .mv (.c (.pointer none)), none⟩])
  (.seq (.ops [⟨(some 7), .mv (.t 0), none⟩, ⟨(some 8), .mv (.t 1), none⟩, ⟨(some 9), .call 120 [(.t 8)], none⟩, ⟨(some 10), .mv (.t 2), none⟩, ⟨(some 11), .call 44 [(.t 10)], none⟩, ⟨(some 12), .bin .add (.c (.string ⟨#[105, 110, 118, 97, 108, 105, 100, 32, 98, 105, 116, 32, 115, 105, 122, 101, 32]⟩)) (.t 11), none⟩, ⟨(some 13), .call 121 [(.t 12)], none⟩, ⟨(some 14), .bld [(.string ⟨#[]⟩), (.string ⟨#[]⟩), .nilIface] [(0, 1, (.t 7)), (1, 1, (.t 9)), (2, 1, (.t 13))], none⟩, ⟨(some 15), .box (.t 14), none⟩, ⟨(some 6), .mv (.t 15), none⟩])
  .ret))
def r111 : List RV := [.t 6]
theorem fn111 : cFn Tryd.prog 111 = some (c111, r111, 16) := by kernel_rfl

/-- unicode/utf8.RuneStart -/
def c113 : MC :=
  (.seq (.ops [⟨(some 2), .mv (.c (.bool false)), none⟩])
  (.seq (.ops [⟨(some 3), .mv (.t 0), none⟩, ⟨(some 4), .bin .and (.t 3) (.c (.int .u8 192)), none⟩, ⟨(some 5), .bin .neq (.t 4) (.c (.int .u8 128)), none⟩, ⟨(some 2), .mv (.t 5), none⟩])
  .ret))
def r113 : List RV := [.t 2]
theorem fn113 : cFn Tryd.prog 113 = some (c113, r113, 6) := by kernel_rfl

/-- internal/strconv.log10Pow2 -/
def c114 : MC :=
  (.seq (.ops [⟨(some 2), .mv (.c (.int .i64 0)), none⟩])
  (.seq (.ops [⟨(some 3), .mv (.t 0), none⟩, ⟨(some 4), .bin .mul (.t 3) (.c (.int .i64 78913)), none⟩, ⟨(some 5), .bin .shr (.t 4) (.c (.int .u64 18)), none⟩, ⟨(some 2), .mv (.t 5), none⟩])
  .ret))
def r114 : List RV := [.t 2]
theorem fn114 : cFn Tryd.prog 114 = some (c114, r114, 6) := by kernel_rfl

/-- math/bits.Len64 -/
def c115 : MC :=
  (.seq (.ops [⟨(some 2), .mv (.c (.int .i64 0)), none⟩])
  (.seq (.seq (.ops [⟨(some 3), .mv (.t 0), none⟩, ⟨(some 4), .bin .geq (.t 3) (.c (.int .u64 4294967296)), none⟩])
  (.cond (.t 4) (.seq (.ops [⟨(some 5), .mv (.t 0), none⟩, ⟨(some 6), .bin .shr (.t 5) (.c (.int .u64 32)), none⟩, ⟨(some 0), .mv (.t 6), none⟩])
  (.ops [⟨(some 2), .mv (.c (.int .i64 32)), none⟩])) .skip))
  (.seq (.seq (.ops [⟨(some 7), .mv (.t 0), none⟩, ⟨(some 8), .bin .geq (.t 7) (.c (.int .u64 65536)), none⟩])
  (.cond (.t 8) (.seq (.ops [⟨(some 9), .mv (.t 0), none⟩, ⟨(some 10), .bin .shr (.t 9) (.c (.int .u64 16)), none⟩, ⟨(some 0), .mv (.t 10), none⟩])
  (.ops [⟨(some 11), .mv (.t 2), none⟩, ⟨(some 12), .bin .add (.t 11) (.c (.int .i64 16)), none⟩, ⟨(some 2), .mv (.t 12), none⟩])) .skip))
  (.seq (.seq (.ops [⟨(some 13), .mv (.t 0), none⟩, ⟨(some 14), .bin .geq (.t 13) (.c (.int .u64 256)), none⟩])
  (.cond (.t 14) (.seq (.ops [⟨(some 15), .mv (.t 0), none⟩, ⟨(some 16), .bin .shr (.t 15) (.c (.int .u64 8)), none⟩, ⟨(some 0), .mv (.t 16), none⟩])
  (.ops [⟨(some 17), .mv (.t 2), none⟩, ⟨(some 18), .bin .add (.t 17) (.c (.int .i64 8)), none⟩, ⟨(some 2), .mv (.t 18), none⟩])) .skip))
  (.seq (.ops [⟨(some 19), .mv (.t 2), none⟩, ⟨(some 20), .mv (.t 0), none⟩, ⟨(some 21), .conv .u8 (.t 20), none⟩, ⟨(some 22), .idxS (.c (.string ⟨#[0, 1, 2, 2, 3, 3, 3, 3, 4, 4, 4, 4, 4, 4, 4, 4, 5, 5, 5, 5, 5, 5, 5, 5, 5, 5, 5, 5, 5, 5, 5, 5, 6, 6, 6, 6, 6, 6, 6, 6, 6, 6, 6, 6, 6, 6, 6, 6, 6, 6, 6, 6, 6, 6, 6, 6, 6, 6, 6, 6, 6, 6, 6, 6, 7, 7, 7, 7, 7, 7, 7, 7, 7, 7, 7, 7, 7, 7, 7, 7, 7, 7, 7, 7, 7, 7, 7, 7, 7, 7, 7, 7, 7, 7, 7, 7, 7, 7, 7, 7, 7, 7, 7, 7, 7, 7, 7, 7, 7, 7, 7, 7, 7, 7, 7, 7, 7, 7, 7, 7, 7, 7, 7, 7, 7, 7, 7, 7, 8, 8, 8, 8, 8, 8, 8, 8, 8, 8, 8, 8, 8, 8, 8, 8, 8, 8, 8, 8, 8, 8, 8, 8, 8, 8, 8, 8, 8, 8, 8, 8, 8, 8, 8, 8, 8, 8, 8, 8, 8, 8, 8, 8, 8, 8, 8, 8, 8, 8, 8, 8, 8, 8, 8, 8, 8, 8, 8, 8, 8, 8, 8, 8, 8, 8, 8, 8, 8, 8, 8, 8, 8, 8, 8, 8, 8, 8, 8, 8, 8, 8, 8, 8, 8, 8, 8, 8, 8, 8, 8, 8, 8, 8, 8, 8, 8, 8, 8, 8, 8, 8, 8, 8, 8, 8, 8, 8, 8, 8, 8, 8, 8, 8, 8, 8, 8, 8, 8, 8, 8, 8, 8, 8, 8, 8, 8, 8]⟩)) (.t 21), none⟩, ⟨(some 23), .conv .i64 (.t 22), none⟩, ⟨(some 24), .bin .add (.t 19) (.t 23), none⟩, ⟨(some 2), .mv (.t 24), none⟩])
  .ret)))))
def r115 : List RV := [.t 2]
theorem fn115 : cFn Tryd.prog 115 = some (c115, r115, 25) := by kernel_rfl

/-- internal/strconv.bool2[int] -/
def c116 : MC :=
  (.seq (.ops [⟨(some 2), .mv (.c (.int .i64 0)), none⟩])
  (.seq (.seq (.ops [⟨(some 3), .mv (.t 0), none⟩])
  (.cond (.t 3) (.seq (.ops [⟨(some 2), .mv (.c (.int .i64 1)), none⟩])
  .ret) .skip))
  (.seq (.ops [⟨(some 2), .mv (.c (.int .i64 0)), none⟩])
  .ret)))
def r116 : List RV := [.t 2]
theorem fn116 : cFn Tryd.prog 116 = some (c116, r116, 4) := by kernel_rfl

/-- internal/strconv.isPowerOfTwo -/
def c117 : MC :=
  (.seq (.ops [⟨(some 2), .mv (.c (.bool false)), none⟩])
  (.seq (.ops [⟨(some 3), .mv (.t 0), none⟩, ⟨(some 4), .mv (.t 0), none⟩, ⟨(some 5), .bin .sub (.t 4) (.c (.int .i64 1)), none⟩, ⟨(some 6), .bin .and (.t 3) (.t 5), none⟩, ⟨(some 7), .bin .eql (.t 6) (.c (.int .i64 0)), none⟩, ⟨(some 2), .mv (.t 7), none⟩])
  .ret))
def r117 : List RV := [.t 2]
theorem fn117 : cFn Tryd.prog 117 = some (c117, r117, 8) := by kernel_rfl

/-- math/bits.TrailingZeros -/
def c118 : MC :=
  (.seq (.ops [⟨(some 2), .mv (.c (.int .i64 0)), none⟩])
  (.seq (.cond (.c (.bool false)) (.seq (.ops [⟨(some 3), .mv (.t 0), none⟩, ⟨(some 4), .conv .u32 (.t 3), none⟩, ⟨(some 5), .call 122 [(.t 4)], none⟩, ⟨(some 2), .mv (.t 5), none⟩])
  .ret) .skip)
  (.seq (.ops [⟨(some 6), .mv (.t 0), none⟩, ⟨(some 7), .call 123 [(.t 6)], none⟩, ⟨(some 2), .mv (.t 7), none⟩])
  .ret)))
def r118 : List RV := [.t 2]
theorem fn118 : cFn Tryd.prog 118 = some (c118, r118, 8) := by kernel_rfl

/-- internal/strconv.ParseUint -/
def c119 : MC :=
  (.seq (.ops [⟨(some 6), .mv (.c (.int .u64 0)), none⟩, ⟨(some 7), .mv (.c .nilIface), none⟩])
  (.seq (.seq (.ops [⟨(some 18), .mv (.t 0), none⟩, ⟨(some 19), .bin .eql (.t 18) (.c (.string ⟨#[]⟩)), none⟩])
  (.cond (.t 19) (.seq (.ops [⟨(some 20), .mki 169 (.c (.int .i64 2)), none⟩, ⟨(some 6), .mv (.c (.int .u64 0)), none⟩, ⟨(some 7), .mv (.t 20), none⟩])
  .ret) .skip))
  (.seq (.ops [⟨(some 21), .mv (.t 1), none⟩, ⟨(some 22), .bin .eql (.t 21) (.c (.int .i64 0)), none⟩, ⟨(some 8), .mv (.t 22), none⟩])
  (.seq (.ops [⟨(some 23), .mv (.t 0), none⟩, ⟨(some 9), .mv (.t 23), none⟩])
  (.seq (.block 0 (.seq (.ops [⟨(some 26), .mv (.t 1), none⟩, ⟨(some 27), .bin .leq (.c (.int .i64 2)) (.t 26), none⟩, ⟨(some 28), .mv (.t 27), none⟩, ⟨(some 29), .mv (.t 1), (some (28, true))⟩, ⟨(some 30), .bin .leq (.t 29) (.c (.int .i64 36)), (some (28, true))⟩, ⟨(some 31), .pick (.t 28) (.t 30) (.c (.bool false)), none⟩, ⟨(some 25), .mv (.t 31), none⟩])
  (.cond (.t 25) .skip (.seq (.ops [⟨(some 33), .mv (.t 1), none⟩, ⟨(some 34), .bin .eql (.t 33) (.c (.int .i64 0)), none⟩, ⟨(some 32), .mv (.t 34), none⟩])
  (.cond (.t 32) (.seq (.ops [⟨(some 1), .mv (.c (.int .i64 10)), none⟩])
  (.seq (.ops [⟨(some 35), .mv (.t 0), none⟩, ⟨(some 36), .idxS (.t 35) (.c (.int .i64 0)), none⟩, ⟨(some 37), .bin .eql (.t 36) (.c (.int .u8 48)), none⟩])
  (.cond (.t 37) (.block 1 (.seq (.ops [⟨(some 41), .mv (.t 0), none⟩, ⟨(some 42), .len true (.t 41), none⟩, ⟨(some 43), .bin .geq (.t 42) (.c (.int .i64 3)), none⟩, ⟨(some 44), .mv (.t 43), none⟩, ⟨(some 45), .mv (.t 0), (some (44, true))⟩, ⟨(some 46), .idxS (.t 45) (.c (.int .i64 1)), (some (44, true))⟩, ⟨(some 47), .call 124 [(.t 46)], (some (44, true))⟩, ⟨(some 48), .bin .eql (.t 47) (.c (.int .u8 98)), (some (44, true))⟩, ⟨(some 49), .pick (.t 44) (.t 48) (.c (.bool false)), none⟩, ⟨(some 40), .mv (.t 49), none⟩])
  (.cond (.t 40) (.seq (.ops [⟨(some 1), .mv (.c (.int .i64 2)), none⟩])
  (.ops [⟨(some 50), .mv (.t 0), none⟩, ⟨(some 51), .slcS (.t 50) (some (.c (.int .i64 2))) none, none⟩, ⟨(some 0), .mv (.t 51), none⟩])) (.seq (.ops [⟨(some 53), .mv (.t 0), none⟩, ⟨(some 54), .len true (.t 53), none⟩, ⟨(some 55), .bin .geq (.t 54) (.c (.int .i64 3)), none⟩, ⟨(some 56), .mv (.t 55), none⟩, ⟨(some 57), .mv (.t 0), (some (56, true))⟩, ⟨(some 58), .idxS (.t 57) (.c (.int .i64 1)), (some (56, true))⟩, ⟨(some 59), .call 124 [(.t 58)], (some (56, true))⟩, ⟨(some 60), .bin .eql (.t 59) (.c (.int .u8 111)), (some (56, true))⟩, ⟨(some 61), .pick (.t 56) (.t 60) (.c (.bool false)), none⟩, ⟨(some 52), .mv (.t 61), none⟩])
  (.cond (.t 52) (.seq (.ops [⟨(some 1), .mv (.c (.int .i64 8)), none⟩])
  (.ops [⟨(some 62), .mv (.t 0), none⟩, ⟨(some 63), .slcS (.t 62) (some (.c (.int .i64 2))) none, none⟩, ⟨(some 0), .mv (.t 63), none⟩])) (.seq (.ops [⟨(some 65), .mv (.t 0), none⟩, ⟨(some 66), .len true (.t 65), none⟩, ⟨(some 67), .bin .geq (.t 66) (.c (.int .i64 3)), none⟩, ⟨(some 68), .mv (.t 67), none⟩, ⟨(some 69), .mv (.t 0), (some (68, true))⟩, ⟨(some 70), .idxS (.t 69) (.c (.int .i64 1)), (some (68, true))⟩, ⟨(some 71), .call 124 [(.t 70)], (some (68, true))⟩, ⟨(some 72), .bin .eql (.t 71) (.c (.int .u8 120)), (some (68, true))⟩, ⟨(some 73), .pick (.t 68) (.t 72) (.c (.bool false)), none⟩, ⟨(some 64), .mv (.t 73), none⟩])
  (.cond (.t 64) (.seq (.ops [⟨(some 1), .mv (.c (.int .i64 16)), none⟩])
  (.ops [⟨(some 74), .mv (.t 0), none⟩, ⟨(some 75), .slcS (.t 74) (some (.c (.int .i64 2))) none, none⟩, ⟨(some 0), .mv (.t 75), none⟩])) (.seq (.ops [⟨(some 1), .mv (.c (.int .i64 8)), none⟩])
  (.ops [⟨(some 38), .mv (.t 0), none⟩, ⟨(some 39), .slcS (.t 38) (some (.c (.int .i64 1))) none, none⟩, ⟨(some 0), .mv (.t 39), none⟩]))))))))) .skip))) (.seq (.ops [⟨(some 24), .mki 169 (.c (.int .i64 3)), none⟩, ⟨(some 6), .mv (.c (.int .u64 0)), none⟩, ⟨(some 7), .mv (.t 24), none⟩])
  .ret))))))
  (.seq (.seq (.ops [⟨(some 76), .mv (.t 2), none⟩, ⟨(some 77), .bin .eql (.t 76) (.c (.int .i64 0)), none⟩])
  (.cond (.t 77) (.ops [⟨(some 2), .mv (.c (.int .i64 64)), none⟩]) (.seq (.ops [⟨(some 78), .mv (.t 2), none⟩, ⟨(some 79), .bin .lss (.t 78) (.c (.int .i64 0)), none⟩, ⟨(some 80), .mv (.t 79), none⟩, ⟨(some 81), .mv (.t 2), (some (80, false))⟩, ⟨(some 82), .bin .gtr (.t 81) (.c (.int .i64 64)), (some (80, false))⟩, ⟨(some 83), .pick (.t 80) (.c (.bool true)) (.t 82), none⟩])
  (.cond (.t 83) (.seq (.ops [⟨(some 84), .mki 169 (.c (.int .i64 4)), none⟩, ⟨(some 6), .mv (.c (.int .u64 0)), none⟩, ⟨(some 7), .mv (.t 84), none⟩])
  .ret) .skip))))
  (.seq (.ops [⟨(some 10), .mv (.c (.int .u64 0)), none⟩])
  (.seq (.seq (.ops [⟨(some 85), .mv (.t 1), none⟩])
  (.block 2 (.seq (.ops [⟨(some 91), .bin .eql (.t 85) (.c (.int .i64 10)), none⟩, ⟨(some 90), .mv (.t 91), none⟩])
  (.cond (.t 90) (.ops [⟨(some 10), .mv (.c (.int .u64 1844674407370955162)), none⟩]) (.seq (.ops [⟨(some 93), .bin .eql (.t 85) (.c (.int .i64 16)), none⟩, ⟨(some 92), .mv (.t 93), none⟩])
  (.cond (.t 92) (.ops [⟨(some 10), .mv (.c (.int .u64 1152921504606846976)), none⟩]) (.ops [⟨(some 86), .mv (.t 1), none⟩, ⟨(some 87), .conv .u64 (.t 86), none⟩, ⟨(some 88), .bin .quo (.c (.int .u64 18446744073709551615)) (.t 87), none⟩, ⟨(some 89), .bin .add (.t 88) (.c (.int .u64 1)), none⟩, ⟨(some 10), .mv (.t 89), none⟩])))))))
  (.seq (.ops [⟨(some 94), .mv (.t 2), none⟩, ⟨(some 95), .conv .u64 (.t 94), none⟩, ⟨(some 96), .bin .shl (.c (.int .u64 1)) (.t 95), none⟩, ⟨(some 97), .bin .sub (.t 96) (.c (.int .u64 1)), none⟩, ⟨(some 11), .mv (.t 97), none⟩])
  (.seq (.ops [⟨(some 12), .mv (.c (.bool false)), none⟩])
  (.seq (.ops [⟨(some 13), .mv (.c (.int .u64 0)), none⟩])
  (.seq (.seq (.ops [⟨(some 98), .mv (.t 0), none⟩, ⟨(some 99), .s2b (.t 98), none⟩, ⟨(some 100), .len false (.t 99), none⟩, ⟨(some 101), .mv (.c (.int .i64 0)), none⟩])
  (.block 3 (.loop (.seq (.ops [⟨(some 102), .bin .lss (.t 101) (.t 100), none⟩])
  (.seq (.cond (.t 102) .skip (.exit 3))
  (.seq (.block 4 (.seq (.ops [⟨(some 103), .iaS 1 (.t 99) (.t 101), none⟩, ⟨(some 104), .load1 (.t 103), none⟩, ⟨(some 15), .mv (.t 104), none⟩])
  (.seq (.ops [⟨(some 16), .mv (.c (.int .u8 0)), none⟩])
  (.seq (.block 5 (.seq (.ops [⟨(some 107), .mv (.t 15), none⟩, ⟨(some 108), .bin .eql (.t 107) (.c (.int .u8 95)), none⟩, ⟨(some 109), .mv (.t 108), none⟩, ⟨(some 110), .mv (.t 8), (some (109, true))⟩, ⟨(some 111), .pick (.t 109) (.t 110) (.c (.bool false)), none⟩, ⟨(some 106), .mv (.t 111), none⟩])
  (.cond (.t 106) (.seq (.ops [⟨(some 12), .mv (.c (.bool true)), none⟩])
  (.exit 4)) (.seq (.ops [⟨(some 113), .mv (.t 15), none⟩, ⟨(some 114), .bin .leq (.c (.int .u8 48)) (.t 113), none⟩, ⟨(some 115), .mv (.t 114), none⟩, ⟨(some 116), .mv (.t 15), (some (115, true))⟩, ⟨(some 117), .bin .leq (.t 116) (.c (.int .u8 57)), (some (115, true))⟩, ⟨(some 118), .pick (.t 115) (.t 117) (.c (.bool false)), none⟩, ⟨(some 112), .mv (.t 118), none⟩])
  (.cond (.t 112) (.ops [⟨(some 119), .mv (.t 15), none⟩, ⟨(some 120), .bin .sub (.t 119) (.c (.int .u8 48)), none⟩, ⟨(some 16), .mv (.t 120), none⟩]) (.seq (.ops [⟨(some 122), .mv (.t 15), none⟩, ⟨(some 123), .call 124 [(.t 122)], none⟩, ⟨(some 124), .bin .leq (.c (.int .u8 97)) (.t 123), none⟩, ⟨(some 125), .mv (.t 124), none⟩, ⟨(some 126), .mv (.t 15), (some (125, true))⟩, ⟨(some 127), .call 124 [(.t 126)], (some (125, true))⟩, ⟨(some 128), .bin .leq (.t 127) (.c (.int .u8 122)), (some (125, true))⟩, ⟨(some 129), .pick (.t 125) (.t 128) (.c (.bool false)), none⟩, ⟨(some 121), .mv (.t 129), none⟩])
  (.cond (.t 121) (.ops [⟨(some 130), .mv (.t 15), none⟩, ⟨(some 131), .call 124 [(.t 130)], none⟩, ⟨(some 132), .bin .sub (.t 131) (.c (.int .u8 97)), none⟩, ⟨(some 133), .bin .add (.t 132) (.c (.int .u8 10)), none⟩, ⟨(some 16), .mv (.t 133), none⟩]) (.seq (.ops [⟨(some 105), .mki 169 (.c (.int .i64 2)), none⟩, ⟨(some 6), .mv (.c (.int .u64 0)), none⟩, ⟨(some 7), .mv (.t 105), none⟩])
  .ret))))))))
  (.seq (.seq (.ops [⟨(some 134), .mv (.t 16), none⟩, ⟨(some 135), .mv (.t 1), none⟩, ⟨(some 136), .conv .u8 (.t 135), none⟩, ⟨(some 137), .bin .geq (.t 134) (.t 136), none⟩])
  (.cond (.t 137) (.seq (.ops [⟨(some 138), .mki 169 (.c (.int .i64 2)), none⟩, ⟨(some 6), .mv (.c (.int .u64 0)), none⟩, ⟨(some 7), .mv (.t 138), none⟩])
  .ret) .skip))
  (.seq (.seq (.ops [⟨(some 139), .mv (.t 13), none⟩, ⟨(some 140), .mv (.t 10), none⟩, ⟨(some 141), .bin .geq (.t 139) (.t 140), none⟩])
  (.cond (.t 141) (.seq (.ops [⟨(some 142), .mv (.t 11), none⟩, ⟨(some 143), .mki 169 (.c (.int .i64 1)), none⟩, ⟨(some 6), .mv (.t 142), none⟩, ⟨(some 7), .mv (.t 143), none⟩])
  .ret) .skip))
  (.seq (.ops [⟨(some 144), .mv (.t 13), none⟩, ⟨(some 145), .mv (.t 1), none⟩, ⟨(some 146), .conv .u64 (.t 145), none⟩, ⟨(some 147), .bin .mul (.t 144) (.t 146), none⟩, ⟨(some 13), .mv (.t 147), none⟩])
  (.seq (.ops [⟨(some 148), .mv (.t 13), none⟩, ⟨(some 149), .mv (.t 16), none⟩, ⟨(some 150), .conv .u64 (.t 149), none⟩, ⟨(some 151), .bin .add (.t 148) (.t 150), none⟩, ⟨(some 17), .mv (.t 151), none⟩])
  (.seq (.seq (.ops [⟨(some 152), .mv (.t 17), none⟩, ⟨(some 153), .mv (.t 13), none⟩, ⟨(some 154), .bin .lss (.t 152) (.t 153), none⟩, ⟨(some 155), .mv (.t 154), none⟩, ⟨(some 156), .mv (.t 17), (some (155, false))⟩, ⟨(some 157), .mv (.t 11), (some (155, false))⟩, ⟨(some 158), .bin .gtr (.t 156) (.t 157), (some (155, false))⟩, ⟨(some 159), .pick (.t 155) (.c (.bool true)) (.t 158), none⟩])
  (.cond (.t 159) (.seq (.ops [⟨(some 160), .mv (.t 11), none⟩, ⟨(some 161), .mki 169 (.c (.int .i64 1)), none⟩, ⟨(some 6), .mv (.t 160), none⟩, ⟨(some 7), .mv (.t 161), none⟩])
  .ret) .skip))
  (.ops [⟨(some 162), .mv (.t 17), none⟩, ⟨(some 13), .mv (.t 162), none⟩]))))))))))
  (.ops [⟨(some 163), .bin .add (.t 101) (.c (.int .i64 1)), none⟩, ⟨(some 101), .mv (.t 163), none⟩])))))))
  (.seq (.seq (.ops [⟨(some 164), .mv (.t 12), none⟩, ⟨(some 165), .mv (.t 164), none⟩, ⟨(some 166), .mv (.t 9), (some (165, true))⟩, ⟨(some 167), .call 125 [(.t 166)], (some (165, true))⟩, ⟨(some 168), .not (.t 167), (some (165, true))⟩, ⟨(some 169), .pick (.t 165) (.t 168) (.c (.bool false)), none⟩])
  (.cond (.t 169) (.seq (.ops [⟨(some 170), .mki 169 (.c (.int .i64 2)), none⟩, ⟨(some 6), .mv (.c (.int .u64 0)), none⟩, ⟨(some 7), .mv (.t 170), none⟩])
  .ret) .skip))
  (.seq (.ops [⟨(some 171), .mv (.t 13), none⟩, ⟨(some 6), .mv (.t 171), none⟩, ⟨(some 7), .mv (.c .nilIface), none⟩])
  .ret))))))))))))))
def r119 : List RV := [.t 6, .t 7]
theorem fn119 : cFn Tryd.prog 119 = some (c119, r119, 172) := by kernel_rfl

/-- internal/stringslite.Clone -/
def c120 : MC :=
  (.seq (.ops [⟨(some 2), .mv (.c (.string ⟨#[]⟩)), none⟩])
  (.seq (.seq (.ops [⟨(some 4), .mv (.t 0), none⟩, ⟨(some 5), .len true (.t 4), none⟩, ⟨(some 6), .bin .eql (.t 5) (.c (.int .i64 0)), none⟩])
  (.cond (.t 6) (.seq (.ops [⟨(some 2), .mv (.c (.string ⟨#[]⟩)), none⟩])
  .ret) .skip))
  (.seq (.ops [⟨(some 7), .mv (.t 0), none⟩, ⟨(some 8), .len true (.t 7), none⟩, ⟨(some 9), .mks 1 1 [(.int .u8 0)] (.t 8) (.t 8), none⟩, ⟨(some 3), .mv (.t 9), none⟩])
  (.seq (.ops [⟨(some 10), .mv (.t 3), none⟩, ⟨(some 11), .mv (.t 0), none⟩, ⟨(some 12), .cpy 1 (.t 10) (.t 11), none⟩])
  (.seq (.ops [⟨(some 13), .mv (.t 3), none⟩, ⟨(some 14), .iaS 1 (.t 13) (.c (.int .i64 0)), none⟩, ⟨(some 15), .mv (.t 3), none⟩, ⟨(some 16), .len false (.t 15), none⟩, ⟨(some 17), .bad, none⟩, ⟨(some 2), .mv (.t 17), none⟩])
  .ret)))))
def r120 : List RV := [.t 2]
theorem fn120 : cFn Tryd.prog 120 = some (c120, r120, 18) := by kernel_rfl

/-- errors.New -/
def c121 : MC :=
  (.seq (.ops [⟨(some 2), .mv (.c .nilIface), none⟩])
  (.seq (.ops [⟨(some 3), .mv (.t 0), none⟩, ⟨(some 4), .bld [(.string ⟨#[]⟩)] [(0, 1, (.t 3))], none⟩, ⟨(some 5), .box (.t 4), none⟩, ⟨(some 6), .mki 190 (.t 5), none⟩, ⟨(some 2), .mv (.t 6), none⟩])
  .ret))
def r121 : List RV := [.t 2]
theorem fn121 : cFn Tryd.prog 121 = some (c121, r121, 7) := by kernel_rfl

/-- math/bits.TrailingZeros32 -/
def c122 : MC :=
  (.seq (.ops [⟨(some 2), .mv (.c (.int .i64 0)), none⟩])
  (.seq (.seq (.ops [⟨(some 3), .mv (.t 0), none⟩, ⟨(some 4), .bin .eql (.t 3) (.c (.int .u32 0)), none⟩])
  (.cond (.t 4) (.seq (.ops [⟨(some 2), .mv (.c (.int .i64 32)), none⟩])
  .ret) .skip))
  (.seq (.ops [⟨(some 5), .mv (.t 0), none⟩, ⟨(some 6), .mv (.t 0), none⟩, ⟨(some 7), .neg (.t 6), none⟩, ⟨(some 8), .bin .and (.t 5) (.t 7), none⟩, ⟨(some 9), .bin .mul (.t 8) (.c (.int .u32 125613361)), none⟩, ⟨(some 10), .bin .shr (.t 9) (.c (.int .u64 27)), none⟩, ⟨(some 11), .bad, none⟩, ⟨(some 12), .load1 (.t 11), none⟩, ⟨(some 13), .conv .i64 (.t 12), none⟩, ⟨(some 2), .mv (.t 13), none⟩])
  .ret)))
def r122 : List RV := [.t 2]
theorem fn122 : cFn Tryd.prog 122 = some (c122, r122, 14) := by kernel_rfl

/-- math/bits.TrailingZeros64 -/
def c123 : MC :=
  (.seq (.ops [⟨(some 2), .mv (.c (.int .i64 0)), none⟩])
  (.seq (.seq (.ops [⟨(some 3), .mv (.t 0), none⟩, ⟨(some 4), .bin .eql (.t 3) (.c (.int .u64 0)), none⟩])
  (.cond (.t 4) (.seq (.ops [⟨(some 2), .mv (.c (.int .i64 64)), none⟩])
  .ret) .skip))
  (.seq (.ops [⟨(some 5), .mv (.t 0), none⟩, ⟨(some 6), .mv (.t 0), none⟩, ⟨(some 7), .neg (.t 6), none⟩, ⟨(some 8), .bin .and (.t 5) (.t 7), none⟩, ⟨(some 9), .bin .mul (.t 8) (.c (.int .u64 285870213051353865)), none⟩, ⟨(some 10), .bin .shr (.t 9) (.c (.int .u64 58)), none⟩, ⟨(some 11), .bad, none⟩, ⟨(some 12), .load1 (.t 11), none⟩, ⟨(some 13), .conv .i64 (.t 12), none⟩, ⟨(some 2), .mv (.t 13), none⟩])
  .ret)))
def r123 : List RV := [.t 2]
theorem fn123 : cFn Tryd.prog 123 = some (c123, r123, 14) := by kernel_rfl

/-- internal/strconv.lower -/
def c124 : MC :=
  (.seq (.ops [⟨(some 2), .mv (.c (.int .u8 0)), none⟩])
  (.seq (.ops [⟨(some 3), .mv (.t 0), none⟩, ⟨(some 4), .bin .or (.t 3) (.c (.int .u8 32)), none⟩, ⟨(some 2), .mv (.t 4), none⟩])
  .ret))
def r124 : List RV := [.t 2]
theorem fn124 : cFn Tryd.prog 124 = some (c124, r124, 5) := by kernel_rfl

/-- internal/strconv.underscoreOK -/
def c125 : MC :=
  (.seq (.ops [⟨(some 2), .mv (.c (.bool false)), none⟩])
  (.seq (.ops [⟨(some 3), .mv (.c (.int .i32 94)), none⟩])
  (.seq (.ops [⟨(some 4), .mv (.c (.int .i64 0)), none⟩])
  (.seq (.seq (.ops [⟨(some 6), .mv (.t 0), none⟩, ⟨(some 7), .len true (.t 6), none⟩, ⟨(some 8), .bin .geq (.t 7) (.c (.int .i64 1)), none⟩, ⟨(some 9), .mv (.t 8), none⟩, ⟨(some 10), .mv (.t 0), (some (9, true))⟩, ⟨(some 11), .idxS (.t 10) (.c (.int .i64 0)), (some (9, true))⟩, ⟨(some 12), .bin .eql (.t 11) (.c (.int .u8 45)), (some (9, true))⟩, ⟨(some 13), .mv (.t 12), (some (9, true))⟩, ⟨(some 14), .mv (.t 0), (some (13, false))⟩, ⟨(some 15), .idxS (.t 14) (.c (.int .i64 0)), (some (13, false))⟩, ⟨(some 16), .bin .eql (.t 15) (.c (.int .u8 43)), (some (13, false))⟩, ⟨(some 17), .pick (.t 13) (.c (.bool true)) (.t 16), (some (9, true))⟩, ⟨(some 18), .pick (.t 9) (.t 17) (.c (.bool false)), none⟩])
  (.cond (.t 18) (.ops [⟨(some 19), .mv (.t 0), none⟩, ⟨(some 20), .slcS (.t 19) (some (.c (.int .i64 1))) none, none⟩, ⟨(some 0), .mv (.t 20), none⟩]) .skip))
  (.seq (.ops [⟨(some 5), .mv (.c (.bool false)), none⟩])
  (.seq (.seq (.ops [⟨(some 21), .mv (.t 0), none⟩, ⟨(some 22), .len true (.t 21), none⟩, ⟨(some 23), .bin .geq (.t 22) (.c (.int .i64 2)), none⟩, ⟨(some 24), .mv (.t 23), none⟩, ⟨(some 25), .mv (.t 0), (some (24, true))⟩, ⟨(some 26), .idxS (.t 25) (.c (.int .i64 0)), (some (24, true))⟩, ⟨(some 27), .bin .eql (.t 26) (.c (.int .u8 48)), (some (24, true))⟩, ⟨(some 28), .pick (.t 24) (.t 27) (.c (.bool false)), none⟩, ⟨(some 29), .mv (.t 28), none⟩, ⟨(some 30), .mv (.t 0), (some (29, true))⟩, ⟨(some 31), .idxS (.t 30) (.c (.int .i64 1)), (some (29, true))⟩, ⟨(some 32), .call 124 [(.t 31)], (some (29, true))⟩, ⟨(some 33), .bin .eql (.t 32) (.c (.int .u8 98)), (some (29, true))⟩, ⟨(some 34), .mv (.t 33), (some (29, true))⟩, ⟨(some 35), .mv (.t 0), (some (34, false))⟩, ⟨(some 36), .idxS (.t 35) (.c (.int .i64 1)), (some (34, false))⟩, ⟨(some 37), .call 124 [(.t 36)], (some (34, false))⟩, ⟨(some 38), .bin .eql (.t 37) (.c (.int .u8 111)), (some (34, false))⟩, ⟨(some 39), .pick (.t 34) (.c (.bool true)) (.t 38), (some (29, true))⟩, ⟨(some 40), .mv (.t 39), (some (29, true))⟩, ⟨(some 41), .mv (.t 0), (some (40, false))⟩, ⟨(some 42), .idxS (.t 41) (.c (.int .i64 1)), (some (40, false))⟩, ⟨(some 43), .call 124 [(.t 42)], (some (40, false))⟩, ⟨(some 44), .bin .eql (.t 43) (.c (.int .u8 120)), (some (40, false))⟩, ⟨(some 45), .pick (.t 40) (.c (.bool true)) (.t 44), (some (29, true))⟩, ⟨(some 46), .pick (.t 29) (.t 45) (.c (.bool false)), none⟩])
  (.cond (.t 46) (.seq (.ops [⟨(some 4), .mv (.c (.int .i64 2)), none⟩])
  (.seq (.ops [⟨(some 3), .mv (.c (.int .i32 48)), none⟩])
  (.ops [⟨(some 47), .mv (.t 0), none⟩, ⟨(some 48), .idxS (.t 47) (.c (.int .i64 1)), none⟩, ⟨(some 49), .call 124 [(.t 48)], none⟩, ⟨(some 50), .bin .eql (.t 49) (.c (.int .u8 120)), none⟩, ⟨(some 5), .mv (.t 50), none⟩]))) .skip))
  (.seq (.block 0 (.loop (.seq (.seq (.ops [⟨(some 51), .mv (.t 4), none⟩, ⟨(some 52), .mv (.t 0), none⟩, ⟨(some 53), .len true (.t 52), none⟩, ⟨(some 54), .bin .lss (.t 51) (.t 53), none⟩])
  (.cond (.t 54) .skip (.exit 0)))
  (.seq (.block 1 (.seq (.seq (.ops [⟨(some 57), .mv (.t 0), none⟩, ⟨(some 58), .mv (.t 4), none⟩, ⟨(some 59), .idxS (.t 57) (.t 58), none⟩, ⟨(some 60), .bin .leq (.c (.int .u8 48)) (.t 59), none⟩, ⟨(some 61), .mv (.t 60), none⟩, ⟨(some 62), .mv (.t 0), (some (61, true))⟩, ⟨(some 63), .mv (.t 4), (some (61, true))⟩, ⟨(some 64), .idxS (.t 62) (.t 63), (some (61, true))⟩, ⟨(some 65), .bin .leq (.t 64) (.c (.int .u8 57)), (some (61, true))⟩, ⟨(some 66), .pick (.t 61) (.t 65) (.c (.bool false)), none⟩, ⟨(some 67), .mv (.t 66), none⟩, ⟨(some 68), .mv (.t 5), (some (67, false))⟩, ⟨(some 69), .mv (.t 68), (some (67, false))⟩, ⟨(some 70), .mv (.t 0), (some (69, true))⟩, ⟨(some 71), .mv (.t 4), (some (69, true))⟩, ⟨(some 72), .idxS (.t 70) (.t 71), (some (69, true))⟩, ⟨(some 73), .call 124 [(.t 72)], (some (69, true))⟩, ⟨(some 74), .bin .leq (.c (.int .u8 97)) (.t 73), (some (69, true))⟩, ⟨(some 75), .pick (.t 69) (.t 74) (.c (.bool false)), (some (67, false))⟩, ⟨(some 76), .mv (.t 75), (some (67, false))⟩, ⟨(some 77), .mv (.t 0), (some (76, true))⟩, ⟨(some 78), .mv (.t 4), (some (76, true))⟩, ⟨(some 79), .idxS (.t 77) (.t 78), (some (76, true))⟩, ⟨(some 80), .call 124 [(.t 79)], (some (76, true))⟩, ⟨(some 81), .bin .leq (.t 80) (.c (.int .u8 102)), (some (76, true))⟩, ⟨(some 82), .pick (.t 76) (.t 81) (.c (.bool false)), (some (67, false))⟩, ⟨(some 83), .pick (.t 67) (.c (.bool true)) (.t 82), none⟩])
  (.cond (.t 83) (.seq (.ops [⟨(some 3), .mv (.c (.int .i32 48)), none⟩])
  (.exit 1)) .skip))
  (.seq (.seq (.ops [⟨(some 84), .mv (.t 0), none⟩, ⟨(some 85), .mv (.t 4), none⟩, ⟨(some 86), .idxS (.t 84) (.t 85), none⟩, ⟨(some 87), .bin .eql (.t 86) (.c (.int .u8 95)), none⟩])
  (.cond (.t 87) (.seq (.seq (.ops [⟨(some 88), .mv (.t 3), none⟩, ⟨(some 89), .bin .neq (.t 88) (.c (.int .i32 48)), none⟩])
  (.cond (.t 89) (.seq (.ops [⟨(some 2), .mv (.c (.bool false)), none⟩])
  .ret) .skip))
  (.seq (.ops [⟨(some 3), .mv (.c (.int .i32 95)), none⟩])
  (.exit 1))) .skip))
  (.seq (.seq (.ops [⟨(some 90), .mv (.t 3), none⟩, ⟨(some 91), .bin .eql (.t 90) (.c (.int .i32 95)), none⟩])
  (.cond (.t 91) (.seq (.ops [⟨(some 2), .mv (.c (.bool false)), none⟩])
  .ret) .skip))
  (.ops [⟨(some 3), .mv (.c (.int .i32 33)), none⟩])))))
  (.ops [⟨(some 55), .mv (.t 4), none⟩, ⟨(some 56), .bin .add (.t 55) (.c (.int .i64 1)), none⟩, ⟨(some 4), .mv (.t 56), none⟩])))))
  (.seq (.ops [⟨(some 92), .mv (.t 3), none⟩, ⟨(some 93), .bin .neq (.t 92) (.c (.int .i32 95)), none⟩, ⟨(some 2), .mv (.t 93), none⟩])
  .ret))))))))
def r125 : List RV := [.t 2]
theorem fn125 : cFn Tryd.prog 125 = some (c125, r125, 94) := by kernel_rfl

/-- (*dynamo/tag.Tagged).Unwrap -/
def c146 : MC :=
  (.seq (.ops [⟨(some 2), .mv (.c .nilIface), none⟩])
  (.seq (.seq (.ops [⟨(some 3), .mv (.t 0), none⟩, ⟨(some 4), .eqN .ptr false (.t 3) (.c (.pointer none)), none⟩])
  (.cond (.t 4) (.seq (.ops [⟨(some 2), .mv (.c .nilIface), none⟩])
  .ret) .skip))
  (.seq (.ops [⟨(some 5), .mv (.t 0), none⟩, ⟨(some 6), .nilck (.t 5), none⟩, ⟨(some 7), .fadd 1 (.t 6), none⟩, ⟨(some 8), .load1 (.t 7), none⟩, ⟨(some 2), .mv (.t 8), none⟩])
  .ret)))
def r146 : List RV := [.t 2]
theorem fn146 : cFn Tryd.prog 146 = some (c146, r146, 9) := by kernel_rfl

/-- (*strconv.NumError).Unwrap -/
def c163 : MC :=
  (.seq (.ops [⟨(some 2), .mv (.c .nilIface), none⟩])
  (.seq (.ops [⟨(some 3), .mv (.t 0), none⟩, ⟨(some 4), .nilck (.t 3), none⟩, ⟨(some 5), .fadd 2 (.t 4), none⟩, ⟨(some 6), .load1 (.t 5), none⟩, ⟨(some 2), .mv (.t 6), none⟩])
  .ret))
def r163 : List RV := [.t 2]
theorem fn163 : cFn Tryd.prog 163 = some (c163, r163, 7) := by kernel_rfl

/-- dynamo/grid.Lay (ranges over a function) -/
noncomputable def m12 : MR :=
  (.seq (.plain (.ops [⟨(some 1), .box (.t 0), none⟩, ⟨(some 2), .mv (.c (.string ⟨#[]⟩)), none⟩, ⟨(some 3), .mv (.c .nilIface), none⟩]))
  (.seq (.plain (.seq (.ops [⟨(some 6), .loadN 3 (.t 1), none⟩, ⟨(some 7), .call 16 [(.t 6)], none⟩, ⟨(some 8), .not (.t 7), none⟩])
  (.cond (.t 8) (.seq (.ops [⟨(some 9), .mki 66 (.c (.int .i64 1)), none⟩, ⟨(some 10), .call 31 [(.c (.string ⟨#[103, 114, 105, 100]⟩)), (.t 9)], none⟩, ⟨(some 2), .mv (.c (.string ⟨#[]⟩)), none⟩, ⟨(some 3), .mv (.t 10), none⟩])
  .ret) .skip)))
  (.seq (.plain (.ops [⟨(some 4), .allocT 69 [(.pointer none), (.slice none 0 0)], none⟩]))
  (.seq (.seq (.plain (.ops [⟨(some 11), .fadd 2 (.t 1), none⟩, ⟨(some 12), .load1 (.t 11), none⟩, ⟨(some 13), .s2b (.t 12), none⟩, ⟨(some 14), .fadd 0 (.t 1), none⟩, ⟨(some 15), .load1 (.t 14), none⟩, ⟨(some 16), .call 32 [(.t 13), (.t 15)], none⟩]))
  (.block 0 (.rng (.t 16) #[17] (rngA Tryd.prog 12 0) (rngB Tryd.prog 12 0) (.ops [⟨(some 5), .mv (.t 17), none⟩])
  (.block 1 (.ops [⟨(some 18), .mv (.t 5), none⟩, ⟨(some 19), .b2s (.t 18), none⟩, ⟨(some 20), .bin .add (.t 19) (.c (.string ⟨#[10]⟩)), none⟩, ⟨(some 21), .call 33 [(.t 4), (.t 20)], none⟩])))))
  (.plain (.seq (.ops [⟨(some 22), .call 34 [(.t 4)], none⟩, ⟨(some 2), .mv (.t 22), none⟩, ⟨(some 3), .mv (.c .nilIface), none⟩])
  .ret))))))
def rr12 : List RV := [.t 2, .t 3]
theorem fr12 : cFnR Tryd.prog 12 = some (m12, rr12, 23) := by kernel_rfl

/-- dynamo/grid.Parse (ranges over a function) -/
noncomputable def m15 : MR :=
  (.seq (.plain (.ops [⟨(some 2), .alloc [(.int .i64 0), (.int .i64 0), (.string ⟨#[]⟩)], none⟩, ⟨(some 3), .alloc [.nilIface], none⟩]))
  (.seq (.plain (.ops [⟨(some 4), .alloc [(.int .i64 0), (.int .i64 0), (.string ⟨#[]⟩)], none⟩]))
  (.seq (.seq (.plain (.ops [⟨(some 8), .mv (.t 0), none⟩, ⟨(some 9), .call 36 [(.t 8)], none⟩]))
  (.block 0 (.rng (.t 9) #[10] (rngA Tryd.prog 15 0) (rngB Tryd.prog 15 0) (.ops [⟨(some 5), .mv (.t 10), none⟩])
  (.block 1 (.seq (.ops [⟨(some 12), .mv (.t 5), none⟩, ⟨(some 13), .call 37 [(.t 12), (.c (.string ⟨#[10]⟩))], none⟩, ⟨(some 11), .mv (.t 13), none⟩, ⟨(some 14), .ext (.t 11) 0, none⟩, ⟨(some 15), .ext (.t 11) 1, none⟩, ⟨(some 6), .mv (.t 14), none⟩, ⟨(some 7), .mv (.t 15), none⟩])
  (.seq (.seq (.ops [⟨(some 16), .mv (.t 7), none⟩, ⟨(some 17), .not (.t 16), none⟩, ⟨(some 18), .mv (.t 17), none⟩, ⟨(some 19), .fadd 1 (.t 4), (some (18, false))⟩, ⟨(some 20), .load1 (.t 19), (some (18, false))⟩, ⟨(some 21), .bin .gtr (.t 20) (.c (.int .i64 0)), (some (18, false))⟩, ⟨(some 22), .mv (.t 21), (some (18, false))⟩, ⟨(some 23), .mv (.t 6), (some (22, true))⟩, ⟨(some 24), .len true (.t 23), (some (22, true))⟩, ⟨(some 25), .fadd 0 (.t 4), (some (22, true))⟩, ⟨(some 26), .load1 (.t 25), (some (22, true))⟩, ⟨(some 27), .bin .neq (.t 24) (.t 26), (some (22, true))⟩, ⟨(some 28), .pick (.t 22) (.t 27) (.c (.bool false)), (some (18, false))⟩, ⟨(some 29), .pick (.t 18) (.c (.bool true)) (.t 28), none⟩, ⟨(some 30), .mv (.t 29), none⟩, ⟨(some 31), .fadd 1 (.t 4), (some (30, false))⟩, ⟨(some 32), .load1 (.t 31), (some (30, false))⟩, ⟨(some 33), .bin .eql (.t 32) (.c (.int .i64 8)), (some (30, false))⟩, ⟨(some 34), .pick (.t 30) (.c (.bool true)) (.t 33), none⟩])
  (.cond (.t 34) (.seq (.ops [⟨(some 35), .bld [(.int .i64 0), (.int .i64 0), (.string ⟨#[]⟩)] [], none⟩, ⟨(some 36), .mki 66 (.c (.int .i64 2)), none⟩, ⟨(some 37), .call 31 [(.c (.string ⟨#[103, 114, 105, 100]⟩)), (.t 36)], none⟩, ⟨none, .store 3 (.t 2) (.t 35), none⟩, ⟨none, .store 1 (.t 3) (.t 37), none⟩])
  .ret) .skip))
  (.ops [⟨(some 38), .mv (.t 6), none⟩, ⟨(some 39), .len true (.t 38), none⟩, ⟨(some 40), .fadd 1 (.t 4), none⟩, ⟨(some 41), .load1 (.t 40), none⟩, ⟨(some 42), .bin .add (.t 41) (.c (.int .i64 1)), none⟩, ⟨(some 43), .fadd 2 (.t 4), none⟩, ⟨(some 44), .load1 (.t 43), none⟩, ⟨(some 45), .mv (.t 6), none⟩, ⟨(some 46), .bin .add (.t 44) (.t 45), none⟩, ⟨(some 47), .fadd 0 (.t 4), none⟩, ⟨none, .store 1 (.t 47) (.t 39), none⟩, ⟨(some 48), .fadd 1 (.t 4), none⟩, ⟨none, .store 1 (.t 48) (.t 42), none⟩, ⟨(some 49), .fadd 2 (.t 4), none⟩, ⟨none, .store 1 (.t 49) (.t 46), none⟩])))))))
  (.plain (.seq (.seq (.ops [⟨(some 50), .loadN 3 (.t 4), none⟩, ⟨(some 51), .call 16 [(.t 50)], none⟩, ⟨(some 52), .not (.t 51), none⟩])
  (.cond (.t 52) (.seq (.ops [⟨(some 53), .bld [(.int .i64 0), (.int .i64 0), (.string ⟨#[]⟩)] [], none⟩, ⟨(some 54), .mki 66 (.c (.int .i64 2)), none⟩, ⟨(some 55), .call 31 [(.c (.string ⟨#[103, 114, 105, 100]⟩)), (.t 54)], none⟩, ⟨none, .store 3 (.t 2) (.t 53), none⟩, ⟨none, .store 1 (.t 3) (.t 55), none⟩])
  .ret) .skip))
  (.seq (.ops [⟨(some 56), .loadN 3 (.t 4), none⟩, ⟨none, .store 3 (.t 2) (.t 56), none⟩, ⟨none, .store 1 (.t 3) (.c .nilIface), none⟩])
  .ret))))))
def rr15 : List RV := [.cell 2 3 true, .cell 3 1 false]
theorem fr15 : cFnR Tryd.prog 15 = some (m15, rr15, 57) := by kernel_rfl

/-- dynamo/text.All (ranges over a function) -/
noncomputable def m28 : MR :=
  (.seq (.plain (.ops [⟨(some 2), .alloc [(.slice none 0 0)], none⟩, ⟨(some 3), .alloc [(.int .i64 0)], none⟩, ⟨(some 4), .alloc [.nilIface], none⟩]))
  (.seq (.plain (.seq (.ops [⟨(some 10), .mv (.t 0), none⟩, ⟨(some 11), .len true (.t 10), none⟩, ⟨(some 12), .bin .gtr (.t 11) (.c (.int .i64 20000)), none⟩])
  (.cond (.t 12) (.seq (.ops [⟨(some 13), .mki 66 (.c (.int .i64 8)), none⟩, ⟨(some 14), .call 31 [(.c (.string ⟨#[116, 101, 120, 116]⟩)), (.t 13)], none⟩, ⟨none, .store 1 (.t 2) (.c (.slice none 0 0)), none⟩, ⟨none, .store 1 (.t 3) (.c (.int .i64 0)), none⟩, ⟨none, .store 1 (.t 4) (.t 14), none⟩])
  .ret) .skip)))
  (.seq (.plain (.ops [⟨(some 5), .alloc [(.slice none 0 0)], none⟩]))
  (.seq (.plain (.ops [⟨(some 6), .alloc [(.int .i64 0)], none⟩, ⟨none, .store 1 (.t 6) (.c (.int .i64 0)), none⟩]))
  (.seq (.seq (.plain (.ops [⟨(some 15), .mv (.t 0), none⟩, ⟨(some 16), .call 36 [(.t 15)], none⟩]))
  (.block 0 (.rng (.t 16) #[17] (rngA Tryd.prog 28 0) (rngB Tryd.prog 28 0) (.ops [⟨(some 7), .mv (.t 17), none⟩])
  (.block 1 (.seq (.ops [⟨(some 18), .load1 (.t 6), none⟩, ⟨(some 19), .bin .add (.t 18) (.c (.int .i64 1)), none⟩, ⟨none, .store 1 (.t 6) (.t 19), none⟩])
  (.seq (.ops [⟨(some 21), .mv (.t 7), none⟩, ⟨(some 22), .call 24 [(.t 21)], none⟩, ⟨(some 20), .mv (.t 22), none⟩, ⟨(some 23), .ext (.t 20) 0, none⟩, ⟨(some 24), .ext (.t 20) 1, none⟩, ⟨(some 8), .alloc [(.string ⟨#[]⟩), (.int .i64 0), (.int .i64 0), (.int .i64 0)], none⟩, ⟨none, .store 4 (.t 8) (.t 23), none⟩, ⟨(some 9), .mv (.t 24), none⟩])
  (.seq (.seq (.ops [⟨(some 25), .mv (.t 9), none⟩, ⟨(some 26), .eqN .iface true (.t 25) (.c .nilIface), none⟩])
  (.cond (.t 26) (.seq (.dops [⟨⟨(some 27), .load1 (.t 6), none⟩, 0, false, false⟩, ⟨⟨(some 28), .mv (.t 9), none⟩, 1, false, false⟩, ⟨⟨none, .store 1 (.t 2) (.c (.slice none 0 0)), none⟩, 2, true, true⟩, ⟨⟨none, .store 1 (.t 3) (.t 27), none⟩, 3, true, false⟩, ⟨⟨none, .store 1 (.t 4) (.t 28), none⟩, 4, true, false⟩])
  .ret) .skip))
  (.ops [⟨(some 29), .load1 (.t 5), none⟩, ⟨(some 30), .loadN 4 (.t 8), none⟩, ⟨(some 31), .bsl 4 1 [(.string ⟨#[]⟩), (.int .i64 0), (.int .i64 0), (.int .i64 0)] [(0, (.t 30))], none⟩, ⟨(some 32), .app 4 40 (.t 29) (.t 31), none⟩, ⟨none, .store 1 (.t 5) (.t 32), none⟩]))))))))
  (.plain (.seq (.ops [⟨(some 33), .load1 (.t 5), none⟩, ⟨none, .store 1 (.t 2) (.t 33), none⟩, ⟨none, .store 1 (.t 3) (.c (.int .i64 0)), none⟩, ⟨none, .store 1 (.t 4) (.c .nilIface), none⟩])
  .ret)))))))
def rr28 : List RV := [.cell 2 1 false, .cell 3 1 false, .cell 4 1 false]
theorem fr28 : cFnR Tryd.prog 28 = some (m28, rr28, 34) := by kernel_rfl

end Go.Proofs.YtepjinaomedecaaDoor.Code
