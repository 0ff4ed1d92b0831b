/- The small code of a law, with the fact that it is its. -/
import Derived.Test.YtoejdgoicoaomaaGreatDoorCode
namespace Go.Proofs.YtoejdgoicoaomaaGreatDoor.Code
open Go.Mini
set_option maxRecDepth 100000
def c11:MC:=
 (.seq (.ops [iI 3 (.box (.t 0)),iI 6 (.mv (.c (.bool false)))])
 (.seq (.seq (.ops [iI 12 (.call 12 []),iI 13 (.not (.t 12)),vI 14 13,jI 15 (.loadN 3 (.t 3)) 14 false,jI 16 (.call 16 [(.t 15)]) 14 false,jI 17 (.not (.t 16)) 14 false,iI 18 (.pick (.t 14) (.c (.bool true)) (.t 17)),vI 19 18,uI 20 1 19 false,jI 21 (.call 13 [(.t 20)]) 19 false,jI 22 (.bin .eql (.t 21) (.c (.int .i64 0))) 19 false,iI 23 (.pick (.t 19) (.c (.bool true)) (.t 22))])
 (.cond (.t 23) (.seq (.ops [iI 24 (.call 12 []),vI 6 24])
 .ret) .skip))
 (.seq (.ops [iI 26 (.loadN 3 (.t 3)),iI 27 (.call 15 [(.t 26)]),iI 28 (.call 14 [(.t 27)]),vI 25 28,iI 29 (.ext (.t 25) 0),iI 30 (.ext (.t 25) 1),iI 7 (.alloc zl0),sI (.store 172 (.t 7) (.t 29)),vI 8 30])
 (.seq (.ops [iI 31 (.loadN 172 (.t 7)),vI 32 1,iI 33 (.call 28 [(.t 31),(.t 32)]),sI (.store 172 (.t 7) (.t 33))])
 (.seq (.seq (.ops [vI 34 2,iI 35 (.bin .rem (.t 34) (.c (.int .u8 5)))])
 (.block 0 (.seq (.ops [iI 37 (.bin .eql (.t 35) (.c (.int .u8 0))),vI 36 37])
 (.cond (.t 36) (.seq (.ops [iI 38 (.fadd 12 (.t 7)),iI 39 (.iaA 10 7 (.t 38) (.c (.int .i64 9))),iI 40 (.fadd 1 (.t 39)),sI (.store 1 (.t 40) (.c (.int .i64 201)))])
 (.ops [iI 41 (.fadd 82 (.t 7)),iI 42 (.iaA 10 1 (.t 41) (.c (.int .i64 9))),sI (.store 1 (.t 42) (.c (.bool true)))])) (.seq (.ops [iI 44 (.bin .eql (.t 35) (.c (.int .u8 1))),vI 43 44])
 (.cond (.t 43) (.seq (.ops [iI 45 (.fadd 152 (.t 7)),iI 46 (.iaA 20 1 (.t 45) (.c (.int .i64 19))),sI (.store 1 (.t 46) (.c (.bool true)))])
 (.seq (.ops [iI 47 (.fadd 92 (.t 7)),iI 48 (.iaA 20 3 (.t 47) (.c (.int .i64 19))),iI 49 (.fadd 2 (.t 48)),sI (.store 1 (.t 49) (.c (.int .i64 2)))])
 (.ops [iI 50 (.fadd 92 (.t 7)),iI 51 (.iaA 20 3 (.t 50) (.c (.int .i64 19))),iI 52 (.fadd 0 (.t 51)),sI (.store 1 (.t 52) (.c (.int .i64 64)))]))) (.seq (.ops [iI 54 (.bin .eql (.t 35) (.c (.int .u8 2))),vI 53 54])
 (.cond (.t 53) (.ops [iI 55 (.fadd 3 (.t 7)),iI 56 (.fadd 0 (.t 55)),sI (.store 1 (.t 56) (.c (.int .i64 (-1))))]) (.seq (.ops [iI 58 (.bin .eql (.t 35) (.c (.int .u8 3))),vI 57 58])
 (.cond (.t 57) (.ops [iI 59 (.fadd 0 (.t 7)),iI 60 (.fadd 2 (.t 59)),iI 61 (.load1 (.t 60)),iI 62 (.bin .add (.t 61) (.c (.string ⟨#[46]⟩))),iI 63 (.fadd 0 (.t 7)),iI 64 (.fadd 2 (.t 63)),sI (.store 1 (.t 64) (.t 62))]) (.seq (.ops [iI 66 (.bin .eql (.t 35) (.c (.int .u8 4))),vI 65 66])
 (.cond (.t 65) (.seq (.ops [iI 67 (.fadd 82 (.t 7)),iI 68 (.iaA 10 1 (.t 67) (.c (.int .i64 8))),sI (.store 1 (.t 68) (.c (.bool false)))])
 (.ops [iI 69 (.fadd 12 (.t 7)),iI 70 (.iaA 10 7 (.t 69) (.c (.int .i64 8))),iI 71 (.fadd 0 (.t 70)),sI (.store 1 (.t 71) (.c (.int .i64 1)))])) .skip))))))))))))
 (.seq (.ops [iI 73 (.loadN 172 (.t 7)),iI 74 (.bld [(.string ⟨#[]⟩),(.int .i64 0),(.int .i64 0),(.int .i64 0)] [(0,1,(.c (.string ⟨#[116,105,99,107]⟩)))]),iI 75 (.call 18 [(.t 73),(.t 74)]),vI 72 75,iI 76 (.ext (.t 72) 0),iI 77 (.ext (.t 72) 1),iI 78 (.ext (.t 72) 2),iI 9 (.alloc zl0),sI (.store 172 (.t 9) (.t 76)),vI 10 77,vI 11 78])
 (.seq (.ops [iI 79 (.loadN 172 (.t 7)),iI 80 (.call 20 [(.t 79)]),iI 81 (.not (.t 80)),vI 82 81,uI 83 11 82 true,jI 84 (.call 17 [(.t 83)]) 82 true,jI 85 (.bin .eql (.t 84) (.c (.int .i64 1))) 82 true,iI 86 (.pick (.t 82) (.t 85) (.c (.bool false))),vI 87 86,jI 88 (.loadN 172 (.t 9)) 87 true,jI 89 (.bld zl0 []) 87 true,jI 90 (.eqA false [.int,.int,.str,.int,.int,.int,.int,.int,.int,.int,.int,.int,.int,.int,.int,.int,.int,.int,.int,.int,.int,.int,.int,.int,.int,.int,.int,.int,.int,.int,.int,.int,.int,.int,.int,.int,.int,.int,.int,.int,.int,.int,.int,.int,.int,.int,.int,.int,.int,.int,.int,.int,.int,.int,.int,.int,.int,.int,.int,.int,.int,.int,.int,.int,.int,.int,.int,.int,.int,.int,.int,.int,.int,.int,.int,.int,.int,.int,.int,.int,.int,.int,.bool,.bool,.bool,.bool,.bool,.bool,.bool,.bool,.bool,.bool,.int,.int,.int,.int,.int,.int,.int,.int,.int,.int,.int,.int,.int,.int,.int,.int,.int,.int,.int,.int,.int,.int,.int,.int,.int,.int,.int,.int,.int,.int,.int,.int,.int,.int,.int,.int,.int,.int,.int,.int,.int,.int,.int,.int,.int,.int,.int,.int,.int,.int,.int,.int,.int,.int,.int,.int,.int,.int,.int,.int,.bool,.bool,.bool,.bool,.bool,.bool,.bool,.bool,.bool,.bool,.bool,.bool,.bool,.bool,.bool,.bool,.bool,.bool,.bool,.bool] (.t 88) (.t 89)) 87 true,iI 91 (.pick (.t 87) (.t 90) (.c (.bool false))),vI 6 91])
 .ret)))))))
def r11:List RV:=[.t 6]
theorem fn11:cFn Tryz.prog 11=some (c11,r11,92):=by kernel_rfl
end Go.Proofs.YtoejdgoicoaomaaGreatDoor.Code
