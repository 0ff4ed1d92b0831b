/- The small code of a law, with the fact that it is its. -/
import Derived.Test.YtoejdgoicoaomaaGreatDoorCode
namespace Go.Proofs.YtoejdgoicoaomaaGreatDoor.Code
open Go.Mini
set_option maxRecDepth 100000
def c3:MC:=
 (.seq (.ops [iI 2 (.box (.t 0)),iI 4 (.mv (.c (.bool false)))])
 (.seq (.seq (.ops [iI 11 (.call 12 []),iI 12 (.not (.t 11)),vI 13 12,jI 14 (.fadd 2 (.t 2)) 13 false,jI 15 (.load1 (.t 14)) 13 false,jI 16 (.len true (.t 15)) 13 false,jI 17 (.bin .gtr (.t 16) (.c (.int .i64 200))) 13 false,iI 18 (.pick (.t 13) (.c (.bool true)) (.t 17)),vI 19 18,uI 20 1 19 false,jI 21 (.call 13 [(.t 20)]) 19 false,jI 22 (.bin .eql (.t 21) (.c (.int .i64 0))) 19 false,iI 23 (.pick (.t 19) (.c (.bool true)) (.t 22))])
 (.cond (.t 23) (.seq (.ops [iI 24 (.call 12 []),vI 4 24])
 .ret) .skip))
 (.seq (.ops [iI 26 (.loadN 3 (.t 2)),iI 27 (.call 15 [(.t 26)]),iI 28 (.call 14 [(.t 27)]),vI 25 28,iI 29 (.ext (.t 25) 0),iI 30 (.ext (.t 25) 1),iI 5 (.alloc zl0),sI (.store 172 (.t 5) (.t 29)),vI 6 30])
 (.seq (.seq (.ops [iI 31 (.loadN 3 (.t 2)),iI 32 (.call 16 [(.t 31)]),iI 33 (.not (.t 32))])
 (.cond (.t 33) (.seq (.ops [vI 34 6,iI 35 (.call 17 [(.t 34)]),iI 36 (.bin .eql (.t 35) (.c (.int .i64 1))),vI 37 36,jI 38 (.loadN 172 (.t 5)) 37 true,jI 39 (.bld zl0 []) 37 true,jI 40 (.eqA false [.int,.int,.str,.int,.int,.int,.int,.int,.int,.int,.int,.int,.int,.int,.int,.int,.int,.int,.int,.int,.int,.int,.int,.int,.int,.int,.int,.int,.int,.int,.int,.int,.int,.int,.int,.int,.int,.int,.int,.int,.int,.int,.int,.int,.int,.int,.int,.int,.int,.int,.int,.int,.int,.int,.int,.int,.int,.int,.int,.int,.int,.int,.int,.int,.int,.int,.int,.int,.int,.int,.int,.int,.int,.int,.int,.int,.int,.int,.int,.int,.int,.int,.bool,.bool,.bool,.bool,.bool,.bool,.bool,.bool,.bool,.bool,.int,.int,.int,.int,.int,.int,.int,.int,.int,.int,.int,.int,.int,.int,.int,.int,.int,.int,.int,.int,.int,.int,.int,.int,.int,.int,.int,.int,.int,.int,.int,.int,.int,.int,.int,.int,.int,.int,.int,.int,.int,.int,.int,.int,.int,.int,.int,.int,.int,.int,.int,.int,.int,.int,.int,.int,.int,.int,.int,.int,.bool,.bool,.bool,.bool,.bool,.bool,.bool,.bool,.bool,.bool,.bool,.bool,.bool,.bool,.bool,.bool,.bool,.bool,.bool,.bool] (.t 38) (.t 39)) 37 true,iI 41 (.pick (.t 37) (.t 40) (.c (.bool false))),vI 4 41])
 .ret) .skip))
 (.seq (.seq (.ops [iI 7 (.mv (.c (.int .i64 0)))])
 (.block 0 (.loop (.seq (.seq (.ops [vI 42 7,vI 43 1,iI 44 (.len false (.t 43)),iI 45 (.bin .lss (.t 42) (.t 44))])
 (.cond (.t 45) .skip (.exit 0)))
 (.seq (.block 1 (.seq (.dops [dI (iI 49 (.loadN 172 (.t 5))) 0,dI (vI 50 1) 1,dI (vI 51 7) 2,dI (iI 52 (.iaS 4 (.t 50) (.t 51))) 3,dI (iI 53 (.loadN 4 (.t 52))) 4,qI (iI 54 (.call 19 [(.t 53)])) 5,pI (iI 55 (.call 18 [(.t 49),(.t 54)])) 6,dI (vI 48 55) 7,dI (iI 56 (.ext (.t 48) 0)) 8,dI (iI 57 (.ext (.t 48) 1)) 9,dI (iI 58 (.ext (.t 48) 2)) 10,qI (iI 8 (.alloc zl0)) 11,pI (sI (.store 172 (.t 8) (.t 56))) 12,dI (vI 9 57) 13,dI (vI 10 58) 14])
 (.seq (.seq (.ops [vI 59 10,iI 60 (.call 17 [(.t 59)]),iI 61 (.bin .neq (.t 60) (.c (.int .i64 0)))])
 (.cond (.t 61) (.seq (.seq (.ops [iI 62 (.loadN 172 (.t 8)),iI 63 (.bld zl0 []),iI 64 (.eqA true [.int,.int,.str,.int,.int,.int,.int,.int,.int,.int,.int,.int,.int,.int,.int,.int,.int,.int,.int,.int,.int,.int,.int,.int,.int,.int,.int,.int,.int,.int,.int,.int,.int,.int,.int,.int,.int,.int,.int,.int,.int,.int,.int,.int,.int,.int,.int,.int,.int,.int,.int,.int,.int,.int,.int,.int,.int,.int,.int,.int,.int,.int,.int,.int,.int,.int,.int,.int,.int,.int,.int,.int,.int,.int,.int,.int,.int,.int,.int,.int,.int,.int,.bool,.bool,.bool,.bool,.bool,.bool,.bool,.bool,.bool,.bool,.int,.int,.int,.int,.int,.int,.int,.int,.int,.int,.int,.int,.int,.int,.int,.int,.int,.int,.int,.int,.int,.int,.int,.int,.int,.int,.int,.int,.int,.int,.int,.int,.int,.int,.int,.int,.int,.int,.int,.int,.int,.int,.int,.int,.int,.int,.int,.int,.int,.int,.int,.int,.int,.int,.int,.int,.int,.int,.int,.int,.bool,.bool,.bool,.bool,.bool,.bool,.bool,.bool,.bool,.bool,.bool,.bool,.bool,.bool,.bool,.bool,.bool,.bool,.bool,.bool] (.t 62) (.t 63)),vI 65 64,uI 66 9 65 false,jI 67 (.len false (.t 66)) 65 false,jI 68 (.bin .neq (.t 67) (.c (.int .i64 0))) 65 false,iI 69 (.pick (.t 65) (.c (.bool true)) (.t 68))])
 (.cond (.t 69) (.seq (.ops [iI 4 (.mv (.c (.bool false)))])
 .ret) .skip))
 (.exit 1)) .skip))
 (.seq (.seq (.dops [dI (iI 70 (.loadN 172 (.t 8))) 0,pI (iI 71 (.call 20 [(.t 70)])) 1,dI (iI 72 (.not (.t 71))) 2,dI (vI 73 72) 3,dI (jI 74 (.loadN 172 (.t 5)) 73 false) 4,dI (jI 76 (.loadN 172 (.t 8)) 73 false) 6,qI (jI 75 (.call 22 [(.t 74)]) 73 false) 5,pI (jI 77 (.call 22 [(.t 76)]) 73 false) 7,pI (jI 78 (.call 21 [(.t 75),(.t 77)]) 73 false) 8,dI (jI 79 (.not (.t 78)) 73 false) 9,dI (iI 80 (.pick (.t 73) (.c (.bool true)) (.t 79))) 10,dI (vI 81 80) 11,dI (jI 82 (.fadd 0 (.t 8)) 81 false) 12,dI (jI 83 (.loadN 3 (.t 82)) 81 false) 13,dI (jI 84 (.fadd 0 (.t 5)) 81 false) 14,dI (jI 85 (.loadN 3 (.t 84)) 81 false) 15,dI (jI 86 (.eqA true [.int,.int,.str] (.t 83) (.t 85)) 81 false) 16,dI (iI 87 (.pick (.t 81) (.c (.bool true)) (.t 86))) 17])
 (.cond (.t 87) (.seq (.ops [iI 4 (.mv (.c (.bool false)))])
 .ret) .skip))
 (.ops [iI 88 (.loadN 172 (.t 8)),sI (.store 172 (.t 5) (.t 88))])))))
 (.ops [vI 46 7,iI 47 (.bin .add (.t 46) (.c (.int .i64 1))),vI 7 47]))))))
 (.seq (.ops [iI 89 (.loadN 172 (.t 5)),iI 90 (.call 20 [(.t 89)]),vI 4 90])
 .ret))))))
def r3:List RV:=[.t 4]
theorem fn3:cFn Tryz.prog 3=some (c3,r3,91):=by kernel_rfl
end Go.Proofs.YtoejdgoicoaomaaGreatDoor.Code
