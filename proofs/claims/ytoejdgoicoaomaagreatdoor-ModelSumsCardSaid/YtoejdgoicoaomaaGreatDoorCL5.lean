/- The small code of a law, with the fact that it is its. -/
import Derived.Test.YtoejdgoicoaomaaGreatDoorCode
namespace Go.Proofs.YtoejdgoicoaomaaGreatDoor.Code
open Go.Mini
set_option maxRecDepth 100000
def c5:MC:=
 (.seq (.ops [iI 2 (.box (.t 0)),iI 4 (.mv (.c (.bool false)))])
 (.seq (.seq (.ops [iI 14 (.call 12 []),iI 15 (.not (.t 14)),vI 16 15,jI 17 (.loadN 3 (.t 2)) 16 false,jI 18 (.call 16 [(.t 17)]) 16 false,jI 19 (.not (.t 18)) 16 false,iI 20 (.pick (.t 16) (.c (.bool true)) (.t 19)),vI 21 20,uI 22 1 21 false,jI 23 (.call 13 [(.t 22)]) 21 false,jI 24 (.bin .eql (.t 23) (.c (.int .i64 0))) 21 false,iI 25 (.pick (.t 21) (.c (.bool true)) (.t 24))])
 (.cond (.t 25) (.seq (.ops [iI 26 (.call 12 []),vI 4 26])
 .ret) .skip))
 (.seq (.ops [iI 28 (.loadN 3 (.t 2)),iI 29 (.call 15 [(.t 28)]),iI 30 (.call 14 [(.t 29)]),vI 27 30,iI 31 (.ext (.t 27) 0),iI 32 (.ext (.t 27) 1),iI 5 (.alloc zl0),sI (.store 172 (.t 5) (.t 31)),vI 6 32])
 (.seq (.ops [iI 7 (.alloc [(.int .i64 0),(.int .i64 0),(.int .i64 0),(.int .i64 0),(.int .i64 0),(.int .i64 0),(.int .i64 0),(.int .i64 0),(.int .i64 0),(.int .i64 0)])])
 (.seq (.seq (.ops [iI 8 (.mv (.c (.int .i64 0)))])
 (.block 0 (.loop (.seq (.seq (.ops [vI 33 8,vI 34 1,iI 35 (.len false (.t 34)),iI 36 (.bin .lss (.t 33) (.t 35))])
 (.cond (.t 36) .skip (.exit 0)))
 (.seq (.block 1 (.seq (.dops [dI (iI 40 (.loadN 172 (.t 5))) 0,dI (vI 41 1) 1,dI (vI 42 8) 2,dI (iI 43 (.iaS 4 (.t 41) (.t 42))) 3,dI (iI 44 (.loadN 4 (.t 43))) 4,qI (iI 45 (.call 19 [(.t 44)])) 5,pI (iI 46 (.call 18 [(.t 40),(.t 45)])) 6,dI (vI 39 46) 7,dI (iI 47 (.ext (.t 39) 0)) 8,dI (iI 48 (.ext (.t 39) 1)) 9,dI (iI 49 (.ext (.t 39) 2)) 10,qI (iI 9 (.alloc zl0)) 11,pI (sI (.store 172 (.t 9) (.t 47))) 12,dI (vI 10 48) 13,dI (vI 11 49) 14])
 (.seq (.seq (.ops [vI 50 11,iI 51 (.call 17 [(.t 50)]),iI 52 (.bin .neq (.t 51) (.c (.int .i64 0)))])
 (.cond (.t 52) (.exit 1) .skip))
 (.seq (.seq (.ops [iI 12 (.mv (.c (.int .i64 0)))])
 (.block 2 (.loop (.seq (.seq (.ops [vI 53 12,iI 54 (.bin .lss (.t 53) (.c (.int .i64 10)))])
 (.cond (.t 54) .skip (.exit 2)))
 (.seq (.block 3 (.seq (.seq (.ops [vI 57 12,iI 58 (.fadd 82 (.t 9)),iI 59 (.iaA 10 1 (.t 58) (.t 57)),iI 60 (.load1 (.t 59)),iI 61 (.not (.t 60))])
 (.cond (.t 61) (.exit 3) .skip))
 (.seq (.ops [vI 62 12,iI 63 (.fadd 12 (.t 9)),iI 64 (.iaA 10 7 (.t 63) (.t 62)),iI 65 (.loadN 7 (.t 64)),iI 13 (.alloc [(.int .i64 0),(.int .i64 0),(.int .i64 0),(.int .i64 0),(.int .i64 0),(.int .i64 0),(.int .i64 0)]),sI (.store 7 (.t 13) (.t 65))])
 (.seq (.seq (.ops [vI 66 12,iI 67 (.fadd 82 (.t 5)),iI 68 (.iaA 10 1 (.t 67) (.t 66)),iI 69 (.load1 (.t 68)),iI 70 (.not (.t 69))])
 (.cond (.t 70) (.ops [vI 71 12,iI 72 (.fadd 1 (.t 13)),iI 73 (.load1 (.t 72)),iI 74 (.iaA 10 1 (.t 7) (.t 71)),sI (.store 1 (.t 74) (.t 73))]) .skip))
 (.seq (.dops [dI (iI 75 (.fadd 1 (.t 13))) 0,dI (iI 76 (.load1 (.t 75))) 1,dI (vI 77 12) 2,dI (iI 78 (.iaA 10 1 (.t 7) (.t 77))) 3,dI (iI 79 (.load1 (.t 78))) 4,dI (iI 80 (.fadd 5 (.t 13))) 5,dI (iI 81 (.load1 (.t 80))) 6,dI (iI 82 (.bin .add (.t 79) (.t 81))) 7,dI (iI 83 (.fadd 6 (.t 13))) 8,dI (iI 84 (.load1 (.t 83))) 9,dI (iI 85 (.bin .add (.t 82) (.t 84))) 10,dI (iI 86 (.fadd 4 (.t 13))) 11,dI (iI 87 (.load1 (.t 86))) 12,dI (iI 88 (.bin .sub (.t 85) (.t 87))) 13,dI (iI 89 (.bin .neq (.t 76) (.t 88))) 14,dI (vI 90 89) 15,dI (jI 91 (.fadd 1 (.t 13)) 90 false) 16,dI (jI 92 (.load1 (.t 91)) 90 false) 17,dI (jI 93 (.bin .lss (.t 92) (.c (.int .i64 0))) 90 false) 18,dI (iI 94 (.pick (.t 90) (.c (.bool true)) (.t 93))) 19,dI (vI 95 94) 20,dI (jI 96 (.fadd 1 (.t 13)) 95 false) 21,dI (jI 97 (.load1 (.t 96)) 95 false) 22,dI (jI 98 (.bin .gtr (.t 97) (.c (.int .i64 200))) 95 false) 23,dI (iI 99 (.pick (.t 95) (.c (.bool true)) (.t 98))) 24])
 (.cond (.t 99) (.seq (.ops [iI 4 (.mv (.c (.bool false)))])
 .ret) .skip))))))
 (.ops [vI 55 12,iI 56 (.bin .add (.t 55) (.c (.int .i64 1))),vI 12 56]))))))
 (.ops [iI 100 (.loadN 172 (.t 9)),sI (.store 172 (.t 5) (.t 100))])))))
 (.ops [vI 37 8,iI 38 (.bin .add (.t 37) (.c (.int .i64 1))),vI 8 38]))))))
 (.seq (.ops [iI 4 (.mv (.c (.bool true)))])
 .ret))))))
def r5:List RV:=[.t 4]
theorem fn5:cFn Tryz.prog 5=some (c5,r5,101):=by kernel_rfl
end Go.Proofs.YtoejdgoicoaomaaGreatDoor.Code
