/- The small code of a law, with the fact that it is its. -/
import Derived.Test.YtoejdgoicoaomaaGreatDoorCode
namespace Go.Proofs.YtoejdgoicoaomaaGreatDoor.Code
open Go.Mini
set_option maxRecDepth 100000
def c6:MC:=
 (.seq (.ops [iI 2 (.box (.t 0)),iI 4 (.mv (.c (.bool false)))])
 (.seq (.seq (.ops [iI 13 (.call 12 []),iI 14 (.not (.t 13)),vI 15 14,jI 16 (.loadN 3 (.t 2)) 15 false,jI 17 (.call 16 [(.t 16)]) 15 false,jI 18 (.not (.t 17)) 15 false,iI 19 (.pick (.t 15) (.c (.bool true)) (.t 18)),vI 20 19,uI 21 1 20 false,jI 22 (.call 13 [(.t 21)]) 20 false,jI 23 (.bin .eql (.t 22) (.c (.int .i64 0))) 20 false,iI 24 (.pick (.t 20) (.c (.bool true)) (.t 23))])
 (.cond (.t 24) (.seq (.ops [iI 25 (.call 12 []),vI 4 25])
 .ret) .skip))
 (.seq (.ops [iI 27 (.loadN 3 (.t 2)),iI 28 (.call 15 [(.t 27)]),iI 29 (.call 14 [(.t 28)]),vI 26 29,iI 30 (.ext (.t 26) 0),iI 31 (.ext (.t 26) 1),iI 5 (.alloc zl0),sI (.store 172 (.t 5) (.t 30)),vI 6 31])
 (.seq (.seq (.ops [iI 7 (.mv (.c (.int .i64 0)))])
 (.block 0 (.loop (.seq (.seq (.ops [vI 32 7,vI 33 1,iI 34 (.len false (.t 33)),iI 35 (.bin .lss (.t 32) (.t 34))])
 (.cond (.t 35) .skip (.exit 0)))
 (.seq (.block 1 (.seq (.dops [dI (iI 39 (.loadN 172 (.t 5))) 0,dI (vI 40 1) 1,dI (vI 41 7) 2,dI (iI 42 (.iaS 4 (.t 40) (.t 41))) 3,dI (iI 43 (.loadN 4 (.t 42))) 4,qI (iI 44 (.call 19 [(.t 43)])) 5,pI (iI 45 (.call 18 [(.t 39),(.t 44)])) 6,dI (vI 38 45) 7,dI (iI 46 (.ext (.t 38) 0)) 8,dI (iI 47 (.ext (.t 38) 1)) 9,dI (iI 48 (.ext (.t 38) 2)) 10,qI (iI 8 (.alloc zl0)) 11,pI (sI (.store 172 (.t 8) (.t 46))) 12,dI (vI 9 47) 13,dI (vI 10 48) 14])
 (.seq (.seq (.ops [vI 49 10,iI 50 (.call 17 [(.t 49)]),iI 51 (.bin .neq (.t 50) (.c (.int .i64 0)))])
 (.cond (.t 51) (.exit 1) .skip))
 (.seq (.seq (.ops [iI 11 (.mv (.c (.int .i64 0)))])
 (.block 2 (.loop (.seq (.seq (.ops [vI 52 11,iI 53 (.bin .lss (.t 52) (.c (.int .i64 20)))])
 (.cond (.t 53) .skip (.exit 2)))
 (.seq (.block 3 (.seq (.seq (.dops [dI (vI 56 11) 0,dI (iI 57 (.fadd 152 (.t 5))) 1,dI (iI 58 (.iaA 20 1 (.t 57) (.t 56))) 2,dI (iI 59 (.load1 (.t 58))) 3,dI (vI 60 59) 4,dI (uI 61 11 60 true) 5,dI (jI 62 (.fadd 152 (.t 8)) 60 true) 6,dI (jI 63 (.iaA 20 1 (.t 62) (.t 61)) 60 true) 7,dI (jI 64 (.load1 (.t 63)) 60 true) 8,dI (jI 65 (.not (.t 64)) 60 true) 9,dI (uI 66 65 60 true) 10,dI (uI 67 11 66 false) 11,dI (jI 68 (.fadd 92 (.t 8)) 66 false) 12,dI (jI 69 (.iaA 20 3 (.t 68) (.t 67)) 66 false) 13,dI (jI 70 (.fadd 0 (.t 69)) 66 false) 14,dI (jI 71 (.load1 (.t 70)) 66 false) 15,dI (uI 72 11 66 false) 16,dI (jI 73 (.fadd 92 (.t 5)) 66 false) 17,dI (jI 74 (.iaA 20 3 (.t 73) (.t 72)) 66 false) 18,dI (jI 75 (.fadd 0 (.t 74)) 66 false) 19,dI (jI 76 (.load1 (.t 75)) 66 false) 20,dI (jI 77 (.bin .neq (.t 71) (.t 76)) 66 false) 21,dI (jI 78 (.pick (.t 66) (.c (.bool true)) (.t 77)) 60 true) 22,dI (uI 79 78 60 true) 23,dI (uI 80 11 79 false) 24,dI (jI 81 (.fadd 92 (.t 8)) 79 false) 25,dI (jI 82 (.iaA 20 3 (.t 81) (.t 80)) 79 false) 26,dI (jI 83 (.fadd 1 (.t 82)) 79 false) 27,dI (jI 84 (.load1 (.t 83)) 79 false) 28,dI (uI 85 11 79 false) 29,dI (jI 86 (.fadd 92 (.t 5)) 79 false) 30,dI (jI 87 (.iaA 20 3 (.t 86) (.t 85)) 79 false) 31,dI (jI 88 (.fadd 1 (.t 87)) 79 false) 32,dI (jI 89 (.load1 (.t 88)) 79 false) 33,dI (jI 90 (.bin .neq (.t 84) (.t 89)) 79 false) 34,dI (jI 91 (.pick (.t 79) (.c (.bool true)) (.t 90)) 60 true) 35,dI (iI 92 (.pick (.t 60) (.t 91) (.c (.bool false)))) 36])
 (.cond (.t 92) (.seq (.ops [iI 4 (.mv (.c (.bool false)))])
 .ret) .skip))
 (.seq (.dops [dI (vI 93 11) 0,dI (iI 94 (.fadd 92 (.t 8))) 1,dI (iI 95 (.iaA 20 3 (.t 94) (.t 93))) 2,dI (iI 96 (.fadd 2 (.t 95))) 3,dI (iI 97 (.load1 (.t 96))) 4,dI (vI 98 11) 5,dI (iI 99 (.fadd 92 (.t 5))) 6,dI (iI 100 (.iaA 20 3 (.t 99) (.t 98))) 7,dI (iI 101 (.fadd 2 (.t 100))) 8,dI (iI 102 (.load1 (.t 101))) 9,dI (iI 103 (.bin .sub (.t 97) (.t 102))) 10,dI (vI 12 103) 11])
 (.seq (.ops [vI 104 12,iI 105 (.bin .lss (.t 104) (.c (.int .i64 0))),vI 106 105,uI 107 12 106 false,jI 108 (.bin .gtr (.t 107) (.c (.int .i64 2))) 106 false,iI 109 (.pick (.t 106) (.c (.bool true)) (.t 108)),vI 110 109,uI 111 12 110 false,jI 112 (.bin .gtr (.t 111) (.c (.int .i64 0))) 110 false,uI 113 112 110 false,uI 114 1 113 true,uI 115 7 113 true,jI 116 (.iaS 4 (.t 114) (.t 115)) 113 true,jI 117 (.fadd 0 (.t 116)) 113 true,jI 118 (.load1 (.t 117)) 113 true,jI 119 (.bin .neq (.t 118) (.c (.string ⟨#[116,105,99,107]⟩))) 113 true,jI 120 (.pick (.t 113) (.t 119) (.c (.bool false))) 110 false,iI 121 (.pick (.t 110) (.c (.bool true)) (.t 120)),vI 122 121,uI 123 12 122 false,jI 124 (.bin .eql (.t 123) (.c (.int .i64 2))) 122 false,uI 125 124 122 false,uI 126 11 125 true,jI 127 (.fadd 92 (.t 5)) 125 true,jI 128 (.iaA 20 3 (.t 127) (.t 126)) 125 true,jI 129 (.fadd 2 (.t 128)) 125 true,jI 130 (.load1 (.t 129)) 125 true,jI 131 (.bin .neq (.t 130) (.c (.int .i64 0))) 125 true,jI 132 (.pick (.t 125) (.t 131) (.c (.bool false))) 122 false,iI 133 (.pick (.t 122) (.c (.bool true)) (.t 132))])
 (.cond (.t 133) (.seq (.ops [iI 4 (.mv (.c (.bool false)))])
 .ret) .skip)))))
 (.ops [vI 54 11,iI 55 (.bin .add (.t 54) (.c (.int .i64 1))),vI 11 55]))))))
 (.ops [iI 134 (.loadN 172 (.t 8)),sI (.store 172 (.t 5) (.t 134))])))))
 (.ops [vI 36 7,iI 37 (.bin .add (.t 36) (.c (.int .i64 1))),vI 7 37]))))))
 (.seq (.ops [iI 4 (.mv (.c (.bool true)))])
 .ret)))))
def r6:List RV:=[.t 4]
theorem fn6:cFn Tryz.prog 6=some (c6,r6,135):=by kernel_rfl
end Go.Proofs.YtoejdgoicoaomaaGreatDoor.Code
