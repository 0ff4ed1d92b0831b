/- The small code of a law, with the fact that it is its. -/
import Derived.Test.YtoejdgoicoaomaaGreatDoorCode
namespace Go.Proofs.YtoejdgoicoaomaaGreatDoor.Code
open Go.Mini
set_option maxRecDepth 100000
def c9:MC:=
 (.seq (.ops [iI 3 (.box (.t 0)),iI 6 (.mv (.c (.bool false)))])
 (.seq (.seq (.ops [iI 19 (.call 12 []),iI 20 (.not (.t 19)),vI 21 20,jI 22 (.loadN 3 (.t 3)) 21 false,jI 23 (.call 16 [(.t 22)]) 21 false,jI 24 (.not (.t 23)) 21 false,iI 25 (.pick (.t 21) (.c (.bool true)) (.t 24)),vI 26 25,uI 27 1 26 false,jI 28 (.call 13 [(.t 27)]) 26 false,jI 29 (.bin .eql (.t 28) (.c (.int .i64 0))) 26 false,iI 30 (.pick (.t 26) (.c (.bool true)) (.t 29))])
 (.cond (.t 30) (.seq (.ops [iI 31 (.call 12 []),vI 6 31])
 .ret) .skip))
 (.seq (.ops [iI 33 (.loadN 3 (.t 3)),iI 34 (.call 15 [(.t 33)]),iI 35 (.call 14 [(.t 34)]),vI 32 35,iI 36 (.ext (.t 32) 0),iI 37 (.ext (.t 32) 1),iI 7 (.alloc zl0),sI (.store 172 (.t 7) (.t 36)),vI 8 37])
 (.seq (.ops [iI 38 (.loadN 172 (.t 7)),vI 39 1,iI 40 (.call 28 [(.t 38),(.t 39)]),sI (.store 172 (.t 7) (.t 40))])
 (.seq (.ops [iI 41 (.loadN 3 (.t 3)),iI 42 (.call 15 [(.t 41)]),iI 43 (.call 26 [(.t 42),(.c (.int .u8 67))]),vI 9 43])
 (.seq (.seq (.ops [iI 10 (.mv (.c (.int .i64 0)))])
 (.block 0 (.loop (.seq (.seq (.ops [vI 44 10,vI 45 9,iI 46 (.len false (.t 45)),iI 47 (.bin .lss (.t 44) (.t 46))])
 (.cond (.t 47) .skip (.exit 0)))
 (.seq (.block 1 (.seq (.dops [dI (iI 51 (.loadN 172 (.t 7))) 0,dI (vI 52 9) 1,dI (vI 53 10) 2,dI (iI 54 (.iaS 1 (.t 52) (.t 53))) 3,dI (iI 55 (.load1 (.t 54))) 4,dI (iI 56 (.bld [(.string ⟨#[]⟩),(.int .i64 0),(.int .i64 0),(.int .i64 0)] [(0,1,(.c (.string ⟨#[111,102,102]⟩))),(2,1,(.t 55))])) 5,pI (iI 57 (.call 18 [(.t 51),(.t 56)])) 6,dI (vI 50 57) 7,dI (iI 58 (.ext (.t 50) 0)) 8,dI (iI 59 (.ext (.t 50) 1)) 9,dI (iI 60 (.ext (.t 50) 2)) 10,qI (iI 11 (.alloc zl0)) 11,pI (sI (.store 172 (.t 11) (.t 58))) 12,dI (vI 12 59) 13,dI (vI 13 60) 14])
 (.seq (.seq (.ops [vI 61 13,iI 62 (.call 17 [(.t 61)]),iI 63 (.bin .neq (.t 62) (.c (.int .i64 0)))])
 (.cond (.t 63) (.seq (.ops [iI 6 (.mv (.c (.bool false)))])
 .ret) .skip))
 (.ops [iI 64 (.loadN 172 (.t 11)),sI (.store 172 (.t 7) (.t 64))]))))
 (.ops [vI 48 10,iI 49 (.bin .add (.t 48) (.c (.int .i64 1))),vI 10 49]))))))
 (.seq (.seq (.ops [iI 14 (.mv (.c (.int .i64 0)))])
 (.block 2 (.loop (.seq (.seq (.ops [vI 65 14,vI 66 2,iI 67 (.conv .i64 (.t 66)),iI 68 (.bin .rem (.t 67) (.c (.int .i64 5))),iI 69 (.bin .leq (.t 65) (.t 68))])
 (.cond (.t 69) .skip (.exit 2)))
 (.seq (.block 3 (.seq (.ops [iI 73 (.loadN 172 (.t 7)),iI 74 (.bld [(.string ⟨#[]⟩),(.int .i64 0),(.int .i64 0),(.int .i64 0)] [(0,1,(.c (.string ⟨#[116,105,99,107]⟩)))]),iI 75 (.call 18 [(.t 73),(.t 74)]),vI 72 75,iI 76 (.ext (.t 72) 0),iI 77 (.ext (.t 72) 1),iI 78 (.ext (.t 72) 2),iI 15 (.alloc zl0),sI (.store 172 (.t 15) (.t 76)),vI 16 77,vI 17 78])
 (.seq (.seq (.ops [vI 79 17,iI 80 (.call 17 [(.t 79)]),iI 81 (.bin .neq (.t 80) (.c (.int .i64 0)))])
 (.cond (.t 81) (.seq (.ops [iI 6 (.mv (.c (.bool false)))])
 .ret) .skip))
 (.seq (.seq (.ops [iI 18 (.mv (.c (.int .i64 0)))])
 (.block 4 (.loop (.seq (.seq (.ops [vI 82 18,iI 83 (.bin .lss (.t 82) (.c (.int .i64 10)))])
 (.cond (.t 83) .skip (.exit 4)))
 (.seq (.block 5 (.seq (.dops [dI (vI 86 18) 0,dI (iI 87 (.fadd 82 (.t 15))) 1,dI (iI 88 (.iaA 10 1 (.t 87) (.t 86))) 2,dI (iI 89 (.load1 (.t 88))) 3,dI (vI 90 89) 4,dI (uI 91 18 90 true) 5,dI (jI 92 (.fadd 12 (.t 15)) 90 true) 6,dI (jI 93 (.iaA 10 7 (.t 92) (.t 91)) 90 true) 7,dI (jI 94 (.fadd 2 (.t 93)) 90 true) 8,dI (jI 95 (.load1 (.t 94)) 90 true) 9,dI (jI 96 (.bin .neq (.t 95) (.c (.int .i64 4))) 90 true) 10,dI (uI 97 96 90 true) 11,dI (uI 98 18 97 false) 12,dI (jI 99 (.fadd 12 (.t 15)) 97 false) 13,dI (jI 100 (.iaA 10 7 (.t 99) (.t 98)) 97 false) 14,dI (jI 101 (.fadd 0 (.t 100)) 97 false) 15,dI (jI 102 (.load1 (.t 101)) 97 false) 16,dI (uI 103 18 97 false) 17,dI (jI 104 (.fadd 12 (.t 7)) 97 false) 18,dI (jI 105 (.iaA 10 7 (.t 104) (.t 103)) 97 false) 19,dI (jI 106 (.fadd 0 (.t 105)) 97 false) 20,dI (jI 107 (.load1 (.t 106)) 97 false) 21,dI (jI 108 (.bin .neq (.t 102) (.t 107)) 97 false) 22,dI (jI 109 (.pick (.t 97) (.c (.bool true)) (.t 108)) 90 true) 23,dI (uI 110 109 90 true) 24,dI (uI 111 18 110 false) 25,dI (jI 112 (.fadd 12 (.t 15)) 110 false) 26,dI (jI 113 (.iaA 10 7 (.t 112) (.t 111)) 110 false) 27,dI (jI 114 (.fadd 1 (.t 113)) 110 false) 28,dI (jI 115 (.load1 (.t 114)) 110 false) 29,dI (uI 116 18 110 false) 30,dI (jI 117 (.fadd 12 (.t 7)) 110 false) 31,dI (jI 118 (.iaA 10 7 (.t 117) (.t 116)) 110 false) 32,dI (jI 119 (.fadd 1 (.t 118)) 110 false) 33,dI (jI 120 (.load1 (.t 119)) 110 false) 34,dI (jI 121 (.bin .neq (.t 115) (.t 120)) 110 false) 35,dI (jI 122 (.pick (.t 110) (.c (.bool true)) (.t 121)) 90 true) 36,dI (iI 123 (.pick (.t 90) (.t 122) (.c (.bool false)))) 37])
 (.cond (.t 123) (.seq (.ops [iI 6 (.mv (.c (.bool false)))])
 .ret) .skip)))
 (.ops [vI 84 18,iI 85 (.bin .add (.t 84) (.c (.int .i64 1))),vI 18 85]))))))
 (.ops [iI 124 (.loadN 172 (.t 15)),sI (.store 172 (.t 7) (.t 124))])))))
 (.ops [vI 70 14,iI 71 (.bin .add (.t 70) (.c (.int .i64 1))),vI 14 71]))))))
 (.seq (.ops [iI 6 (.mv (.c (.bool true)))])
 .ret))))))))
def r9:List RV:=[.t 6]
theorem fn9:cFn Tryz.prog 9=some (c9,r9,125):=by kernel_rfl
end Go.Proofs.YtoejdgoicoaomaaGreatDoor.Code
